/-
Texts of the proof, part 5: J2 J3 J4 K3 K4.
No statement of the program is proved here.
-/
import Derived.Test.YtlcholjffgaemaaM4
import Derived.ChangeKeysEq
import Derived.Laws.NewFold
set_option linter.unusedVariables false
set_option linter.unusedSimpArgs false
set_option linter.unusedSectionVars false
namespace Go.Abs
open Go
noncomputable section
variable {P : Program} {d : Option Tmp} {ty : TypeId} {ρ : Type}
def baTy (P : Program) (t : TypeId) (n : Nat) (q : TypeDesc) : Bool := match P.underlying t with
 | some (.array n' e) => Nat.beq n' n && (sameB (P.underlying e) q && (Nat.beq (P.cellsOf e) 1 && ((match P.info? e with
  | some i => Nat.beq i.size 1
  | none => false) && !P.eqGuardType P.depth t)))
 | _ => false
where
 sameB : Option TypeDesc -> TypeDesc -> Bool
 | some (.int k), .int k' => kindEq k k'
 | some .bool, .bool => true
 | some .string, .string => true
 | _, _ => false
structure TyXE where
 nf : Option Nat := none
 eq : Option (List TypeDesc) := none
 mp : Option (Bool × TypeId × Ty) := none
 ar : Option (Nat × Nat) := none
 ba : Option (Nat × TypeDesc) := none
def sameD : Option TypeDesc -> TypeDesc -> Bool
 | some (.int k), .int k' => kindEq k k'
 | some .bool, .bool => true
 | some .string, .string => true
 | _, _ => false
theorem sameD_eq {o : Option TypeDesc} {x : TypeDesc} (h : sameD o x = true) : o = some x := by
 unfold sameD at h
 split at h
 ·rw [kindEq_eq h]
 ·rfl
 ·rfl
 ·cases h
def eqFs (P : Program) : List Field -> List TypeDesc -> Nat -> Bool
 | [], [], _ => true
 | f :: l, x :: m, k => !(f.name == "_") && (Nat.beq f.offset k && (sameD (P.underlying f.type) x && eqFs P l m (k + 1)))
 | _, _, _ => false
def eqTy (P : Program) (t : TypeId) (l : List TypeDesc) : Bool := match P.underlying t with
 | some (.struct fs) => !P.stoodInHeld t && (!P.eqGuardType P.depth t && eqFs P fs.toList l 0)
 | _ => false
structure TyXE.Ok (P : Program) [Tys P] (t : TypeId) (c : TyXE) : Prop where
 nf : ∀ n, c.nf = some n -> ∃ fs, P.underlying t = some (.struct fs) /\ fs.size = n /\ (Tys.c P t).fields.length = n
 eq : ∀ l, c.eq = some l -> eqTy P t l = true
 mp : ∀ s e τ, c.mp = some (s, e, τ) -> MapT P t s e
 ar : ∀ n s, c.ar = some (n, s) -> ∃ e, TyArr P t n e s
 ba : ∀ n q, c.ba = some (n, q) -> baTy P t n q = true
theorem baTy_out {P : Program} {t : TypeId} {n : Nat} {q : TypeDesc} (h : baTy P t n q = true) : ∃ e i, P.underlying t = some (.array n e) /\ sameD (P.underlying e) q = true /\ P.cellsOf e = 1 /\ P.info? e = some i /\ i.size = 1 /\ P.eqGuardType P.depth t = false := by
 unfold baTy at h
 split at h
 ·rename_i n' e hu
  simp only [Bool.and_eq_true, Bool.not_eq_true'] at h
  obtain ⟨h1, h2, h3, h4, h5⟩ := h
  obtain rfl := Nat.eq_of_beq_eq_true h1
  split at h4
  ·rename_i i hi
   refine ⟨e, i, hu, ?_, Nat.eq_of_beq_eq_true h3, hi, Nat.eq_of_beq_eq_true h4, h5⟩
   unfold baTy.sameB at h2
   unfold sameD
   exact h2
  ·cases h4
 ·cases h
class TyX (P : Program) [Tys P] where
 x : TypeId -> TyXE
 ok : ∀ t, TyXE.Ok P t (x t)
section
variable [SU] [Codes]
def EV.isStr : EV -> Bool
 | .st _ _ => true
 | .agg _ => true
 | _ => false
def partE (u : EV) (K : List EV -> Option ρ) : Option ρ := match u with
 | .st i x => bif Codes.fro i then K (cellsE 0 [] (.st i) x 0 0 (SU.sz i)) else none
 | .agg l => K l
 | .un => none
 | .und => none
 | .tup _ => none
 | u => K [u]
structure CellsOk (H : Heap) (ι : Id -> Option Nat) (F : Nat -> Prop) (w : World) (len : Len) (l : List EV) (cs : Array Value) : Prop where
 sz : cs.size = l.length
 get : ∀ j, j < l.length -> ∃ c, cs[j]? = some c /\ c.oneCell' = true /\ VRel H ι F w (toVs len l j) c
theorem partE_ok {u : EV} {K : List EV -> Option ρ} {res : ρ} (h : partE u K = some res) : ∃ l, K l = some res /\ ∀ H ι F w len v, VRel H ι F w (toV len u) v -> CellsOk H ι F w len l v.cells := by
 have one : ∀ u' : EV, (∀ len, (toV len u').one = true) -> ∀ H ι F w len v, VRel H ι F w (toV len u') v -> CellsOk H ι F w len [u'] v.cells := by
  intro u' ho H ι F w len v hv
  have hp := V.one_plain (ho len) hv
  have hc : v.cells = #[v] := by cases v <;> first | rfl | (simp [Value.oneCell'] at hp)
  refine ⟨by rw [hc]; rfl, fun j hj => ⟨v, ?_, hp, ?_⟩⟩
  ·have : j = 0 := by simpa using hj
   subst this; rw [hc]; rfl
  ·have : j = 0 := by simpa using hj
   subst this; exact hv
 unfold partE at h
 split at h
 ·rename_i i x
  obtain ⟨hf, h⟩ := bif_none h
  refine ⟨_, h, fun H ι F w len v hv => ?_⟩
  obtain ⟨cs, rfl, h2, h3⟩ := hv
  refine ⟨by rw [cellsE_len]; exact h2, fun j hj => ?_⟩
  rw [cellsE_len] at hj
  obtain ⟨c, a, b, e⟩ := h3 j hj
  refine ⟨c, a, b, ?_⟩
  rw [cellsE_at len 0 [] (.st i) x 0 (SU.sz i) 0 j hj, Nat.zero_add, cellE_F (τ := .st i) hf hj]
  exact e
 ·rename_i l
  refine ⟨_, h, fun H ι F w len v hv => ?_⟩
  obtain ⟨cs, rfl, h2, h3⟩ := hv
  exact ⟨h2, h3⟩
 ·cases h
 ·cases h
 ·cases h
 ·rename_i h1 h2 h3 h4 h5
  refine ⟨_, h, one u fun len => ?_⟩
  cases u <;> first | (simp only [toV, V.one]; done) | exact absurd rfl (h1 _ _) | exact absurd rfl (h2 _) | exact absurd rfl h3 | exact absurd rfl h4 | exact absurd rfl (h5 _) | (simp only [toV]; split <;> rfl)
def setE : List EV -> Nat -> List EV -> List EV
 | l, _, [] => l
 | [], _, _ => []
 | _ :: l, 0, v :: m => v :: setE l 0 m
 | a :: l, n + 1, m => a :: setE l n m
theorem setE_len : ∀ (l : List EV) (c : Nat) (m : List EV), (setE l c m).length = l.length
 | [], c, m => by cases m <;> simp [setE]
 | _ :: _, c, [] => by simp [setE]
 | _ :: l, 0, _ :: m => by simp only [setE, List.length_cons, setE_len l 0 m]
 | _ :: l, c + 1, v :: m => by simp only [setE, List.length_cons, setE_len l c (v :: m)]
theorem setE_at (len : Len) : ∀ (l : List EV) (c : Nat) (m : List EV) (j : Nat), c + m.length <= l.length -> toVs len (setE l c m) j = if c <= j /\ j < c + m.length then toVs len m (j - c) else toVs len l j
 | l, c, [], j, h => by
  have : setE l c [] = l := by cases l <;> rfl
  rw [this, if_neg (by simp)]
 | [], c, v :: m, j, h => by simp at h
 | a :: l, 0, v :: m, 0, h => by simp [setE, toVs]
 | a :: l, 0, v :: m, j + 1, h => by
  simp only [setE, toVs, List.length_cons]
  rw [setE_at len l 0 m j (by simp only [List.length_cons] at h; omega)]
  by_cases hj : j < m.length
  ·rw [if_pos (by omega), if_pos (by omega)]; simp only [Nat.sub_zero, toVs]
  ·rw [if_neg (by omega), if_neg (by omega)]
 | a :: l, c + 1, v :: m, 0, h => by simp [setE, toVs]
 | a :: l, c + 1, v :: m, j + 1, h => by
  simp only [setE, toVs]
  rw [setE_at len l c (v :: m) j (by simp only [List.length_cons] at h ⊢; omega)]
  by_cases hj : c <= j /\ j < c + (v :: m).length
  ·rw [if_pos hj, if_pos (by omega), show j + 1 - (c + 1) = j - c by omega]
  ·rw [if_neg hj, if_neg (by omega)]
def fillE (fs : List (Nat × Bool × Nat)) (ev : Operand -> EV) : List (Nat × Operand) -> List EV -> (List EV -> Option ρ) -> Option ρ
 | [], c, K => K c
 | (i, x) :: r, c, K => match nth fs i with
  | some (off, _, s) => partE (ev x) fun l => bif Nat.beq l.length s && Nat.ble (off + s) c.length then fillE fs ev r (setE c off l) K else none
  | none => none
def buildStO (P : Program) [Tys P] [TyX P] (ev : Operand -> EV) (t : TypeId) (A : List (Nat × Operand)) (K : EV -> Option ρ) : Option ρ := match (TyX.x P t).nf, (Tys.c P t).zero with
 | some _, some z => fillE (Tys.c P t).fields ev A (z.cells.toList.map evCell) fun c => K (.agg c)
 | none, some z => (match (TyX.x P t).ba with
  | some (n, _) => fillE ((List.range n).map fun i => (i, false, 1)) ev A (z.cells.toList.map evCell) fun c => K (.agg c)
  | none => none)
 | _, _ => none
theorem foldl_set : ∀ (l : List Value) (o : Nat) (cs : Array Value) (j0 : Nat), o + j0 + l.length <= cs.size -> ((l.zipIdx j0).foldl (fun cs (p : Value × Nat) => cs.setIfInBounds (o + p.2) p.1) cs).size = cs.size /\
  (∀ j, j < l.length -> ((l.zipIdx j0).foldl (fun cs (p : Value × Nat) => cs.setIfInBounds (o + p.2) p.1) cs)[o + j0 + j]? = l[j]?) /\
  (∀ x, x < o + j0 \/ o + j0 + l.length <= x -> ((l.zipIdx j0).foldl (fun cs (p : Value × Nat) => cs.setIfInBounds (o + p.2) p.1) cs)[x]? = cs[x]?) := by
 intro l
 induction l with
 | nil => intro o cs j0 _; exact ⟨rfl, fun j hj => absurd hj (Nat.not_lt_zero _), fun x _ => rfl⟩
 | cons a l ih =>
  intro o cs j0 hsz
  simp only [List.length_cons] at hsz
  simp only [List.zipIdx_cons, List.foldl_cons]
  obtain ⟨i1, i2, i3⟩ := ih o (cs.setIfInBounds (o + j0) a) (j0 + 1) (by simp; omega)
  refine ⟨by rw [i1]; simp, fun j hj => ?_, fun x hx => ?_⟩
  ·cases j with
   | zero =>
    rw [i3 _ (by omega)]
    simp [Array.getElem?_setIfInBounds_self_of_lt (show o + j0 < cs.size by omega)]
   | succ j =>
    have := i2 j (by simpa using hj)
    rw [show o + j0 + (j + 1) = o + (j0 + 1) + j by omega, this]; simp
  ·rw [i3 x (by simp only [List.length_cons] at hx; omega)]
   rw [Array.getElem?_setIfInBounds_ne (by simp only [List.length_cons] at hx; omega)]
theorem fillE_ok {fs : List (Nat × Bool × Nat)} {s : ESt} {place : Nat -> Option (Nat × Nat)} (hpl : ∀ i off a n, nth fs i = some (off, a, n) -> place i = some (off, n)) {res : ρ} : ∀ (A : List (Nat × Operand)) (c : List EV) (K : List EV -> Option ρ), fillE fs s.eval A c K = some res ->
  ∃ c', K c' = some res /\ ∀ E ι F a w, Rel E ι F (toSt s) a w -> ∀ cs, CellsOk (toH s.heap) ι F w s.heap.len c cs -> ∃ cs', Instr.fill place cs (A.map fun p => (p.1, a.eval p.2)) = some cs' /\ CellsOk (toH s.heap) ι F w s.heap.len c' cs'
 | [], c, K, h => ⟨c, h, fun E ι F a w r cs hc => ⟨cs, rfl, hc⟩⟩
 | (i, x) :: A, c, K, h => by
  simp only [fillE] at h
  cases hn : nth fs i with
  | none => rw [hn] at h; cases h
  | some q =>
   obtain ⟨off, ag, n⟩ := q
   rw [hn] at h
   obtain ⟨l, hl, hp⟩ := partE_ok h
   obtain ⟨hb, hl⟩ := bif_none hl
   simp only [Bool.and_eq_true] at hb
   obtain ⟨b1, b2⟩ := hb
   have b1 := Nat.eq_of_beq_eq_true b1
   have b2 := Nat.le_of_ble_eq_true b2
   obtain ⟨c', k1, k2⟩ := fillE_ok hpl A _ K hl
   refine ⟨c', k1, fun E ι F a w r cs hc => ?_⟩
   have hv : VRel (toH s.heap) ι F w (toV s.heap.len (s.eval x)) (a.eval x) := s.eval_wk x _ _ _ _ _ (r.eval x)
   have pc := hp _ _ _ _ _ _ hv
   have hcz := hc.sz
   have hsz : (a.eval x).cells.size = n := by rw [pc.sz, b1]
   have hz : (a.eval x).cells.zipIdx.foldl (fun cs (p : Value × Nat) => cs.setIfInBounds (off + p.2) p.1) cs = ((a.eval x).cells.toList.zipIdx 0).foldl (fun cs (p : Value × Nat) => cs.setIfInBounds (off + p.2) p.1) cs := by
    rw [<- Array.foldl_toList, Array.toList_zipIdx]
   obtain ⟨g1, g2, g3⟩ := foldl_set (a.eval x).cells.toList off cs 0 (by simp [hsz]; omega)
   obtain ⟨cs', r1, r2⟩ := k2 E ι F a w r (((a.eval x).cells.toList.zipIdx 0).foldl (fun cs (p : Value × Nat) => cs.setIfInBounds (off + p.2) p.1) cs) ⟨by rw [g1, setE_len]; exact hcz, fun j hj => by
    rw [setE_len] at hj
    rw [setE_at _ _ _ _ _ (by omega)]
    by_cases hin : off <= j /\ j < off + l.length
    ·rw [if_pos hin]
     obtain ⟨v, q1, q2, q3⟩ := pc.get (j - off) (by omega)
     refine ⟨v, ?_, q2, q3⟩
     have := g2 (j - off) (by simp [hsz]; omega)
     rw [Nat.add_zero, show off + (j - off) = j by omega] at this
     rw [this, Array.getElem?_toList]; exact q1
    ·rw [if_neg hin]
     obtain ⟨v, q1, q2, q3⟩ := hc.get j hj
     refine ⟨v, ?_, q2, q3⟩
     rw [g3 j (by simp [hsz]; omega)]; exact q1⟩
   refine ⟨cs', ?_, r2⟩
   simp only [List.map_cons, Instr.fill, hpl i off ag n hn]
   rw [if_neg (by simp [hsz]; omega), hz]
   exact r1
theorem places_run {w : World} : ∀ (fs : List Field) (l : List (Nat × Bool × Nat)), fs.length = l.length -> (∀ i off a n, nth l i = some (off, a, n) -> ∃ fl, fs[i]? = some fl /\ fl.offset = off /\ TySz P fl.type a n) ->
  (fs.mapM fun f => do pure (f.offset, <- sizeOf f.type) : Sem (List (Nat × Nat))).run P w = .ok (l.map fun q => (q.1, q.2.2)) w
 | [], [], _, _ => by simp
 | f :: fs, (off, a, n) :: l, hl, h => by
  obtain ⟨fl, h1, h2, h3⟩ := h 0 off a n rfl
  simp only [List.getElem?_cons_zero, Option.some.injEq] at h1
  subst h1
  have ih := places_run (w := w) fs l (by simpa using hl) (fun i off a n hn => by
   obtain ⟨fl, q1, q2⟩ := h (i + 1) off a n hn
   exact ⟨fl, by simpa using q1, q2⟩)
  simp only [List.mapM_cons, Sem.run_bind, sizeOf_run (P := P) (t := f.type) w, Result.andThen_ok, Sem.run_pure, ih, h2, List.map_cons]
theorem nth_get {α : Type} : ∀ (l : List α) (i : Nat), nth l i = l[i]?
 | [], i => by simp [nth]
 | a :: l, 0 => rfl
 | a :: l, i + 1 => by simp only [nth, nth_get l i]; simp
theorem buildStO_ok [T : Tys P] [X : TyX P] {s : ESt} {t : TypeId} {A : Array (Nat × Operand)} {K : EV -> Option ρ} {res : ρ} (h : buildStO P s.eval t A.toList K = some res) :
  ∃ u, (∀ d ty, QV P ⟨d, .build t A, ty, none⟩ (toV s.heap.len u) (toSt s)) /\ K u = some res := by
 unfold buildStO at h
 split at h
 ·rename_i n z hn hz
  obtain ⟨fs, hu, hsz, hlen⟩ := (X.ok t).nf n hn
  have hzero := (T.ok t).zero z hz
  have hfld : ∀ i off a m, nth (Tys.c P t).fields i = some (off, a, m) -> ∃ fl, fs.toList[i]? = some fl /\ fl.offset = off /\ TySz P fl.type a m := fun i off a m hi => by
   obtain ⟨⟨fs', fl, q1, q2, q3, q4⟩, _⟩ := (T.ok t).fld i off a m hi
   rw [hu] at q1
   injection q1 with q1; injection q1 with q1; subst q1
   exact ⟨fl, by rw [Array.getElem?_toList]; exact q2, q3, q4⟩
  obtain ⟨c', k1, k2⟩ := fillE_ok (place := fun i => ((Tys.c P t).fields.map fun q => (q.1, q.2.2))[i]?) (fun i off a m hi => by rw [nth_get] at hi; simp [hi]) A.toList _ _ h
  refine ⟨_, fun d ty E ι F a w r => ?_, k1⟩
  obtain ⟨cs', r1, r2⟩ := k2 E ι F a w r z.cells ⟨by simp, fun j hj => by
   have hj : j < z.cells.size := by simpa using hj
   refine ⟨z.cells[j], Array.getElem?_eq_getElem hj, Array.all_eq_true_iff_forall_mem.1 hzero.c _ (Array.getElem_mem hj), ?_⟩
   rw [toVs_eq, List.getD_eq_getElem?_getD]
   simp only [List.getElem?_map, Array.getElem?_toList, Array.getElem?_eq_getElem hj, Option.map_some, Option.getD_some, evCell_eq]
   exact V.cell_rel _ _ _ _ _⟩
  have hp := places_run (P := P) (w := w) fs.toList (Tys.c P t).fields (by simp [hsz, hlen]) hfld
  have hp2 : (fs.mapM fun f => do pure (f.offset, <- sizeOf f.type) : Sem (Array (Nat × Nat))).run P w = .ok ((Tys.c P t).fields.map fun q => (q.1, q.2.2)).toArray w := by
   rw [Array.mapM_eq_mapM_toList]
   rw [Sem.run_map]
   exact (congrArg (fun r => Result.andThen r _) hp).trans rfl
  refine ⟨.agg cs', ?_, cs', rfl, r2.sz, r2.get⟩
  have hr1 : Instr.fill (fun i => ((Tys.c P t).fields.map fun q => (q.1, q.2.2)).toArray[i]?) z.cells ((A.map fun p => (p.1, a.eval p.2)).toList) = some cs' := by
   rw [<- r1]; simp
  simp only [execOp, GOp.oper, Instr.build, Sem.run_bind, zero_run (P := P) (t := t) (v := z), Result.andThen_ok, run_underlying' hu, hp2]
  simp only [hr1, Sem.run_pure, Result.andThen_ok]
 ·rename_i z hn hz
  split at h
  ·rename_i n q hb
   obtain ⟨e, i, hu, -, h1, hi, -, -⟩ := baTy_out ((X.ok t).ba n q hb)
   have hzero := (T.ok t).zero z hz
   obtain ⟨c', k1, k2⟩ := fillE_ok (place := fun j => some (j * P.cellsOf e, P.cellsOf e)) (fun j off a m hj => by
    rw [nth_get] at hj
    simp only [List.getElem?_map] at hj
    cases hr : (List.range n)[j]? with
    | none => rw [hr] at hj; cases hj
    | some x =>
     rw [hr] at hj
     obtain ⟨hl, hx⟩ := List.getElem?_eq_some_iff.1 hr
     simp only [List.getElem_range] at hx
     simp only [Option.map_some, Option.some.injEq, Prod.mk.injEq] at hj
     rw [h1]
     simp [<- hj.1, <- hj.2.2, hx]) A.toList _ _ h
   refine ⟨_, fun d ty E ι F a w r => ?_, k1⟩
   obtain ⟨cs', r1, r2⟩ := k2 E ι F a w r z.cells ⟨by simp, fun j hj => by
    have hj : j < z.cells.size := by simpa using hj
    refine ⟨z.cells[j], Array.getElem?_eq_getElem hj, Array.all_eq_true_iff_forall_mem.1 hzero.c _ (Array.getElem_mem hj), ?_⟩
    rw [toVs_eq, List.getD_eq_getElem?_getD]
    simp only [List.getElem?_map, Array.getElem?_toList, Array.getElem?_eq_getElem hj, Option.map_some, Option.getD_some, evCell_eq]
    exact V.cell_rel _ _ _ _ _⟩
   refine ⟨.agg cs', ?_, cs', rfl, r2.sz, r2.get⟩
   have hr1 : Instr.fill (fun j => some (j * P.cellsOf e, P.cellsOf e)) z.cells ((A.map fun p => (p.1, a.eval p.2)).toList) = some cs' := by
    rw [<- r1]; simp
   simp only [execOp, GOp.oper, Instr.build, Sem.run_bind, zero_run (P := P) (t := t) (v := z), Result.andThen_ok, run_underlying' hu, run_sizeOf w hi]
   simp only [hr1, Sem.run_pure, Result.andThen_ok]
  ·cases h
 ·cases h
def eqE : TypeDesc -> EV -> EV -> Option Bool
 | .int q, .i k m, .i k' n => bif kindEq k q && kindEq k' q then some (decide (m = n)) else none
 | .bool, .b a, .b b => some (a == b)
 | .string, .s a, .s b => some (a.toList == b.toList)
 | _, _, _ => none
def eqEs : List TypeDesc -> List EV -> List EV -> (Bool -> Option ρ) -> Option ρ
 | [], [], [], K => K true
 | [x], [a], [b], K => match eqE x a b with
  | some r => K r
  | none => none
 | x :: q, a :: l, b :: m, K => match eqE x a b with
  | some r => eqEs q l m fun q => K (r && q)
  | none => none
 | _, _, _, _ => none
def eqStO (P : Program) [Tys P] [TyX P] (neg : Bool) (t : TypeId) (u v : EV) (K : EV -> Option ρ) : Option ρ := match (TyX.x P t).eq with
 | some q => partE u fun l => partE v fun m => eqEs q l m fun r => K (.b (bif neg then !r else r))
 | none => match (TyX.x P t).ba with
  | some (n, q) => partE u fun l => partE v fun m => eqEs (List.replicate n q) l m fun r => K (.b (bif neg then !r else r))
  | none => none
def eqV : List TypeDesc -> List EV -> List EV -> Option Bool
 | [], [], [] => some true
 | x :: q, a :: l, b :: m => match eqE x a b, eqV q l m with
  | some r, some q => some (r && q)
  | _, _ => none
 | _, _, _ => none
theorem eqEs_ok : ∀ (q : List TypeDesc) (l m : List EV) (K : Bool -> Option ρ) (res : ρ), eqEs q l m K = some res -> ∃ r, eqV q l m = some r /\ K r = some res := by
 intro q
 induction q with
 | nil =>
  intro l m K res h
  cases l <;> cases m <;> first | exact ⟨true, rfl, h⟩ | cases h
 | cons x q ih =>
  intro l m K res h
  cases l with
  | nil => cases q <;> cases m <;> cases h
  | cons a l =>
   cases m with
   | nil => cases q <;> cases l <;> cases h
   | cons b m =>
    cases he : eqE x a b with
    | none => cases q <;> cases l <;> cases m <;> simp only [eqEs, he] at h <;> cases h
    | some r =>
     have gen : eqEs q l m (fun q => K (r && q)) = some res -> ∃ r, eqV (x :: q) (a :: l) (b :: m) = some r /\ K r = some res := fun h => by
      obtain ⟨q', h1, h2⟩ := ih l m _ res h
      exact ⟨r && q', by simp only [eqV, he, h1], h2⟩
     cases q <;> cases l <;> cases m <;> simp only [eqEs, he] at h <;> first | exact gen h | (cases h; done) | exact ⟨r, by simp [eqV, he], h⟩
theorem part_run {t : TypeId} {x : TypeDesc} (h : sameD (P.underlying t) x = true) {cs : Array Value} {k : Nat} {c : Value} (hc : cs[k]? = some c) (w : World) : (part t cs k).run P w = .ok c w := by
 have hu := sameD_eq h
 have : (isAgg t).run P w = .ok false w := by
  unfold isAgg
  rw [Sem.run_bind, run_underlying' hu]
  rw [hu] at h
  cases x <;> first | (cases h; done) | rfl
 simp only [part, Sem.run_bind, this, Result.andThen_ok, hc]
 rfl
theorem eqCell_run {t : TypeId} {td : TypeDesc} (h : sameD (P.underlying t) td = true) {dp : Nat} {H : Heap} {ι : Id -> Option Nat} {F : Nat -> Prop} {w : World} {len : Len} {a b : EV} {r : Bool} (he : eqE td a b = some r) {x y : Value} (hx : VRel H ι F w (toV len a) x) (hy : VRel H ι F w (toV len b) y) :
  (Op.equalIn (dp + 1) t x y).run P w = .ok r w := by
 have hu := sameD_eq h
 unfold eqE at he
 split at he
 ·rename_i q k m k' n
  have hh := bif_none he
  clear he
  obtain ⟨hb, he⟩ := hh
  simp only [Bool.and_eq_true] at hb
  have h1 := kindEq_eq hb.1
  have h2 := kindEq_eq hb.2
  subst h1; subst h2
  injection he with he
  have hx : x = .int k' m := hx
  have hy : y = .int k' n := hy
  subst hx; subst hy
  rw [run_equalIn_int w dp t k' k' m n hu, <- he]
  rw [Bool.beq_eq_decide_eq]
 ·injection he with he
  have hx : x = .bool _ := hx
  have hy : y = .bool _ := hy
  subst hx; subst hy
  rw [run_equalIn_bool' w dp t _ _ hu, <- he]
 ·injection he with he
  have hx := hx.1
  have hy := hy.1
  subst hx; subst hy
  rw [run_equalIn_string w dp t _ _ hu, <- he]
 ·cases he
theorem eqFields_run {dp : Nat} {H : Heap} {ι : Id -> Option Nat} {F : Nat -> Prop} {w : World} {len : Len} {xs ys : Array Value} : ∀ (fs : List Field) (q : List TypeDesc) (l m : List EV) (k : Nat) (r : Bool), eqFs P fs q k = true -> eqV q l m = some r ->
  (∀ j, j < l.length -> ∃ c, xs[k + j]? = some c /\ VRel H ι F w (toVs len l j) c) -> (∀ j, j < m.length -> ∃ c, ys[k + j]? = some c /\ VRel H ι F w (toVs len m j) c) ->
  (Op.eqFields (dp + 1) xs ys fs).run P w = .ok r w
 | [], [], l, m, k, r, h, he, hx, hy => by
  cases l <;> cases m <;> simp only [eqV] at he <;> first | (cases he; done) | (injection he with he; subst he; simp [Op.eqFields])
 | [], _ :: _, l, m, k, r, h, he, hx, hy => by cases h
 | _ :: _, [], l, m, k, r, h, he, hx, hy => by cases h
 | f :: fs, x :: q, l, m, k, r, h, he, hx, hy => by
  cases l with
  | nil => cases m <;> cases he
  | cons a l =>
   cases m with
   | nil => cases he
   | cons b m =>
    simp only [eqFs, Bool.and_eq_true, Bool.not_eq_true'] at h
    obtain ⟨h1, h2, h3, h4⟩ := h
    have h2 := Nat.eq_of_beq_eq_true h2
    simp only [eqV] at he
    cases e1 : eqE x a b with
    | none => rw [e1] at he; cases he
    | some r1 =>
     cases e2 : eqV q l m with
     | none => rw [e1, e2] at he; cases he
     | some r2 =>
      rw [e1, e2] at he
      injection he with he
      obtain ⟨c, c1, c2⟩ := hx 0 (by simp)
      obtain ⟨c', c1', c2'⟩ := hy 0 (by simp)
      have ih := eqFields_run fs q l m (k + 1) r2 h4 e2 (fun j hj => by
        obtain ⟨c, a1, a2⟩ := hx (j + 1) (by simpa using hj)
        exact ⟨c, by rw [show k + 1 + j = k + (j + 1) by omega]; exact a1, by simpa only [toVs] using a2⟩) (fun j hj => by
        obtain ⟨c, a1, a2⟩ := hy (j + 1) (by simpa using hj)
        exact ⟨c, by rw [show k + 1 + j = k + (j + 1) by omega]; exact a1, by simpa only [toVs] using a2⟩) (dp := dp)
      have hn : f.name ≠ "_" := by simpa using h1
      have p1 := part_run (P := P) h3 (cs := xs) (k := f.offset) (c := c) (by rw [h2]; exact c1) w
      have p2 := part_run (P := P) h3 (cs := ys) (k := f.offset) (c := c') (by rw [h2]; exact c1') w
      have p3 := eqCell_run (P := P) h3 (dp := dp) e1 (by simpa only [toVs] using c2) (by simpa only [toVs] using c2')
      simp only [Op.eqFields, if_pos hn, Sem.run_bind, p1, p2, p3, Result.andThen_ok]
      subst he
      cases r1
      ·simp
      ·simpa using ih
theorem eqItems_run {dp : Nat} {H : Heap} {ι : Id -> Option Nat} {F : Nat -> Prop} {w : World} {len : Len} {xs ys : Array Value} {e : TypeId} {q : TypeDesc} (hq : sameD (P.underlying e) q = true) : ∀ (n : Nat) (l m : List EV) (k : Nat) (r : Bool), eqV (List.replicate n q) l m = some r ->
  (∀ j, j < l.length -> ∃ c, xs[k + j]? = some c /\ VRel H ι F w (toVs len l j) c) -> (∀ j, j < m.length -> ∃ c, ys[k + j]? = some c /\ VRel H ι F w (toVs len m j) c) ->
  (Op.eqItems (dp + 1) e 1 xs ys (List.range' k n)).run P w = .ok r w
 | 0, l, m, k, r, he, hx, hy => by
  simp only [List.replicate] at he
  cases l <;> cases m <;> simp only [eqV] at he <;> first | (cases he; done) | (injection he with he; subst he; simp [Op.eqItems])
 | n + 1, l, m, k, r, he, hx, hy => by
  simp only [List.replicate_succ] at he
  cases l with
  | nil => cases m <;> cases he
  | cons a l =>
   cases m with
   | nil => cases he
   | cons b m =>
    simp only [eqV] at he
    cases e1 : eqE q a b with
    | none => rw [e1] at he; cases he
    | some r1 =>
     cases e2 : eqV (List.replicate n q) l m with
     | none => rw [e1, e2] at he; cases he
     | some r2 =>
      rw [e1, e2] at he
      injection he with he
      obtain ⟨c, c1, c2⟩ := hx 0 (by simp)
      obtain ⟨c', c1', c2'⟩ := hy 0 (by simp)
      have ih := eqItems_run hq n l m (k + 1) r2 e2 (fun j hj => by
        obtain ⟨c, a1, a2⟩ := hx (j + 1) (by simpa using hj)
        exact ⟨c, by rw [show k + 1 + j = k + (j + 1) by omega]; exact a1, by simpa only [toVs] using a2⟩) (fun j hj => by
        obtain ⟨c, a1, a2⟩ := hy (j + 1) (by simpa using hj)
        exact ⟨c, by rw [show k + 1 + j = k + (j + 1) by omega]; exact a1, by simpa only [toVs] using a2⟩) (dp := dp)
      have p1 := part_run (P := P) hq (cs := xs) (k := k * 1) (c := c) (by rw [Nat.mul_one]; exact c1) w
      have p2 := part_run (P := P) hq (cs := ys) (k := k * 1) (c := c') (by rw [Nat.mul_one]; exact c1') w
      have p3 := eqCell_run (P := P) hq (dp := dp) e1 (by simpa only [toVs] using c2) (by simpa only [toVs] using c2')
      simp only [List.range'_succ, Op.eqItems, Sem.run_bind, p1, p2, p3, Result.andThen_ok]
      subst he
      cases r1
      ·simp
      ·simpa using ih
theorem eqStO_ok [T : Tys P] [X : TyX P] {s : ESt} {neg : Bool} {o : BinOp} (ho : o = if neg = true then .neq else .eql) {t tY : TypeId} {x y : Operand} {K : EV -> Option ρ} {res : ρ} (hx : (s.eval x).isStr = true) (hy : (s.eval y).isStr = true) (h : eqStO P neg t (s.eval x) (s.eval y) K = some res) :
  ∃ u, (∀ d ty, QV P ⟨d, .binOp o t x y tY, ty, none⟩ (toV s.heap.len u) (toSt s)) /\ K u = some res := by
 unfold eqStO at h
 split at h
 ·rename_i q hq
  have hk := (X.ok t).eq q hq
  obtain ⟨l, h, hl⟩ := partE_ok h
  obtain ⟨m, h, hm⟩ := partE_ok h
  obtain ⟨r, hr, h⟩ := eqEs_ok _ _ _ _ _ h
  refine ⟨_, fun d ty E ι F a w rr => ?_, h⟩
  have hvx : VRel (toH s.heap) ι F w (toV s.heap.len (s.eval x)) (a.eval x) := s.eval_wk x _ _ _ _ _ (rr.eval x)
  have hvy : VRel (toH s.heap) ι F w (toV s.heap.len (s.eval y)) (a.eval y) := s.eval_wk y _ _ _ _ _ (rr.eval y)
  have cx := hl _ _ _ _ _ _ hvx
  have cy := hm _ _ _ _ _ _ hvy
  have agg : ∀ (u : EV) (v : Value), u.isStr = true -> VRel (toH s.heap) ι F w (toV s.heap.len u) v -> ∃ cs, v = .agg cs := fun u v hu hv => by
   cases u <;> first | (cases hu; done) | (obtain ⟨cs, e, _⟩ := hv; exact ⟨cs, e⟩)
  obtain ⟨xs, ex⟩ := agg _ _ hx hvx
  obtain ⟨ys, ey⟩ := agg _ _ hy hvy
  rw [ex] at cx; rw [ey] at cy
  unfold eqTy at hk
  split at hk
  ·rename_i fs hu
   simp only [Bool.and_eq_true, Bool.not_eq_true'] at hk
   obtain ⟨k1, k2, k3⟩ := hk
   have hf : P.fieldsOf t = fs := by simp [Program.fieldsOf, hu]
   have he : (Op.equalIn 10000 t (.agg xs) (.agg ys)).run P w = .ok r w := by
    rw [run_equalIn_struct (P := P) w 9999 t xs ys (by rw [hf]; exact hu) k1, hf]
    exact eqFields_run (dp := 9998) fs.toList q l m 0 r k3 hr (fun j hj => by obtain ⟨c, a1, a2, a3⟩ := cx.get j hj; exact ⟨c, by rw [Nat.zero_add]; exact a1, a3⟩) (fun j hj => by obtain ⟨c, a1, a2, a3⟩ := cy.get j hj; exact ⟨c, by rw [Nat.zero_add]; exact a1, a3⟩)
   have hg := fun o => run_eqGuard_agg (P := P) w o t x y xs ys k2
   cases neg with
   | false =>
    subst ho
    refine ⟨.bool r, ?_, rfl⟩
    simp only [execOp, GOp.oper, ex, ey, Sem.run_bind, hg, Result.andThen_ok, Bool.false_eq_true, if_false, run_eql_struct, he, Sem.run_pure]
   | true =>
    subst ho
    refine ⟨.bool (!r), ?_, rfl⟩
    simp only [execOp, GOp.oper, ex, ey, Sem.run_bind, hg, Result.andThen_ok, if_true, run_neq_struct, he, Sem.run_pure]
  ·cases hk
 ·split at h
  ·rename_i n q hb
   obtain ⟨e, i, hu, hq, hc1, hi, h1, k2⟩ := baTy_out ((X.ok t).ba n q hb)
   obtain ⟨l, h, hl⟩ := partE_ok h
   obtain ⟨m, h, hm⟩ := partE_ok h
   obtain ⟨r, hr, h⟩ := eqEs_ok _ _ _ _ _ h
   refine ⟨_, fun d ty E ι F a w rr => ?_, h⟩
   have hvx : VRel (toH s.heap) ι F w (toV s.heap.len (s.eval x)) (a.eval x) := s.eval_wk x _ _ _ _ _ (rr.eval x)
   have hvy : VRel (toH s.heap) ι F w (toV s.heap.len (s.eval y)) (a.eval y) := s.eval_wk y _ _ _ _ _ (rr.eval y)
   have cx := hl _ _ _ _ _ _ hvx
   have cy := hm _ _ _ _ _ _ hvy
   have agg : ∀ (u : EV) (v : Value), u.isStr = true -> VRel (toH s.heap) ι F w (toV s.heap.len u) v -> ∃ cs, v = .agg cs := fun u v hu hv => by
    cases u <;> first | (cases hu; done) | (obtain ⟨cs, e, _⟩ := hv; exact ⟨cs, e⟩)
   obtain ⟨xs, ex⟩ := agg _ _ hx hvx
   obtain ⟨ys, ey⟩ := agg _ _ hy hvy
   rw [ex] at cx; rw [ey] at cy
   have he : (Op.equalIn 10000 t (.agg xs) (.agg ys)).run P w = .ok r w := by
    rw [run_equalIn_array (P := P) w 9999 xs ys hu hi, hc1, List.range_eq_range']
    exact eqItems_run (dp := 9998) hq n l m 0 r hr (fun j hj => by obtain ⟨c, a1, a2, a3⟩ := cx.get j hj; exact ⟨c, by rw [Nat.zero_add]; exact a1, a3⟩) (fun j hj => by obtain ⟨c, a1, a2, a3⟩ := cy.get j hj; exact ⟨c, by rw [Nat.zero_add]; exact a1, a3⟩)
   have hg := fun o => run_eqGuard_agg (P := P) w o t x y xs ys k2
   cases neg with
   | false =>
    subst ho
    refine ⟨.bool r, ?_, rfl⟩
    simp only [execOp, GOp.oper, ex, ey, Sem.run_bind, hg, Result.andThen_ok, Bool.false_eq_true, if_false, run_eql_struct, he, Sem.run_pure]
   | true =>
    subst ho
    refine ⟨.bool (!r), ?_, rfl⟩
    simp only [execOp, GOp.oper, ex, ey, Sem.run_bind, hg, Result.andThen_ok, if_true, run_neq_struct, he, Sem.run_pure]
  ·cases h
def highI (len : Nat) : Option (IntKind × Int) -> Int
 | some p => p.2
 | none => len
theorem bounds_run {b : Bool} {len cap : Nat} {lo hi : Option (IntKind × Int)} {w : World} (hh : ∀ p, hi = some p -> 0 <= p.2 /\ p.2 <= cap) (hl : ∀ p, lo = some p -> 0 <= p.2 /\ p.2 <= highI len hi) :
  (Instr.sliceBounds b len cap (lo.map fun p => .int p.1 p.2) (hi.map fun p => .int p.1 p.2) none).run P w = .ok ((match lo with | some p => p.2.toNat | none => 0), (match hi with | some p => p.2.toNat | none => len), cap) w := by
 cases lo with
 | none =>
  cases hi with
  | none => simp [Instr.sliceBounds]
  | some q =>
   obtain ⟨h1, h2⟩ := hh q rfl
   simp [Instr.sliceBounds, run_sliceBound, h1, h2]
 | some p =>
  cases hi with
  | none =>
   obtain ⟨h1, h2⟩ := hl p rfl
   have h2 : p.2 <= (len : Int) := h2
   simp [Instr.sliceBounds, run_sliceBound, h1, h2]
  | some q =>
   obtain ⟨h1, h2⟩ := hh q rfl
   obtain ⟨h3, h4⟩ := hl p rfl
   have h4 : p.2 <= q.2 := h4
   have h4 : p.2 <= ((q.2.toNat : Nat) : Int) := by omega
   simp [Instr.sliceBounds, run_sliceBound w q.1 q.2 cap _ h1 h2, run_sliceBound w p.1 p.2 q.2.toNat _ h3 h4]
def lowN : Option (IntKind × Int) -> Nat
 | some p => p.2.toNat
 | none => 0
def highN (len : Nat) : Option (IntKind × Int) -> Nat
 | some p => p.2.toNat
 | none => len
def BndOk (len : Nat) (lo hi : Option (IntKind × Int)) : Prop := (∀ p, hi = some p -> 0 <= p.2 /\ p.2 <= len) /\ ∀ p, lo = some p -> 0 <= p.2 /\ p.2 <= highI len hi
theorem sliceAt_run {t e : TypeId} {sz by_ : Nat} [ht : TySlice P t e sz by_] {A : Option Addr} {len cap : Nat} (hlc : len <= cap) {lo hi : Option (IntKind × Int)} (hb : BndOk len lo hi) (w : World) :
  (Instr.sliceAt t (.slice A len cap) (lo.map fun p => .int p.1 p.2) (hi.map fun p => .int p.1 p.2) none).run P w = .ok (sliced A (lowN lo) (highN len hi) cap sz) w := by
 have he : P.elem t = e := by simp [Program.elem, ht.d]
 have hu : P.underlying t = some (.slice (P.elem t)) := by rw [he]; exact ht.d
 have hs : (sizeOf e).run P w = .ok sz w := by
  have hs := ht.s
  cases hq : P.info? e with
  | none => simp [hq] at hs
  | some i => simp [hq] at hs; simp [sizeOf, typeInfo, hq, hs.1]
 rw [run_sliceAt_slice w t _ _ _ _ hu, run_slice_any w t A len cap hu, bounds_run (fun p hp => by have := hb.1 p hp; omega) hb.2]
 simp only [Result.andThen_ok, he, hs]
 cases lo <;> cases hi <;> rfl
theorem bnd_le {len : Nat} {lo hi : Option (IntKind × Int)} (hb : BndOk len lo hi) : lowN lo <= highN len hi /\ highN len hi <= len := by
 obtain ⟨h1, h2⟩ := hb
 cases lo with
 | none => cases hi with
  | none => simp [lowN, highN]
  | some q => have := h1 q rfl; simp [lowN, highN]; omega
 | some p => cases hi with
  | none => have := h2 p rfl; simp only [highI] at this; simp [lowN, highN]; omega
  | some q => have := h1 q rfl; have := h2 p rfl; simp only [highI] at this; simp [lowN, highN]; omega
theorem add_addr {b o n : Nat} : (⟨b, o, none⟩ : Addr).add n = ⟨b, o + n, none⟩ := by
 unfold Addr.add
 split
 ·rename_i h; simp [h]
 ·rfl
theorem reads_sliced {F : Nat -> Prop} {w : World} {sz len cap L H : Nat} {get : Nat -> Nat -> T} {A : Option Addr} (h : Reads F w (.sl sz len get) (.slice A len cap)) (hLH : L <= H) (hH : H <= len) :
  Reads F w (.sl sz (H - L) (fun i j => get (i + L) j)) (sliced A L H cap sz) := by
 obtain ⟨A', cap', e, h1, h2, h3⟩ := h
 injection e with e1 e2 e3
 subst e1; subst e3
 refine ⟨_, _, rfl, by omega, by omega, fun hn => ?_⟩
 obtain ⟨b, o, hA, hF, hc⟩ := h3 (by omega)
 subst hA
 refine ⟨b, o + L * sz, by rw [if_neg (by omega)]; simp [add_addr], hF, fun i hi j hj => ?_⟩
 obtain ⟨c, hc1, hc2⟩ := hc (i + L) (by omega) j hj
 refine ⟨c, ?_, hc2⟩
 rw [<- hc1]
 congr 1
 rw [Nat.add_mul]
 simp only [Addr.mk.injEq, true_and, and_true]
 omega
theorem sref_sliced {H0 : Heap} {ι : Id -> Option Nat} {F : Nat -> Prop} {w : World} {id : Id} {o : AObj} {r len cap L H : Nat} {A : Option Addr} (ho : H0.slot id = .live o) (hv : o.ver = 0) (h : VRel H0 ι F w (.sref id 0 r len) (.slice A len cap)) (hLH : L <= H) (hH : H <= len) :
  VRel H0 ι F w (.sref id 0 (r + L) (H - L)) (sliced A L H cap o.sz) := by
 obtain ⟨_, h⟩ := h
 rw [ho] at h
 obtain ⟨h1, h2⟩ := h
 obtain ⟨h3, A', cap', e, h4, h5⟩ := h2 hv.symm
 injection e with e1 e2 e3
 subst e1; subst e3
 refine ⟨rfl, ?_⟩
 rw [ho]
 refine ⟨h1, fun _ => ⟨by omega, _, _, rfl, by omega, fun hc => ?_⟩⟩
 have hlt : L < cap := Nat.lt_of_sub_pos hc
 obtain ⟨b, cur, g1, g2, g3, g4⟩ := h5 (Nat.lt_of_le_of_lt (Nat.zero_le _) hlt)
 clear h5 hc
 subst g2
 refine ⟨b, cur, g1, ?_, g3, ?_⟩
 ·rw [if_neg (by omega)]
  simp only [Option.map_some, add_addr, Nat.add_mul]
 ·rw [Nat.sub_mul, Nat.add_mul]
  have h9 : L * o.sz <= cap * o.sz := Nat.mul_le_mul_right _ (Nat.le_trans (Nat.le_trans hLH hH) h4)
  revert g4 h9
  generalize r * o.sz = a
  generalize L * o.sz = b'
  generalize cap * o.sz = c
  generalize cur.size = n
  intro g4 h9
  omega
def bndE (ev : Operand -> EV) (x : Option Operand) (K : Option (IntKind × Int) -> Option ρ) : Option ρ := match x with
 | none => K none
 | some x => match ev x with
  | .i k n => K (some (k, n))
  | _ => none
theorem bndE_ok {s : ESt} {x : Option Operand} {K : Option (IntKind × Int) -> Option ρ} {res : ρ} (h : bndE s.eval x K = some res) : ∃ q, K q = some res /\ ∀ E ι F a w, Rel E ι F (toSt s) a w -> x.map a.eval = q.map fun p => .int p.1 p.2 := by
 unfold bndE at h
 split at h
 ·exact ⟨none, h, fun _ _ _ _ _ _ => rfl⟩
 ·rename_i x
  split at h
  ·rename_i k n hx
   have hx := eval_eq hx rfl
   exact ⟨some (k, n), h, fun E ι F a w r => by simp only [Option.map_some]; rw [int_eval r hx]⟩
  ·cases h
def takeDrop {α : Type} (l : List α) : Option (IntKind × Int) -> Option (IntKind × Int) -> List α
 | none, none => l
 | some p, none => l.drop p.2.toNat
 | none, some q => l.take q.2.toNat
 | some p, some q => (l.take q.2.toNat).drop p.2.toNat
def bndG (n : Nat) : Option (IntKind × Int) -> Option (IntKind × Int) -> Bool
 | none, none => true
 | some p, none => okB (0 <= p.2 /\ p.2 <= n)
 | none, some q => okB (0 <= q.2 /\ q.2 <= n)
 | some p, some q => okB (0 <= p.2 /\ p.2 <= q.2 /\ q.2 <= n)
theorem bndG_ok {n : Nat} {lo hi : Option (IntKind × Int)} (h : bndG n lo hi = true) : BndOk n lo hi := by
 cases lo with
 | none => cases hi with
  | none => exact ⟨fun p hp => (by cases hp), fun p hp => by cases hp⟩
  | some q => exact ⟨fun p hp => (by cases hp; exact okB_out h), fun p hp => by cases hp⟩
 | some p => cases hi with
  | none => exact ⟨fun p hp => (by cases hp), fun p hp => by cases hp; exact okB_out h⟩
  | some q =>
   obtain ⟨h1, h2, h3⟩ := okB_out h
   exact ⟨fun p hp => (by cases hp; exact ⟨by omega, h3⟩), fun p hp => by cases hp; exact ⟨h1, h2⟩⟩
theorem takeDrop_len {α : Type} {l : List α} {lo hi : Option (IntKind × Int)} (h : BndOk l.length lo hi) : (takeDrop l lo hi).length = highN l.length hi - lowN lo := by
 have := bnd_le h
 cases lo <;> cases hi <;> simp [takeDrop, highN, lowN] at this ⊢ <;> omega
theorem takeDrop_get {α : Type} {l : List α} {lo hi : Option (IntKind × Int)} (z : α) {i : Nat} (hi' : i < highN l.length hi - lowN lo) : (takeDrop l lo hi).getD i z = l.getD (i + lowN lo) z := by
 cases lo <;> cases hi <;> simp only [takeDrop, highN, lowN, Nat.add_zero] at hi' ⊢ <;> simp only [List.getD_eq_getElem?_getD, List.getElem?_drop, List.getElem?_take]
 ·rw [if_pos (by omega)]
 ·rw [Nat.add_comm]
 ·rw [if_pos (by omega), Nat.add_comm]
def sliceO (P : Program) [Tys P] (ev : Operand -> EV) (H : EHeap) (t : TypeId) (x : Operand) (lo hi mx : Option Operand) (K : EV -> Option ρ) : Option ρ := match mx with
 | some _ => none
 | none => bndE ev lo fun l => bndE ev hi fun h => match ev x with
  | .fz τ d => match (Tys.c P t).sl with
   | some (_, sz, _) => bif Nat.beq τ.sz sz then grd (bndG d.length l h) (K (.fz τ (takeDrop d l h))) else none
   | none => none
  | .sfull id p => match H.at id p with
   | some v => match (Tys.c P t).sl with
    | some (_, sz, _) => bif Nat.beq v.τ.sz sz then grd (bndG v.l.length l h) (K (.sref id p (lowN l) (highN v.l.length h - lowN l))) else none
    | none => none
   | none => none
  | .sref id p r n => match H.at id p with
   | some v => match (Tys.c P t).sl with
    | some (_, sz, _) => bif Nat.beq v.τ.sz sz then grd (bndG n l h) (K (.sref id p (r + lowN l) (highN n h - lowN l))) else none
    | none => none
   | none => none
  | .s b => match (Tys.c P t).desc with
   | some .string => grd (bndG b.size l h) (K (.s (b.extract (lowN l) (highN b.size h))))
   | _ => none
  | _ => none
theorem sliceO_ok [T : Tys P] {s : ESt} {t : TypeId} {x : Operand} {lo hi mx : Option Operand} {K : EV -> Option ρ} {res : ρ} (h : sliceO P s.eval s.heap t x lo hi mx K = some res) :
  ∃ u, (∀ d ty, QV P ⟨d, .slice t x lo hi mx, ty, none⟩ (toV s.heap.len u) (toSt s)) /\ K u = some res := by
 unfold sliceO at h
 split at h
 ·cases h
 ·obtain ⟨l, h, hl⟩ := bndE_ok h
  obtain ⟨hh, h, hhi⟩ := bndE_ok h
  have run : ∀ {E ι F a w}, Rel E ι F (toSt s) a w -> ∀ v v', (a.eval x = v) -> (Instr.sliceAt t v (l.map fun p => .int p.1 p.2) (hh.map fun p => .int p.1 p.2) none).run P w = .ok v' w -> ∀ d ty, (execOp a.eval (GOp.oper ⟨d, .slice t x lo hi none, ty, none⟩)).run P w = .ok (.value v') w := by
   intro E ι F a w r v v' hv hrun d ty
   simp only [execOp, GOp.oper, hl E ι F a w r, hhi E ι F a w r, hv, Sem.run_bind, Option.map_none, hrun, Result.andThen_ok, Sem.run_pure]
  split at h
  ·rename_i τ dd hx
   have hx := eval_eq hx rfl
   split at h
   ·rename_i e sz by_ hsl
    have ht := (T.ok t).sl _ _ _ hsl
    obtain ⟨hb, h⟩ := bif_none h
    have hb := Nat.eq_of_beq_eq_true hb
    obtain ⟨hg, h⟩ := grd_out h
    have hbn := bndG_ok hg
    have hle := bnd_le hbn
    refine ⟨_, fun d ty E ι F a w r => ?_, h⟩
    have hr := r.eval x
    rw [hx] at hr
    simp only [toV, encL] at hr
    obtain ⟨A, cap, e1, e2, e3, e4⟩ := id hr
    rw [e1] at hr
    refine ⟨_, run r _ _ e1 (sliceAt_run e2 hbn w) d ty, ?_⟩
    have h5 := reads_sliced hr hle.1 hle.2
    rw [<- hb]
    simp only [toV, encL]
    rw [takeDrop_len hbn]
    obtain ⟨A2, cap2, q1, q2, q3, q4⟩ := h5
    refine ⟨A2, cap2, q1, q2, q3, fun hn => ?_⟩
    obtain ⟨b, o, w1, w2, w3⟩ := q4 hn
    refine ⟨b, o, w1, w2, fun i hi j hj => ?_⟩
    show ∃ c, _ /\ Reads F w (encC τ ((takeDrop dd l hh).getD i τ.z) j) c
    rw [takeDrop_get _ hi]
    exact w3 i hi j hj
   ·cases h
  ·rename_i id p hx
   split at h
   ·rename_i v hv
    split at h
    ·rename_i e sz by_ hsl
     have ht := (T.ok t).sl _ _ _ hsl
     obtain ⟨hb, h⟩ := bif_none h
     have hb := Nat.eq_of_beq_eq_true hb
     obtain ⟨hg, h⟩ := grd_out h
     have hbn := bndG_ok hg
     have hle := bnd_le hbn
     have hx := eval_eq hx rfl
     have hlen := EHeap.len_at hv
     have hs := slot_lst hv
     refine ⟨_, fun d ty E ι F a w r => ?_, h⟩
     have hr := r.eval x
     rw [hx] at hr
     simp only [toV, hlen] at hr
     have hr0 := hr
     obtain ⟨_, hr0⟩ := hr0
     have hs' : (toSt s).heap.slot ⟨id, p⟩ = .live (v.obj s.heap.len id p) := hs
     rw [hs'] at hr0
     obtain ⟨_, hr0⟩ := hr0
     obtain ⟨_, A, cap, e1, e2, _⟩ := hr0 rfl
     rw [e1] at hr
     refine ⟨_, run r _ _ e1 (sliceAt_run e2 hbn w) d ty, ?_⟩
     have h5 := sref_sliced hs' rfl hr hle.1 hle.2
     rw [Nat.zero_add] at h5
     rw [<- hb]
     simp only [toV]
     exact h5
    ·cases h
   ·cases h
  ·rename_i id p rr n hx
   split at h
   ·rename_i v hv
    split at h
    ·rename_i e sz by_ hsl
     have ht := (T.ok t).sl _ _ _ hsl
     obtain ⟨hb, h⟩ := bif_none h
     have hb := Nat.eq_of_beq_eq_true hb
     obtain ⟨hg, h⟩ := grd_out h
     have hbn := bndG_ok hg
     have hle := bnd_le hbn
     have hx := eval_eq hx rfl
     have hs := slot_lst hv
     refine ⟨_, fun d ty E ι F a w r => ?_, h⟩
     have hr := r.eval x
     rw [hx] at hr
     simp only [toV] at hr
     have hr0 := hr
     obtain ⟨_, hr0⟩ := hr0
     have hs' : (toSt s).heap.slot ⟨id, p⟩ = .live (v.obj s.heap.len id p) := hs
     rw [hs'] at hr0
     obtain ⟨_, hr0⟩ := hr0
     obtain ⟨_, A, cap, e1, e2, _⟩ := hr0 rfl
     rw [e1] at hr
     refine ⟨_, run r _ _ e1 (sliceAt_run e2 hbn w) d ty, ?_⟩
     have h5 := sref_sliced hs' rfl hr hle.1 hle.2
     rw [<- hb]
     simp only [toV]
     exact h5
    ·cases h
   ·cases h
  ·rename_i b hx
   split at h
   ·rename_i hdsc
    have ht := (T.ok t).desc _ hdsc
    obtain ⟨hg, h⟩ := grd_out h
    have hbn := bndG_ok hg
    have hle := bnd_le hbn
    have hx := eval_eq hx rfl
    refine ⟨_, fun d ty E ι F a w r => ?_, h⟩
    have hr := r.eval x
    rw [hx] at hr
    simp only [toV] at hr
    obtain ⟨e1, e2⟩ := hr
    have hrun : (Instr.sliceAt t (.string b) (l.map fun p => .int p.1 p.2) (hh.map fun p => .int p.1 p.2) none).run P w = .ok (.string (b.extract (lowN l) (highN b.size hh))) w := by
     rw [run_sliceAt_string w t _ _ _ _ ht.d]
     simp only [Instr.slice, Sem.run_bind, run_underlying' ht.d, Result.andThen_ok, Option.isSome_none, Bool.false_eq_true, if_false, Sem.run_pure]
     rw [bounds_run (fun p hp => by have := hbn.1 p hp; omega) hbn.2]
     simp only [Result.andThen_ok, Sem.run_pure]
     cases l <;> cases hh <;> rfl
    refine ⟨_, run r _ _ e1 hrun d ty, rfl, ?_⟩
    rw [ByteArray.size_extract]
    omega
   ·cases h
  ·cases h
end
end
end Go.Abs
namespace Go.Abs
open Go
noncomputable section
variable {P : Program} {d : Option Tmp} {ty : TypeId} {L : List GOp} {ρ : Type}
section
variable [SU] [Codes] {Q : Exit -> ESt -> Prop}
def mput {α : Type} (g : MKey -> Option α) (k : MKey) (y : α) : MKey -> Option α := fun q => if q = k then some y else g q
def scEV : (τ : Ty) -> τ.D -> EV
 | .bool, x => .b x
 | .int k, x => .i k x
 | .str, x => .s x
 | .sl e, x => .fz e x
 | _, _ => .un
def zOk : Ty -> Value -> Bool
 | .bool, .bool false => true
 | .int k, .int k' 0 => kindEq k k'
 | .str, .string s => Nat.beq s.size 0
 | .sl _, .slice none 0 0 => true
 | _, _ => false
theorem zOk_wk {τ : Ty} {z : Value} (h : zOk τ z = true) (len : Len) : Wk (V.ofValue z) (toV len (scEV τ τ.z)) := by
 unfold zOk at h
 split at h
 ·exact Wk.refl _
 ·have := kindEq_eq h
  subst this; exact Wk.refl _
 ·rename_i s
  have h0 := Nat.eq_of_beq_eq_true h
  have : s = ByteArray.empty := by
   cases s with
   | mk a =>
    have : a.size = 0 := h0
    have : a = #[] := Array.eq_empty_of_size_eq_zero this
    rw [this]; rfl
  subst this
  exact Wk.refl _
 ·exact Wk.nils _ _
 ·cases h
theorem scEV_enc {τ : Ty} {z : Value} (h : zOk τ z = true) (len : Len) (y : τ.D) : toV len (scEV τ y) = .t (encC τ y 0) := by
 cases τ <;> simp [zOk] at h <;> simp only [scEV, toV, encC] <;> rfl
def keyE (s : Bool) : EV -> Option MKey
 | .i k n => match s, k with
  | false, .i64 => some (.i n)
  | _, _ => none
 | .s b => match s with
  | true => some (.s b)
  | false => none
 | _ => none
theorem keyE_ok {s : ESt} {x : Operand} {sk : Bool} {k : MKey} (h : keyE sk (s.eval x) = some k) : k.isS = sk /\ ∀ E ι F a w, Rel E ι F (toSt s) a w -> a.eval x = k.val := by
 unfold keyE at h
 split at h
 ·rename_i kk n hx
  have hx := eval_eq hx rfl
  split at h
  ·injection h with h; subst h
   exact ⟨rfl, fun E ι F a w r => int_eval r hx⟩
  ·cases h
 ·rename_i b hx
  have hx := eval_eq hx rfl
  split at h
  ·injection h with h; subst h
   refine ⟨rfl, fun E ι F a w r => ?_⟩
   have := r.eval x
   rw [hx] at this
   exact this.1
  ·cases h
 ·cases h
def lookO (P : Program) [Tys P] [TyX P] (ev : Operand -> EV) (H : EHeap) (t : TypeId) (x y : Operand) (ok : Bool) (K : EV -> Option ρ) : Option ρ := match (TyX.x P t).mp with
 | some (sk, e, _) => match (Tys.c P e).zero with
  | some z => match ev x with
   | .mref id => match H.obj id with
    | .mp sm τ g => bif zOk τ z then (match keyE sm (ev y) with
     | some k => bif (sm == sk) then (bif ok then K (.tup [scEV τ ((g k).getD τ.z), .b (g k).isSome]) else K (scEV τ ((g k).getD τ.z))) else none
     | none => none) else none
    | _ => none
   | _ => none
  | none => none
 | none => none
theorem slot_map {H : EHeap} {id : Nat} {s : Bool} {τ : Ty} {g : MKey -> Option τ.D} (h : H.obj id = .mp s τ g) : (toH H).slot ⟨id, []⟩ = .mp s (fun x => match g x with
  | some y => some (.t (encC τ y 0))
  | none => none) := by
 show (H.obj id).slot _ _ _ = _
 rw [h]; rfl
theorem lookO_ok [T : Tys P] [X : TyX P] {s : ESt} {t : TypeId} {x y : Operand} {ok : Bool} {K : EV -> Option ρ} {res : ρ} (h : lookO P s.eval s.heap t x y ok K = some res) :
  ∃ u, (∀ d ty, QV P ⟨d, .lookup t x y ok, ty, none⟩ (toV s.heap.len u) (toSt s)) /\ K u = some res := by
 unfold lookO at h
 split at h
 ·rename_i sk e τ0 hm
  have ht := (X.ok t).mp _ _ _ hm
  split at h
  ·rename_i z hz
   have hzz := (T.ok e).zero _ hz
   split at h
   ·rename_i id hx
    have hx := eval_eq hx rfl
    split at h
    ·rename_i sm τ g ho
     have hh := bif_none h
     clear h
     obtain ⟨hzo, h⟩ := hh
     split at h
     ·rename_i k hk
      have hh := bif_none h
      clear h
      obtain ⟨hs, h⟩ := hh
      have hs : sm = sk := by simpa using hs
      subst hs
      obtain ⟨k1, k2⟩ := keyE_ok hk
      have hsl := slot_map ho
      have hsl' : (toSt s).heap.slot ⟨id, []⟩ = _ := hsl
      have hl : ∀ d ty, _ := fun d ty => O.lookup (d := d) (ty := ty) ht (zv := z) hx hsl' k1 k2
      have hw : Wk ((match g k with
        | some y => some (V.t (encC τ y 0))
        | none => none).getD (V.ofValue z)) (toV s.heap.len (scEV τ ((g k).getD τ.z))) := by
       cases hg : g k with
       | none => exact zOk_wk hzo _
       | some y => simp only [Option.getD_some]; rw [scEV_enc hzo]; exact Wk.refl _
      cases ok with
      | false =>
       exact ⟨_, fun d ty => (hl d ty).1.wk hw, h⟩
      | true =>
       refine ⟨_, fun d ty => (hl d ty).2.wk ?_, h⟩
       simp only [toV, List.length_cons, List.length_nil]
       intro H ι F w c ⟨cs, q1, q2, q3⟩
       refine ⟨cs, q1, q2, fun j hj => ?_⟩
       obtain ⟨c, w1, w2⟩ := q3 j hj
       match j, hj with
       | 0, _ => exact ⟨c, w1, by simp only [toVs]; exact hw _ _ _ _ _ w2⟩
       | 1, _ =>
        refine ⟨c, w1, ?_⟩
        simp only [toVs, toV]
        have w2 : c = .bool _ := w2
        show c = .bool _
        rw [w2]
        cases g k <;> rfl
     ·cases h
    ·cases h
   ·cases h
  ·cases h
 ·cases h
theorem indexA_run {t n e s : Nat} [h : TyArr P t n e s] {w : World} {b o : Nat} {k : IntKind} {i : Nat} (h1 : i < n) :
  (Instr.indexAt t (.pointer (some ⟨b, o, none⟩)) (.int k (Int.ofNat i))).run P w = .ok (.pointer (some ⟨b, o + i * s, none⟩)) w := by
 have hs := h.s
 have hsz : (sizeOf e).run P w = .ok s w := by
  cases hq : P.info? e with
  | none => simp [hq] at hs
  | some i => simp [hq] at hs; simp [sizeOf, typeInfo, hq, hs]
 simp [Instr.indexAt, asIntOf, run_underlying' h.d, Instr.sureAddr, h1, hsz, addr_add]
theorem O.indexA {st : St} {t n e s : Nat} [TyArr P t n e s] {x y : Operand} {id : Id} {ver rr c : Nat} {o : AObj} {k : IntKind} {i : Nat} (hx : st.eval x = .ptr id ver rr c) (ho : st.heap.slot id = .live o) (hv : ver = o.ver) (hy : st.eval y = .t (.int k (Int.ofNat i))) (hi : i < n) :
  QV P ⟨d, .indexAddr t x y, ty, none⟩ (.ptr id ver rr (c + i * s)) st :=
 fun E ι F a w r => by
  obtain ⟨b, hb, he⟩ := live_ptr r hx ho hv
  refine ⟨_, by simp only [execOp, GOp.oper, he, int_eval r hy, Sem.run_bind, indexA_run (P := P) (t := t) hi, Result.andThen_ok]; rfl, rfl, ?_⟩
  rw [ho]
  exact ⟨by omega, fun _ => ⟨b, hb, by rw [Nat.add_assoc]⟩⟩
def armO (K : Nat -> Option ρ) (m : Int) : Nat -> Nat -> Option ρ
 | 0, _ => none
 | n + 1, k => bif decide (m = Int.ofNat k) then K k else armO K m n (k + 1)
theorem armO_out {K : Nat -> Option ρ} {m : Int} {res : ρ} : ∀ {n k : Nat}, armO K m n k = some res -> ∃ i, m = Int.ofNat i /\ i < k + n /\ K i = some res
 | 0, _, h => by cases h
 | n + 1, k, h => by
  unfold armO at h
  cases hb : decide (m = Int.ofNat k) with
  | true => rw [hb] at h; exact ⟨k, of_decide_eq_true hb, by omega, h⟩
  | false =>
   rw [hb] at h
   obtain ⟨i, h1, h2, h3⟩ := armO_out (n := n) h
   exact ⟨i, h1, by omega, h3⟩
def arrO (P : Program) [Tys P] [TyX P] (H : EHeap) (t : TypeId) (a i : EV) (K : EV -> Option ρ) : Option ρ := match (TyX.x P t).ar with
 | some (n, sz) => match i with
  | .i _ m => match a with
   | .ptr id p r c => bif H.is id p then armO (fun i => litO (c + i * sz) fun c' => K (.ptr id p r c')) m n 0 else none
   | _ => none
  | _ => none
 | none => none
theorem arrO_ok [T : Tys P] [X : TyX P] {s : ESt} {t : TypeId} {x y : Operand} {K : EV -> Option ρ} {res : ρ} (h : arrO P s.heap t (s.eval x) (s.eval y) K = some res) : ∃ u, (∀ d ty, QV P ⟨d, .indexAddr t x y, ty, none⟩ (toV s.heap.len u) (toSt s)) /\ K u = some res := by
 unfold arrO at h
 split at h
 ·rename_i n sz har
  obtain ⟨e, har⟩ := (X.ok t).ar n sz har
  split at h
  ·rename_i k m hy
   have hy := eval_eq hy rfl
   simp only [toV] at hy
   split at h
   ·rename_i id p r c hx
    have hx := eval_eq hx rfl
    simp only [toV] at hx
    have hh := bif_none h
    clear h
    obtain ⟨h2, h⟩ := hh
    obtain ⟨o, ho, hv⟩ := EHeap.is_out h2
    obtain ⟨i, rfl, h1, h⟩ := armO_out h
    rw [litO_eq] at h
    exact ⟨_, fun d ty => (by simp only [toV]; exact O.indexA (e := e) hx ho hv.symm hy (by omega)), h⟩
   ·cases h
  ·cases h
 ·cases h
def runX (P : Program) [Tys P] [TyX P] (ev : Operand -> EV) (H : EHeap) (op : Op) (K : EV -> Option ρ) : Option ρ := match op with
 | .makeFunc fn first caps => match fn, first.toList with
  | .func f, [] => fnE f ev caps.toList [] K
  | _, _ => none
 | .build t A => buildStO P ev t A.toList K
 | .lookup t x y ok => lookO P ev H t x y ok K
 | .slice t x lo hi mx => sliceO P ev H t x lo hi mx K
 | .indexAddr t x y => bif (TyX.x P t).ar.isSome then arrO P H t (ev x) (ev y) K else runO P ev H (.indexAddr t x y) K
 | .binOp o t x y tY => bif (ev x).isStr && (ev y).isStr then (match o with
  | .eql => eqStO P false t (ev x) (ev y) K
  | .neq => eqStO P true t (ev x) (ev y) K
  | _ => none) else runO P ev H (.binOp o t x y tY) K
 | op => runO P ev H op K
where
 fnE (f : FuncId) (ev : Operand -> EV) : List Operand -> List EV -> (EV -> Option ρ) -> Option ρ
 | [], us, K => K (.fn f us.reverse)
 | x :: l, us, K => fE (ev x) fun u => fnE f ev l (u :: us) K
theorem fnE_eq (f : FuncId) (ev : Operand -> EV) (K : EV -> Option ρ) : ∀ (l : List Operand) (us : List EV), runX.fnE f ev l us K = K (.fn f (us.reverse ++ l.map ev))
 | [], us => by simp [runX.fnE]
 | x :: l, us => by simp only [runX.fnE]; rw [fE_eq, fnE_eq f ev K l]; simp
theorem runX_ok [T : Tys P] [X : TyX P] {s : ESt} {op : Op} {K : EV -> Option ρ} {res : ρ} (h : runX P s.eval s.heap op K = some res) : ∃ u, (∀ d ty, QV P ⟨d, op, ty, none⟩ (toV s.heap.len u) (toSt s)) /\ K u = some res := by
 unfold runX at h
 split at h
 ·rename_i fn first caps
  split at h
  ·rename_i f hf
   rw [fnE_eq] at h
   refine ⟨_, fun d ty => ?_, h⟩
   have : first = #[] := by cases first; simp_all
   subst this
   refine (O.makeFunc (f := f) (caps := caps) (st := toSt s)).wk ?_
   simp only [toV, List.reverse_nil, List.nil_append, List.length_map, Array.length_toList]
   intro H ι F w c ⟨cs, q1, q2, q3⟩
   refine ⟨cs, q1, q2, fun j hj => ?_⟩
   obtain ⟨c, w1, w2⟩ := q3 j hj
   refine ⟨c, w1, ?_⟩
   rw [toVs_eq]
   have e : (List.map s.eval caps.toList).getD j .un = s.eval (caps.getD j (.func 0)) := by
    simp [List.getD_eq_getElem?_getD, hj, Array.getD]
   rw [e]
   exact s.eval_wk _ _ _ _ _ _ w2
  ·cases h
 ·exact buildStO_ok h
 ·exact lookO_ok h
 ·exact sliceO_ok h
 ·rename_i t x y
  rcases Bool.eq_false_or_eq_true (TyX.x P t).ar.isSome with hb | hb
  ·rw [hb] at h
   exact arrO_ok h
  ·rw [hb] at h
   exact runO_ok h
 ·rename_i o t x y tY
  rcases Bool.eq_false_or_eq_true ((s.eval x).isStr && (s.eval y).isStr) with hb | hb
  ·rw [hb] at h
   simp only [Bool.and_eq_true] at hb
   simp only [cond_true] at h
   split at h
   ·exact eqStO_ok (neg := false) rfl hb.1 hb.2 h
   ·exact eqStO_ok (neg := true) rfl hb.1 hb.2 h
   ·cases h
  ·rw [hb] at h
   exact runO_ok h
 ·exact runO_ok h
def makeMapO (P : Program) [Tys P] [TyX P] (t : TypeId) (K : OD -> Option ρ) : Option ρ := match (TyX.x P t).mp with
 | some (sk, _, τ) => K (.mp sk τ (fun _ => none))
 | none => none
theorem weak_addM {s : ESt} {sk : Bool} {τ : Ty} (hf : Fair s) (d : Option Tmp) :
  Weak (((toSt s).on ((toSt s).heap.addM sk (fun _ => none))).put d (.mref ⟨s.heap.next, []⟩)) (toSt ((s.on (s.heap.add s.heap.next (.mp sk τ (fun _ => none)))).put d (.mref s.heap.next))) := by
 have hsl : ∀ i : Id, ((toSt s).heap.addM sk (fun _ => none)).slot i = if i = ⟨s.heap.next, []⟩ then .mp sk (fun _ => none) else (toH s.heap).slot i := fun i => by
  show (bif Id.beq i ⟨s.heap.next, []⟩ then _ else _) = _
  exact beq_if _ _ _ _
 have hnew : ∀ p, (toH (s.heap.add s.heap.next (.mp sk τ (fun _ => none)))).slot ⟨s.heap.next, p⟩ = (OD.mp sk τ (fun _ => none)).slot (s.heap.add s.heap.next (.mp sk τ (fun _ => none))).len s.heap.next p := fun p => by
  show ((s.heap.add s.heap.next (.mp sk τ (fun _ => none))).obj s.heap.next).slot _ _ _ = _
  simp only [EHeap.add, Nat.beq_refl, cond_true]
 refine weak_root hf s.heap.next (fun k' hk => by simp only [EHeap.add, natBeq_ne hk, cond_false]) (fun id p hb => ?_) (fun i hi => ?_) rfl (fun hn i hi => ?_) (fun p hne => ?_) (fun p o' hl => ?_) (fun p sb g' hl => ?_) d (fun _ => by simp only [toV]; exact Wk.refl _)
 ·have : id ≠ s.heap.next := fun e => hb (hf.next ⟨id, p⟩ (by rw [e]; exact Nat.le_refl _))
  exact EHeap.len_obj (EHeap.add_ne this) p
 ·rw [hsl, if_neg (fun e => hi (by rw [e]))]
 ·have hi : s.heap.next + 1 <= i.k := hi
  have hne : i.k ≠ s.heap.next := by omega
  have := hf.next i (by omega)
  have h' : (s.heap.obj i.k).slot s.heap.len i.k i.p = .unborn := this
  show ((s.heap.add s.heap.next (.mp sk τ (fun _ => none))).obj i.k).slot _ _ _ = .unborn
  simp only [EHeap.add, natBeq_ne hne, cond_false]
  exact (slot_dead (len := s.heap.len)).2.2 h'
 ·rw [hsl] at hne ⊢
  by_cases hp : p = []
  ·subst hp
   rw [if_pos rfl, hnew]
   trivial
  ·rw [if_neg (fun e => hp (by injection e))] at hne
   exact absurd (hf.next ⟨s.heap.next, p⟩ (Nat.le_refl _)) hne
 ·rw [hnew] at hl
  cases p <;> cases hl
 ·rw [hnew] at hl
  rw [hsl]
  cases p with
  | nil => rw [if_pos rfl]; exact hl
  | cons x y => cases hl
theorem makeMapO_ok [T : Tys P] [X : TyX P] {s : ESt} {t : TypeId} {K : ESt -> Option ρ} {res : ρ} (hK : ∀ s', K s' = some res -> SLT P L Q s')
  (h : makeMapO P t (fun o => litO s.heap.next fun id => K ((s.on (s.heap.add id o)).put d (.mref id))) = some res) : SLT P (⟨d, .makeMap t none, ty, none⟩ :: L) Q s := by
 refine ⟨SL.fair fun hf => ?_⟩
 unfold makeMapO at h
 split at h
 ·rename_i sk e τ hm
  simp only [litO_eq] at h
  exact SL.makeMap (SL.weak (weak_addM hf d) (hK _ h).out)
 ·cases h
def updO (P : Program) [Tys P] [TyX P] (s : ESt) (d : Option Tmp) (t : TypeId) (x y z : Operand) (K : ESt -> Option ρ) : Option ρ := match (TyX.x P t).mp with
 | some (sk, _, _) => match s.eval x with
  | .mref id => match s.heap.obj id with
   | .mp sm τ g => bif froT τ && (Nat.beq τ.sz 1 && (sm == sk)) then (match keyE sm (s.eval y) with
    | some k => match setC τ τ.z 0 (s.eval z) with
     | some v => K ((s.on (s.heap.set id (.mp sm τ (mput g k v)))).put d .un)
     | none => none
    | none => none) else none
   | _ => none
  | _ => none
 | none => none
theorem weak_setM {s : ESt} {sk : Bool} {τ : Ty} {id : Nat} {g g' : MKey -> Option τ.D} {G : MKey -> Option V} (hf : Fair s) (ho : s.heap.obj id = .mp sk τ g) (hG : G = fun x => match g' x with
  | some y => some (.t (encC τ y 0))
  | none => none) (d : Option Tmp) :
  Weak (((toSt s).on ((toSt s).heap.setM ⟨id, []⟩ sk G)).put d .un) (toSt ((s.on (s.heap.set id (.mp sk τ g'))).put d .un)) := by
 subst hG
 have hlen : ∀ j p, (s.heap.set id (.mp sk τ g')).len j p = s.heap.len j p := fun j p => by
  by_cases hj : j = id
  ·subst hj
   unfold EHeap.len
   simp only [EHeap.set, Nat.beq_refl, cond_true]
   rw [ho]; rfl
  ·exact EHeap.len_obj (EHeap.set_ne hj) p
 have hs1 : ∀ i : Id, ((toSt s).heap.setM ⟨id, []⟩ sk (fun x => match g' x with
  | some y => some (.t (encC τ y 0))
  | none => none)).slot i = if i = ⟨id, []⟩ then .mp sk (fun x => match g' x with
  | some y => some (.t (encC τ y 0))
  | none => none) else (toH s.heap).slot i := fun i => by
  show (bif Id.beq i ⟨id, []⟩ then _ else _) = _
  exact beq_if _ _ _ _
 have hsn : ∀ p, (toH (s.heap.set id (.mp sk τ g'))).slot ⟨id, p⟩ = (OD.mp sk τ g').slot (s.heap.set id (.mp sk τ g')).len id p := fun p => by
  show ((s.heap.set id (.mp sk τ g')).obj id).slot _ _ _ = _
  simp only [EHeap.set, Nat.beq_refl, cond_true]
 have hun : ∀ x y, (toH s.heap).slot ⟨id, x :: y⟩ = .unborn := fun x y => by
  show (s.heap.obj id).slot _ _ _ = _
  rw [ho]; rfl
 refine weak_root hf id (fun k' hk => EHeap.set_ne hk) (fun j q _ => hlen j q) (fun i hi => by rw [hs1, if_neg (fun e => hi (by rw [e]))]) rfl (fun hn i hi => ?_) (fun p hne => ?_) (fun p o' hl' => ?_) (fun p sb g' hl' => ?_) d (fun _ => by simp only [toV]; exact Wk.refl _)
 ·by_cases hi2 : i.k = id
  ·obtain ⟨j, p⟩ := i
   simp only at hi2
   subst hi2
   have := hn ⟨j, p⟩ hi
   rw [hs1] at this
   rw [hsn]
   split at this
   ·cases this
   ·rename_i hne
    cases p with
    | nil => exact absurd rfl hne
    | cons x y => rfl
  ·have := hf.next i hi
   have h' : (s.heap.obj i.k).slot s.heap.len i.k i.p = .unborn := this
   show ((s.heap.set id (.mp sk τ g')).obj i.k).slot _ _ _ = .unborn
   rw [EHeap.set_ne hi2]
   exact (slot_dead (len := s.heap.len)).2.2 h'
 ·rw [hs1] at hne ⊢
  cases p with
  | nil => rw [if_pos rfl, hsn]; trivial
  | cons x y => rw [if_neg (fun e => by injection e with _ e; cases e)] at hne; exact absurd (hun x y) hne
 ·rw [hsn] at hl'
  cases p <;> cases hl'
 ·rw [hsn] at hl'
  rw [hs1]
  cases p with
  | nil => rw [if_pos rfl]; exact hl'
  | cons x y => cases hl'
theorem updO_ok [T : Tys P] [X : TyX P] {s : ESt} {t : TypeId} {x y z : Operand} {K : ESt -> Option ρ} {res : ρ} (hK : ∀ s', K s' = some res -> SLT P L Q s')
  (h : updO P s d t x y z K = some res) : SLT P (⟨d, .mapUpdate t x y z, ty, none⟩ :: L) Q s := by
 refine ⟨SL.fair fun hf => ?_⟩
 unfold updO at h
 split at h
 ·rename_i sk e τ0 hm
  have ht := (X.ok t).mp _ _ _ hm
  split at h
  ·rename_i id hx
   have hx := eval_eq hx rfl
   split at h
   ·rename_i sm τ g ho
    have hh := bif_none h
    clear h
    obtain ⟨hb, h⟩ := hh
    simp only [Bool.and_eq_true] at hb
    obtain ⟨b1, b2, b3⟩ := hb
    have b2 := Nat.eq_of_beq_eq_true b2
    have b3 : sm = sk := by simpa using b3
    subst b3
    split at h
    ·rename_i k hk
     split at h
     ·rename_i v hv
      obtain ⟨k1, k2⟩ := keyE_ok hk
      obtain ⟨_, ⟨u, hu, hw⟩, _⟩ := setC_ok _ _ _ _ _ hv
      obtain ⟨u', hu', he⟩ := cellC_enc τ v 0 b1
      rw [hu] at hu'; injection hu' with hu'; subst hu'
      have he := he (by omega) s.heap.len
      have hsl' : (toSt s).heap.slot ⟨id, []⟩ = _ := slot_map ho
      refine SL.mapUpdate (u := .t (encC τ v 0)) ht hx hsl' k1 k2 (fun E ι F a w r => ?_) (SL.weak (weak_setM (g := g) (g' := mput g k v) hf ho ?_ d) (hK _ h).out)
      ·have := hw s.heap.len _ _ _ _ _ (s.eval_wk z _ _ _ _ _ (r.eval z))
       rw [he] at this
       exact this
      ·funext q
       unfold putK mput
       by_cases hq : q = k
       ·rw [if_pos hq, if_pos hq]
       ·rw [if_neg hq, if_neg hq]
     ·cases h
    ·cases h
   ·cases h
  ·cases h
 ·cases h
end
end
end Go.Abs
namespace Go.Abs
open Go
noncomputable section
variable {P : Program} {d : Option Tmp} {ty : TypeId} {L : List GOp} {ρ : Type}
section
variable [SU] [Codes] {Q : Exit -> St -> Prop} {st : St}
theorem SL.trunc {t e : TypeId} {sz by_ : Nat} [ht : TySlice P t e sz by_] {x y : Operand} {id : Id} {o : AObj} {k : IntKind} {h : Int} (hx : st.eval x = .sref id o.ver 0 o.n) (ho : st.heap.slot id = .live o) (hz : o.sz = sz)
  (hy : st.eval y = .t (.int k h)) (h0 : 0 <= h) (h1 : h <= o.n) (hk : SL P L Q ((st.on (st.heap.set id { o with n := h.toNat, ver := o.ver + 1 })).put d (.sref id (o.ver + 1) 0 h.toNat))) :
  SL P (⟨d, .slice t x none (some y) none, ty, none⟩ :: L) Q st :=
 SL.value rfl fun E ι F a w r => by
  have hr := r.eval x
  rw [hx] at hr
  obtain ⟨_, hr⟩ := hr
  rw [ho] at hr
  obtain ⟨_, hr⟩ := hr
  obtain ⟨_, A, cap, e1, e2, e3⟩ := hr rfl
  subst hz
  have hb : BndOk o.n none (some (k, h)) := ⟨fun p hp => (by cases hp; exact ⟨h0, h1⟩), fun p hp => (by cases hp)⟩
  have hrun := sliceAt_run (P := P) (t := t) (A := A) e2 hb w
  simp only [Option.map_none, Option.map_some, lowN, highN] at hrun
  have hval : sliced A 0 h.toNat cap o.sz = .slice A h.toNat cap := by
   unfold sliced
   simp only [Nat.zero_mul, Nat.sub_zero]
   split
   ·rfl
   ·cases A with
    | none => rfl
    | some ad => simp [Addr.add]
  rw [hval] at hrun
  have hex : (execOp a.eval (GOp.oper ⟨d, .slice t x none (some y) none, ty, none⟩)).run P w = .ok (.value (.slice A h.toNat cap)) w := by
   simp only [execOp, GOp.oper, Option.map_none, Option.map_some, e1, int_eval r hy, Sem.run_bind, hrun, Result.andThen_ok, Sem.run_pure]
  have hH : ∀ i, (st.heap.set id { o with n := h.toNat, ver := o.ver + 1 }).slot i = if i = id then .live { o with n := h.toNat, ver := o.ver + 1 } else st.heap.slot i := fun i => beq_if _ _ _ _
  have hnx : ∀ i : Id, (st.heap.set id { o with n := h.toNat, ver := o.ver + 1 }).next <= i.k -> i ≠ id /\ st.heap.next <= i.k := fun i hi => ⟨fun e => (by subst e; rw [r.h.next _ hi] at ho; cases ho), hi⟩
  obtain ⟨hlen, ho2⟩ := r.h.obj id o ho
  have hself : (st.heap.set id { o with n := h.toNat, ver := o.ver + 1 }).slot id = .live { o with n := h.toNat, ver := o.ver + 1 } := by rw [hH, if_pos rfl]
  cases hι : ι id with
  | none =>
   rw [hι] at ho2
   have ho2 : o.n = 0 := ho2
   have hh : h.toNat = 0 := by omega
   obtain ⟨g1, g2⟩ := r.h.virt id { o with n := h.toNat, ver := o.ver + 1 } _ hH hnx rfl hh (by rw [ho]; show o.ver < o.ver + 1; omega)
   refine ⟨_, w, _, F, _, .sref id (o.ver + 1) 0 h.toNat, hex, g1, g2, ⟨rfl, ?_⟩, hk⟩
   rw [hself]
   refine ⟨Nat.le_refl _, fun _ => ⟨by show 0 + h.toNat <= h.toNat; omega, A, cap, rfl, by omega, fun hc => ?_⟩⟩
   obtain ⟨b, cur, q1, _⟩ := e3 hc
   rw [hι] at q1; cases q1
  | some b =>
   rw [hι] at ho2
   obtain ⟨cur, c1, c2, c3⟩ := ho2
   have hle : h.toNat <= o.n := by omega
   obtain ⟨g1, g2⟩ := r.h.step id b { o with n := h.toNat, ver := o.ver + 1 } cur w _ hH hnx rfl rfl rfl rfl (Nat.le_refl _) (fun _ _ _ => rfl) c1 (.inr ⟨hι, by rw [ho]; trivial⟩) (Nat.le_trans hle hlen)
    (Nat.le_trans (Nat.mul_le_mul_right _ hle) c2) (fun i hi j hj => c3 i (Nat.lt_of_lt_of_le hi hle) j hj) (by rw [ho]; exact ⟨Nat.le_succ _, fun e => absurd e (by simp)⟩)
   refine ⟨_, w, _, F, _, .sref id (o.ver + 1) 0 h.toNat, hex, g1, g2, ⟨rfl, ?_⟩, hk⟩
   rw [hself]
   refine ⟨Nat.le_refl _, fun _ => ⟨by show 0 + h.toNat <= h.toNat; omega, A, cap, rfl, by omega, fun hc => ?_⟩⟩
   obtain ⟨b', cur', q1, q2, q3, q4⟩ := e3 hc
   rw [hι] at q1
   exact ⟨b', cur', by simp [upd]; exact Option.some.inj q1, q2, q3, q4⟩
theorem eqNil_run {t e : TypeId} {sz by_ : Nat} [ht : TySlice P t e sz by_] (dp : Nat) (A : Option Addr) (n cap : Nat) (w : World) : (Op.equalIn (dp + 1) t (.slice A n cap) (.slice none 0 0)).run P w = .ok A.isNone w := by
 simp only [Op.equalIn, Sem.run_bind, run_underlying' ht.d, Result.andThen_ok]
 cases A <;> rfl
theorem SL.nilCmp {t e : TypeId} {sz by_ : Nat} [ht : TySlice P t e sz by_] {x : Operand} {o : BinOp} {tY : TypeId} {neg : Bool} (hop : o = if neg = true then .neq else .eql) {emp : Prop}
  (hx : ∀ E ι F a w, Rel E ι F st a w -> ∃ A n cap, a.eval x = .slice A n cap /\ (A = none -> emp))
  (hk0 : SL P L Q (st.put d (.t (.bool neg)))) (hk1 : emp -> SL P L Q (st.put d (.t (.bool !neg)))) :
  SL P (⟨d, .binOp o t x (.const (.slice none 0 0)) tY, ty, none⟩ :: L) Q st :=
 SL.value rfl fun E ι F a w r => by
  obtain ⟨A, n, cap, e1, e2⟩ := hx E ι F a w r
  have heq : (Op.equal t (.slice A n cap) (.slice none 0 0)).run P w = .ok A.isNone w := eqNil_run 9999 A n cap w
  have ec : a.eval (.const (.slice none 0 0)) = .slice none 0 0 := rfl
  have hg : ∀ o', (eqGuard o' t x (.const (.slice none 0 0)) (.slice A n cap) (.slice none 0 0)).run P w = .ok () w := fun o' => by
   unfold eqGuard; cases o' <;> rfl
  have hex : (execOp a.eval (GOp.oper ⟨d, .binOp o t x (.const (.slice none 0 0)) tY, ty, none⟩)).run P w = .ok (.value (.bool (if neg = true then !A.isNone else A.isNone))) w := by
   cases neg with
   | false =>
    subst hop
    simp only [execOp, GOp.oper, e1, ec, Bool.false_eq_true, if_false, Sem.run_bind, hg, Result.andThen_ok, binOp, heq, Sem.run_pure]
   | true =>
    subst hop
    simp only [execOp, GOp.oper, e1, ec, if_true, Sem.run_bind, hg, Result.andThen_ok, binOp, heq, Sem.run_pure]
  cases A with
  | none =>
   refine ⟨_, w, ι, F, st.heap, .t (.bool !neg), hex, r.h, Ext.refl _ _ _ _, ?_, hk1 (e2 rfl)⟩
   cases neg <;> rfl
  | some ad =>
   refine ⟨_, w, ι, F, st.heap, .t (.bool neg), hex, r.h, Ext.refl _ _ _ _, ?_, hk0⟩
   cases neg <;> rfl
theorem SL.bytes {src dst e : TypeId} (hs : P.underlying src = some .string) (hd : P.underlying dst = some (.slice e)) (he : P.underlying e = some (.int .u8)) {x : Operand} {b : ByteArray} (hx : st.eval x = .t (.str b)) (hb : b.size <= LEN)
  (hk : SL P L Q (st.put d (.t (.sl 1 b.size (fun i _ => .int .u8 ((b.data.getD i 0).toNat : Nat)))))) :
  SL P (⟨d, .convert src dst x, ty, none⟩ :: L) Q st :=
 SL.value rfl fun E ι F a w r => by
  have hr := r.eval x
  rw [hx] at hr
  have hr := hr.1
  have key : ∃ cap cells m w', b.size <= cap /\ (Conv.stringToBytes e b).run P w = .ok (.slice (some ⟨w.heap.size, 0, none⟩) b.size cap) w' /\ w'.os = w.os /\ w'.tape = w.tape /\ w'.output = w.output /\ w'.heap.size = w.heap.size + 1 /\
    (∀ k, k < w.heap.size -> w'.heap[k]? = w.heap[k]?) /\ w'.heap[w.heap.size]? = some (.cells cells e m) /\ ∀ i, i < b.size -> cells[i]? = some (.int .u8 ((b.data.getD i 0).toNat : Nat)) := by
   have hforced : (Question.appendCap b.size 0 e).forced = false := by rfl
   have hcap : b.size <= (Question.appendCap b.size 0 e).cut (w.tape w.drawn (.appendCap b.size 0 e)) := Nat.le_add_right _ _
   generalize hq : (Question.appendCap b.size 0 e).cut (w.tape w.drawn (.appendCap b.size 0 e)) = cap at hcap
   generalize hc : (b.data.map fun x => Value.int .u8 (x.toNat : Nat)) ++ Array.replicate (cap - b.size) (.int .u8 0) = cells
   have hsz : (w.drew.alloc (.cells cells e)).heap[w.heap.size]? = some (.cells cells e (0, 0)) := (MapKept.heap_alloc w.drew _).1
   have hlt : w.heap.size < (w.drew.alloc (.cells cells e)).heap.size := (Array.getElem?_eq_some_iff.1 hsz).1
   refine ⟨cap, cells, (cells.size, cells.size + 1), (w.drew.alloc (.cells cells e)).freeze ⟨w.heap.size, cells.size, none⟩ 1, hcap, ?_, rfl, rfl, rfl, ?_, fun k hk => ?_, ?_, fun i hi => ?_⟩
   ·simp only [Conv.stringToBytes, Sem.run_bind, run_choose_drew, hforced, Bool.false_eq_true, if_false, Result.andThen_ok, newRow, run_newObj_alloc, Sem.run_pure, markStringish, run_shape, hq, hc]
    have : (w.drew.alloc (.cells cells e)).shape? w.drew.heap.size = some (e, cells.size) := by
     show (match (w.drew.alloc (.cells cells e)).heap[w.heap.size]? with
      | some (.cells c elem _) => some (elem, c.size)
      | _ => none) = _
     rw [hsz]
    simp only [this, Sem.run_bind, run_freeze, Result.andThen_ok, Sem.run_pure]
    rfl
   ·show ((w.heap.push _).modify _ _).size = _
    simp
   ·show ((w.heap.push _).modify _ _)[k]? = _
    rw [Array.getElem?_modify, if_neg (by show ¬ w.heap.size = k; omega), Array.getElem?_push_lt hk]
    exact (Array.getElem?_eq_getElem hk).symm
   ·show ((w.heap.push _).modify _ _)[w.heap.size]? = _
    rw [Array.getElem?_modify, if_pos rfl]
    have : (w.heap.push (Obj.cells cells e (0, 0)))[w.heap.size]? = some (.cells cells e (0, 0)) := by simp
    exact (congrArg (Option.map _) this).trans rfl
   ·subst hc
    have hi' : i < b.data.size := hi
    rw [Array.getElem?_append_left (by simpa using hi')]
    rw [Array.getElem?_map, Array.getElem?_eq_getElem hi', Option.map_some]
    rw [Array.getD_eq_getD_getElem?, Array.getElem?_eq_getElem hi', Option.getD_some]
  obtain ⟨cap, cells, m, w', hcap, hrun, k1, k2, k3, k4, k5, k6, k7⟩ := key
  obtain ⟨g1, g2⟩ := r.h.grow (F' := fun k => F k \/ k = w.heap.size) k1 k2 k3 (by omega) k5 (fun k h => .inl h) (fun k h => by rcases h with h | h; exact .inl h; exact .inr (by omega)) (fun k h => by rcases h with h | h; (have := r.h.frlt k h; omega); omega)
  refine ⟨.slice (some ⟨w.heap.size, 0, none⟩) b.size cap, w', ι, _, st.heap, _, ?_, g1, g2, ?_, hk⟩
  ·simp only [execOp, GOp.oper, convert, hr, Sem.run_bind, run_underlying' hs, run_underlying' hd, run_underlying' he, Result.andThen_ok, hrun, Sem.run_pure]
  ·refine ⟨_, cap, rfl, hcap, hb, fun hn => ⟨w.heap.size, 0, rfl, .inr rfl, fun i hi j hj => ⟨_, ?_, rfl⟩⟩⟩
   have : j = 0 := by omega
   subst this
   simp only [World.cell?, k6]
   simpa using k7 i hi
end
section
variable [SU] [Codes] {Q : Exit -> ESt -> Prop}
def bytesI (b : ByteArray) : List Int := b.data.toList.map fun x => (x.toNat : Int)
theorem bytesI_len (b : ByteArray) : (bytesI b).length = b.size := by simp [bytesI]
def bytesO (P : Program) [Tys P] (s : ESt) (d : Option Tmp) (src dst : TypeId) (x : Operand) (K : ESt -> Option ρ) : Option ρ := match (Tys.c P src).desc, (Tys.c P dst).sl, s.eval x with
 | some .string, some (e, _, _), .s b => match (Tys.c P e).desc with
  | some (.int .u8) => grd (okB (b.size <= 281474976710656)) (K (s.put d (.fz (.int .u8) (bytesI b))))
  | _ => none
 | _, _, _ => none
theorem bytesO_ok [T : Tys P] {s : ESt} {src dst : TypeId} {x : Operand} {K : ESt -> Option ρ} {res : ρ} (hK : ∀ s', K s' = some res -> SLT P L Q s') (h : bytesO P s d src dst x K = some res) : SLT P (⟨d, .convert src dst x, ty, none⟩ :: L) Q s := by
 refine ⟨?_⟩
 unfold bytesO at h
 split at h
 ·rename_i e sz by_ b h1 h2 hx
  have t1 := (T.ok src).desc _ h1
  have t2 := (T.ok dst).sl _ _ _ h2
  split at h
  ·rename_i h3
   have t3 := (T.ok e).desc _ h3
   obtain ⟨hp, h⟩ := grd_out h
   have hp := okB_out hp
   have hx := eval_eq hx rfl
   refine SL.bytes t1.d t2.d t3.d hx hp ?_
   have := (hK _ h).out
   rw [toSt_put] at this
   have e : toV s.heap.len (.fz (.int .u8) (bytesI b)) = .t (.sl 1 b.size (fun i _ => .int .u8 ((b.data.getD i 0).toNat : Nat))) := by
    simp only [toV, encL]
    have e1 : (bytesI b).length = b.size := bytesI_len b
    show V.t (.sl 1 (bytesI b).length (fun r c => .int .u8 ((bytesI b).getD r 0))) = _
    rw [e1]
    congr 2
    funext i _
    congr 1
    simp only [bytesI, List.getD_eq_getElem?_getD, List.getElem?_map, Array.getElem?_toList, Array.getD_eq_getD_getElem?]
    cases b.data[i]? <;> rfl
   rw [e] at this
   exact this
  ·cases h
 ·cases h
def nilQ (s : ESt) (o : BinOp) (x y : Operand) : Option (Bool × Prop) := match y with
 | .const (.slice none 0 0) => match (match o with | .eql => some false | .neq => some true | _ => none) with
  | some neg => match s.eval x with
   | .fz _ l => some (neg, l = [])
   | .sfull id p => match s.heap.at id p with
    | some v => some (neg, v.l = [])
    | none => none
   | _ => none
  | none => none
 | _ => none
def nilK (s : ESt) (d : Option Tmp) (neg : Bool) (emp : Prop) (K : ESt -> Option ρ) : Option ρ :=
 grd (okB (emp -> K (s.put d (.b (!neg))) = K (s.put d (.b neg)))) (K (s.put d (.b neg)))
def isSlTy (P : Program) [Tys P] (t : TypeId) : Bool := match (Tys.c P t).sl with
 | some _ => true
 | none => false
theorem nilK_ok [T : Tys P] {s : ESt} {o : BinOp} {t tY : TypeId} {x y : Operand} {neg : Bool} {emp : Prop} {K : ESt -> Option ρ} {res : ρ} (hK : ∀ s', K s' = some res -> SLT P L Q s') (hq : nilQ s o x y = some (neg, emp)) (ht : isSlTy P t = true)
  (h : nilK s d neg emp K = some res) : SLT P (⟨d, .binOp o t x y tY, ty, none⟩ :: L) Q s := by
 refine ⟨?_⟩
 obtain ⟨hp, h⟩ := grd_out h
 have hp := okB_out hp
 unfold isSlTy at ht
 split at ht
 rotate_left
 ·cases ht
 rename_i q hsl
 obtain ⟨e, sz, by_⟩ := q
 have t2 := (T.ok t).sl _ _ _ hsl
 unfold nilQ at hq
 split at hq
 ·split at hq
  ·rename_i neg' hneg
   have hop : ∀ b, neg' = b -> o = if b = true then .neq else .eql := fun b hb => by
    subst hb
    split at hneg <;> first | (injection hneg with hneg; subst hneg; rfl) | cases hneg
   have k0 : K (s.put d (.b neg)) = some res := h
   have done : (∀ E ι F a w, Rel E ι F (toSt s) a w -> ∃ A n cap, a.eval x = .slice A n cap /\ (A = none -> emp)) -> neg' = neg -> SL P (⟨d, .binOp o t x (.const (.slice none 0 0)) tY, ty, none⟩ :: L) (liftQ Q) (toSt s) := fun hx hn => by
    refine SL.nilCmp (e := e) (sz := sz) (by_ := by_) (neg := neg) (hop _ hn) hx ?_ (fun he => ?_)
    ·have := (hK _ k0).out
     rw [toSt_put] at this
     exact this
    ·have := (hK _ ((hp he).trans k0)).out
     rw [toSt_put] at this
     exact this
   split at hq
   ·rename_i τ l hx
    injection hq with hq
    injection hq with q1 q2
    have hx := eval_eq hx rfl
    refine done (fun E ι F a w r => ?_) q1
    have hr := r.eval x
    rw [hx] at hr
    simp only [toV, encL] at hr
    obtain ⟨A, cap, e1, e2, e3, e4⟩ := hr
    refine ⟨A, _, cap, e1, fun hA => ?_⟩
    rw [<- q2]
    cases l with
    | nil => rfl
    | cons a l =>
     obtain ⟨b, o, q, _⟩ := e4 (by simp)
     rw [hA] at q; cases q
   ·rename_i id p hx
    split at hq
    ·rename_i v hv
     injection hq with hq
     injection hq with q1 q2
     have hx := eval_eq hx rfl
     refine done (fun E ι F a w r => ?_) q1
     have hr := r.eval x
     rw [hx] at hr
     simp only [toV, EHeap.len_at hv] at hr
     obtain ⟨_, hr⟩ := hr
     have hs' : (toSt s).heap.slot ⟨id, p⟩ = .live (v.obj s.heap.len id p) := slot_lst hv
     rw [hs'] at hr
     obtain ⟨_, hr⟩ := hr
     obtain ⟨hn, A, cap, e1, e2, e3⟩ := hr rfl
     refine ⟨A, _, cap, e1, fun hA => ?_⟩
     rw [<- q2]
     cases hl : v.l with
     | nil => rfl
     | cons a l =>
      obtain ⟨b, cur, _, q, _⟩ := e3 (by rw [hl] at e2; simp at e2; omega)
      rw [hA] at q; cases q
    ·cases hq
   ·cases hq
  ·cases hq
 ·cases hq
def truncO (P : Program) [Tys P] (s : ESt) (d : Option Tmp) (t : TypeId) (x y : Operand) (K : ESt -> Option ρ) : Option ρ := match (Tys.c P t).sl, s.eval x, s.eval y with
 | some (_, sz, _), .sfull id [], .i _ h => match s.heap.obj id with
  | .lst v => bif froT v.τ && Nat.beq v.τ.sz sz then grd (okB (0 <= h /\ h <= v.l.length))
    (bif Nat.ble s.heap.lo id then K ((s.app (rootIs id) id id s.heap.next ⟨v.e, v.τ, v.l.take h.toNat⟩).put d (.sfull id []))
      else bif Nat.ble s.heap.lo s.heap.next then litO s.heap.next fun k2 => K ((s.app (rootIs id) id k2 (k2 + 1) ⟨v.e, v.τ, v.l.take h.toNat⟩).put d (.sfull k2 [])) else none) else none
  | _ => none
 | _, _, _ => none
theorem truncO_ok [T : Tys P] {s : ESt} {t : TypeId} {x y : Operand} {K : ESt -> Option ρ} {res : ρ} (hK : ∀ s', K s' = some res -> SLT P L Q s') (h : truncO P s d t x y K = some res) : SLT P (⟨d, .slice t x none (some y) none, ty, none⟩ :: L) Q s := by
 refine ⟨SL.fair fun hf => ?_⟩
 unfold truncO at h
 split at h
 ·rename_i e sz by_ id k hh hsl hx hy
  have ht := (T.ok t).sl _ _ _ hsl
  split at h
  ·rename_i v ho
   obtain ⟨ve, vτ, vl⟩ := v
   have hb := bif_none h
   clear h
   obtain ⟨hb, h⟩ := hb
   simp only [Bool.and_eq_true] at hb
   obtain ⟨hfro, hb⟩ := hb
   have hb := Nat.eq_of_beq_eq_true hb
   obtain ⟨hp, h⟩ := grd_out h
   obtain ⟨p1, p2⟩ := okB_out hp
   simp only at p2
   have hat : s.heap.at id [] = some ⟨ve, vτ, vl⟩ := by simp only [EHeap.at, ho, LV.at_nil]
   have hx := eval_eq hx rfl
   have hy := eval_eq hy rfl
   simp only [toV, EHeap.len_at hat] at hx
   simp only [toV] at hy
   have hs := slot_lst hat
   have hlive : id < s.heap.next := Classical.byContradiction fun hn => by
    have := hf.next ⟨id, []⟩ (Nat.le_of_not_lt hn)
    rw [hs] at this; cases this
   have hunb : ∀ p, (toH s.heap).slot ⟨s.heap.next, p⟩ = .unborn := fun p => hf.next ⟨s.heap.next, p⟩ (Nat.le_refl _)
   have hold : ∀ p, p ≠ [] -> (toH s.heap).slot ⟨id, p⟩ = .unborn := fun p hp => by
    show (s.heap.obj id).slot _ _ _ = _
    rw [ho]
    exact OD.flat_slot (o := .lst ⟨ve, vτ, vl⟩) hfro p hp
   have hmin : min hh.toNat vl.length = hh.toNat := by omega
   refine SL.trunc (P := P) (t := t) (by_ := by_) (sz := sz) (o := LV.obj s.heap.len id [] ⟨ve, vτ, vl⟩) hx hs hb hy p1 p2 ?_
   have main : ∀ k2 nx, (k2 = id \/ ∀ p, (toH s.heap).slot ⟨k2, p⟩ = .unborn) -> s.heap.next <= nx -> k2 < nx -> s.heap.lo <= k2 -> K ((s.app (rootIs id) id k2 nx ⟨ve, vτ, vl.take hh.toNat⟩).put d (.sfull k2 [])) = some res ->
     SL P L (liftQ Q) (((toSt s).on ((toSt s).heap.set ⟨id, []⟩ { LV.obj s.heap.len id [] ⟨ve, vτ, vl⟩ with n := hh.toNat, ver := 0 + 1 })).put d (.sref ⟨id, []⟩ (0 + 1) 0 hh.toNat)) := by
    intro k2 nx q1 q2 q3 q4 q5
    refine SL.weak (weak_app (k := id) (k2 := k2) (nx := nx) (f := rootIs id) (v := ⟨ve, vτ, vl.take hh.toNat⟩) (a1 := { LV.obj s.heap.len id [] ⟨ve, vτ, vl⟩ with n := hh.toNat, ver := 0 + 1 }) hf hfro (fun i => ?_) rfl rfl rfl (by simp [hmin]) (fun r hr c hc => ?_) hold q1 q2 (by omega) q3 q4 (fun j p e _ e2 => by subst e2; simp [rootIs] at e) (fun j p hne => by simp only [rootIs, natBeq_ne hne, cond_false]) (fun j p u h => by unfold rootIs at h; cases hb : Nat.beq j id <;> rw [hb] at h <;> first | (cases h; done) | (injection h with h; exact h.symm)) d (fun _ => Wk.refl _)) (hK _ q5).out
    ·show (bif Id.beq i ⟨id, []⟩ then _ else _) = _
     exact beq_if _ _ _ _
    ·have hr : r < hh.toNat := hr
     have hc : c < vτ.sz := hc
     show Wk (cellV s.heap.len id [] r c (cellC vτ (LV.row ⟨ve, vτ, vl⟩ r) c)) (.t (encC vτ ((vl.take hh.toNat).getD r vτ.z) c))
     obtain ⟨u, e1, e2⟩ := cellC_enc vτ (vl.getD r vτ.z) c hfro
     have e3 : cellC vτ (LV.row ⟨ve, vτ, vl⟩ r) c = .ev u := e1
     have e4 : (vl.take hh.toNat).getD r vτ.z = vl.getD r vτ.z := by simp only [List.getD_eq_getElem?_getD, List.getElem?_take, if_pos hr]
     rw [e3, e4]
     exact Wk.of_eq (e2 hc _)
   cases hlo : Nat.ble s.heap.lo id with
   | true =>
    rw [hlo] at h
    exact main id s.heap.next (.inl rfl) (Nat.le_refl _) hlive (Nat.le_of_ble_eq_true hlo) h
   | false =>
    rw [hlo] at h
    simp only [cond_false] at h
    obtain ⟨hlo2, h⟩ := bif_none h
    rw [litO_eq] at h
    exact main s.heap.next (s.heap.next + 1) (.inr hunb) (by omega) (by omega) (Nat.le_of_ble_eq_true hlo2) h
  ·cases h
 ·cases h
end
end
end Go.Abs
namespace Go.Abs
open Go
noncomputable section
variable {P : Program} {d : Option Tmp} {ty : TypeId} {L : List GOp} {ρ : Type}
section
variable [SU] [Codes] {Q : Exit -> ESt -> Prop}
def goneSC : (τ : Ty) -> τ.D -> Nat -> Option τ.D
 | .st i, x, c => Codes.goneS i x c
 | _, _, _ => none
theorem goneSC_ok : ∀ (τ : Ty) (x : τ.D) (c : Nat) (y : τ.D), goneSC τ x c = some y -> cellC τ y c = .ev .un /\ ∀ c', c' ≠ c -> cellC τ y c' = cellC τ x c'
 | .st i, x, c, y, h => Codes.goneS_ok i x c y h
 | .bool, _, _, _, h => by cases h
 | .int _, _, _, _, h => by cases h
 | .str, _, _, _, h => by cases h
 | .sl _, _, _, _, h => by cases h
 | .ol _ _, _, _, _, h => by cases h
def tkM (id k : Nat) (P : List Nat) : Id -> Option Id := fun i => if i.k = k then some ⟨id, P ++ i.p⟩ else if i.k = id /\ P <+: i.p then none else some i
def EHeap.take (H : EHeap) (id k n : Nat) (root' w : LV) : EHeap :=
 { H with next := k + 1, obj := fun j => bif Nat.beq j id then .lst root' else bif Nat.beq j k then .lst w else scrubO (attF id k n) (H.obj j) }
def ESt.take (s : ESt) (id k n : Nat) (root' w : LV) (tx : Tmp) : ESt := { s with env := fun t => bif Nat.beq t tx then .sfull k [] else scrub (attF id k n) (s.env t), heap := s.heap.take id k n root' w }
theorem WeakT.take {s : ESt} {id : Nat} {p : List Nat} {root v root' w : LV} {r c : Nat} {y : v.τ.D} {tx : Tmp} (hik : id < s.heap.next) (ho : s.heap.obj id = .lst root) (hv : root.at p = some v) (hr : r < v.l.length)
  (hc : c < v.τ.sz) (hw : cellC v.τ (v.row r) c = .own w.e w.τ w.l) (hy1 : cellC v.τ y c = .ev .un) (hy2 : ∀ c', c' ≠ c -> cellC v.τ y c' = cellC v.τ (v.row r) c') (hp : root.put p (v.setRow r y) = some root') (htx : s.env tx = .sfull id (p ++ [c, r])) :
  WeakT s (s.take id s.heap.next (p.length + 2) root' w tx) := Weak.fair fun hf => by
 let k := s.heap.next
 let PP : List Nat := p ++ [c, r]
 let m : Id -> Option Id := tkM id k PP
 let f := attF id k (p.length + 2)
 let H' := s.heap.take id k (p.length + 2) root' w
 have hne : id ≠ k := Nat.ne_of_lt hik
 obtain ⟨a1, a2, a3, a4⟩ := LV.put_ok p root v root' r c y hv hr hy2 hp
 have hpe := LV.at_even p root v hv
 have hPP : PP.length = p.length + 2 := by simp [PP]
 have eV : root.at PP = some w := by
  rw [LV.at_append _ _ _ _ hv, LV.at_one]
  exact LV.kid_of hw
 have atP : ∀ q, root.at (PP ++ q) = w.at q := fun q => by rw [LV.at_append _ _ _ _ eV]
 have atN : ∀ q, root'.at (PP ++ q) = none := fun q => by
  rw [show PP ++ q = p ++ ([c, r] ++ q) by simp [PP], LV.at_append _ _ _ _ a1]
  show LV.at _ (c :: r :: q) = none
  rw [LV.at_cons]
  have : (v.setRow r y).kid c r = none := by
   have e : (v.setRow r y).row r = y := by rw [LV.setRow_row hr, if_pos rfl]
   unfold LV.kid
   have e' : (v.setRow r y).l.getD r (v.setRow r y).τ.z = y := e
   rw [e']
   show (match cellC v.τ y c with
    | .own t e l => some (LV.mk t e l)
    | .ev _ => none) = none
   rw [hy1]
  rw [this]
 have hobj : ∀ j, j ≠ id -> j ≠ k -> H'.obj j = scrubO f (s.heap.obj j) := fun j e1 e2 => by simp only [H', EHeap.take, natBeq_ne e1, natBeq_ne e2, cond_false]; rfl
 have hobji : H'.obj id = .lst root' := by simp only [H', EHeap.take, Nat.beq_refl, cond_true]
 have hobjk : H'.obj k = .lst w := by simp only [H', EHeap.take, natBeq_ne (fun e => hne e.symm), cond_false, Nat.beq_refl, cond_true]
 have hsl : ∀ q, (toH s.heap).slot ⟨id, q⟩ = (OD.lst root).slot s.heap.len id q := fun q => by show (s.heap.obj id).slot _ _ _ = _; rw [ho]
 have hslk : ∀ q, (toH s.heap).slot ⟨k, q⟩ = .unborn := fun q => hf.next ⟨k, q⟩ (Nat.le_refl _)
 have hsl' : ∀ q, (toH H').slot ⟨id, q⟩ = (OD.lst root').slot H'.len id q := fun q => by show (H'.obj id).slot _ _ _ = _; rw [hobji]
 have hslk' : ∀ q, (toH H').slot ⟨k, q⟩ = (OD.lst w).slot H'.len k q := fun q => by show (H'.obj k).slot _ _ _ = _; rw [hobjk]
 have fn : ∀ j q, f j q = none -> j ≠ k /\ ¬ (j = id /\ PP <+: q) := fun j q h => by
  obtain ⟨e1, e2⟩ := attF_none h
  exact ⟨e1, fun ⟨x, y⟩ => e2 ⟨x, by rw [<- hPP]; exact y.length_le⟩⟩
 have mo : ∀ j q, j ≠ id -> j ≠ k -> m ⟨j, q⟩ = some ⟨j, q⟩ := fun j q e1 e2 => by simp only [m, tkM, if_neg e2, e1, false_and, if_false]
 have mi : ∀ q, ¬ PP <+: q -> m ⟨id, q⟩ = some ⟨id, q⟩ := fun q e => by simp only [m, tkM, if_neg hne, e, and_false, if_false]
 have mk : ∀ q, m ⟨k, q⟩ = some ⟨id, PP ++ q⟩ := fun q => by simp only [m, tkM, if_true]
 have hkk : ScrubOk f s.heap (toH s.heap) H' m (fun _ => False) := ⟨fun j q u h => by
   have : u = .un := attF_some h
   rw [this]; simp only [toV]; exact KG.un,
  fun j q h hb => by
   obtain ⟨e1, e2⟩ := fn j q h
   by_cases hj : j = id
   ·subst hj
    have hq : ¬ PP <+: q := fun e => e2 ⟨rfl, e⟩
    refine .inr ⟨?_, mi q hq⟩
    rw [hsl', hsl]
    rw [hsl] at hb
    simp only [OD.slot] at hb ⊢
    rcases a2 q hq with ⟨x1, x2⟩ | ⟨x, x', x1, x2, x3⟩
    ·rw [x2] at hb; exact absurd rfl hb
    ·rw [x1, x2]; exact ⟨rfl, x3.e, by show x'.τ.sz = x.τ.sz; rw [x3.τ], x3.n⟩
   ·refine .inr ⟨?_, mo j q hj e1⟩
    show SlotLike _ ((H'.obj j).slot H'.len j q)
    rw [hobj j hj e1]
    exact scrub_slots hb,
  fun j q h hb => by
   obtain ⟨e1, e2⟩ := fn j q h
   by_cases hj : j = id
   ·subst hj
    have hq : ¬ PP <+: q := fun e => e2 ⟨rfl, e⟩
    unfold EHeap.len
    rw [hobji, ho]
    simp only [OD.len]
    rcases a2 q hq with ⟨x1, x2⟩ | ⟨x, x', x1, x2, x3⟩
    ·rw [x1, x2]
    ·rw [x1, x2]; simp only [x3.n]
   ·exact EHeap.len_scrub (hobj j hj e1) q⟩
 have fo : ∀ j, j ≠ id -> j ≠ k -> ∀ q, f j q = none := fun j e1 e2 q => attF_not e2 (fun e => absurd e e1)
 -- cells of the list that moves
 have cellM : ∀ (q : List Nat) (a : LV), w.at q = some a -> ∀ r' c', r' < a.l.length -> KG (toH s.heap) (toH H') m (fun _ => False) (cellV s.heap.len id (PP ++ q) r' c' (cellC a.τ (a.row r') c')) (cellV H'.len k q r' c' (cellC a.τ (a.row r') c')) := fun q a ha r' c' hr' => by
  cases hx : cellC a.τ (a.row r') c' with
  | ev u => exact KG.dat (cellC_dat _ _ _ _ hx)
  | own t e l =>
   simp only [cellV]
   have e1 : (toH s.heap).slot ⟨id, PP ++ q ++ [c', r']⟩ = .live (LV.obj s.heap.len id (PP ++ q ++ [c', r']) ⟨t, e, l⟩) := by
    rw [hsl]
    exact kid_born (by rw [atP]; exact ha) hx
   have e2 : (toH H').slot ⟨k, q ++ [c', r']⟩ = .live (LV.obj H'.len k (q ++ [c', r']) ⟨t, e, l⟩) := by
    rw [hslk']
    exact kid_born ha hx
   refine KG.sref (o := LV.obj s.heap.len id (PP ++ q ++ [c', r']) ⟨t, e, l⟩) e1 e2 ?_ rfl rfl rfl rfl (by show 0 + l.length <= l.length; omega)
   rw [mk]
   exact congrArg (fun z => some (Id.mk id z)) (List.append_assoc PP q [c', r']).symm
 have idlive : (toH s.heap).slot ⟨id, []⟩ ≠ .unborn := by rw [hsl]; simp only [OD.slot, LV.at_nil]; intro e; cases e
 -- cells of the lists that stay
 have cellS : ∀ (q : List Nat) (a a' : LV), root.at q = some a -> root'.at q = some a' -> q.length % 2 = 0 -> ¬ PP <+: q -> ∀ r' c' (x x' : Cell), ¬ (q = p /\ r' = r /\ c' = c) -> x = cellC a.τ (a.row r') c' -> x' = cellC a'.τ (a'.row r') c' -> x.Sim x' ->
   KG (toH s.heap) (toH H') m (fun _ => False) (cellV s.heap.len id q r' c' x) (cellV H'.len id q r' c' x') := fun q a a' ha ha' hqe hnq r' c' x x' hne hx hx' hsim => by
  cases x with
  | ev u =>
   cases x' with
   | own t e l => exact hsim.elim
   | ev u' =>
    have : u = u' := hsim
    subst this
    exact KG.dat (cellC_dat _ _ _ _ hx.symm)
  | own t e l =>
   cases x' with
   | ev u => exact hsim.elim
   | own t' e' l' =>
    obtain ⟨rfl, rfl, hl⟩ := hsim
    simp only [cellV]
    have np : ¬ PP <+: q ++ [c', r'] := fun ⟨z, hz⟩ => by
     have hlen := congrArg List.length hz
     simp only [List.length_append, List.length_cons, List.length_nil] at hlen
     by_cases hz0 : z = []
     ·subst hz0
      rw [List.append_nil] at hz
      have h2 : p = q /\ [c, r] = [c', r'] := List.append_inj' hz rfl
      have h3 := h2.2
      simp only [List.cons.injEq, and_true] at h3
      exact hne ⟨h2.1.symm, h3.2.symm, h3.1.symm⟩
     ·have hzl : z.length ≠ 0 := fun e => hz0 (List.eq_nil_of_length_eq_zero e)
      refine hnq (List.prefix_of_prefix_length_le ⟨z, hz⟩ (List.prefix_append q [c', r']) ?_)
      omega
    rw [hl]
    have e1 : (toH s.heap).slot ⟨id, q ++ [c', r']⟩ = .live (LV.obj s.heap.len id (q ++ [c', r']) ⟨t, e, l⟩) := by rw [hsl]; exact kid_born ha hx.symm
    have e2 : (toH H').slot ⟨id, q ++ [c', r']⟩ = .live (LV.obj H'.len id (q ++ [c', r']) ⟨t, e, l'⟩) := by rw [hsl']; exact kid_born ha' hx'.symm
    exact KG.sref (o := LV.obj s.heap.len id (q ++ [c', r']) ⟨t, e, l⟩) e1 e2 (mi _ np) rfl rfl rfl rfl (by show 0 + l'.length <= l'.length; omega)
 have gen : Gen (toH s.heap) (toH H') m (fun _ => False) := by
  refine Gen.scrub (fun j => j = id \/ j = k) hkk hf.obj (fun j hj => ?_) (fun i hi o' ho' => ?_) (fun i hi sb g' hm => ?_) (fun i j x hi h1' h2' e1 e2 => ?_) rfl (fun i hi => ?_) (fun i hi hil hip => ?_)
  ·have e1 : j ≠ id := fun e => hj (.inl e)
   have e2 : j ≠ k := fun e => hj (.inr e)
   exact ⟨fo j e1 e2, hobj j e1 e2, fun q => mo j q e1 e2, fun q h => h, fun q => rfl⟩
  ·obtain ⟨j, q⟩ := i
   by_cases hj : j = id
   ·subst hj
    rw [hsl'] at ho'
    simp only [OD.slot] at ho'
    cases ha' : root'.at q with
    | none => rw [ha'] at ho'; cases ho'
    | some a' =>
     rw [ha'] at ho'
     injection ho' with ho'; subst ho'
     have hq : ¬ PP <+: q := fun ⟨z, hz⟩ => by rw [<- hz, atN] at ha'; cases ha'
     rcases a2 q hq with ⟨x1, x2⟩ | ⟨x, x', x1, x2, x3⟩
     ·rw [x1] at ha'; cases ha'
     ·have ha2 := ha'
      rw [x2] at ha'
      injection ha' with ha'; subst ha'
      refine .inr ⟨⟨j, q⟩, LV.obj s.heap.len j q x, mi q hq, ?_, fun h => h, x3.e, ?_, Nat.le_of_eq x3.n, fun r' hr' c' hc' => ?_⟩
      ·rw [hsl]
       simp only [OD.slot, x1]
      ·show x'.τ.sz = x.τ.sz
       rw [x3.τ]
      ·by_cases hx : q = p /\ r' = r /\ c' = c
       ·obtain ⟨rfl, rfl, rfl⟩ := hx
        rw [a1] at ha2
        injection ha2 with ha2; subst ha2
        have : cellC (v.setRow r' y).τ ((v.setRow r' y).row r') c' = .ev .un := by
         rw [LV.setRow_row hr, if_pos rfl]; exact hy1
        show KG _ _ _ _ _ (cellV H'.len j q r' c' (cellC (v.setRow r' y).τ ((v.setRow r' y).row r') c'))
        rw [this]
        simp only [cellV, toV]
        exact KG.un
       ·exact cellS q x x' x1 x2 (LV.at_even _ _ _ x1) hq r' c' _ _ hx rfl rfl (x3.c r' c' hx)
   ·have hj2 : j = k := hi.resolve_left hj
    subst hj2
    rw [hslk'] at ho'
    simp only [OD.slot] at ho'
    cases ha' : w.at q with
    | none => rw [ha'] at ho'; cases ho'
    | some a' =>
     rw [ha'] at ho'
     injection ho' with ho'; subst ho'
     refine .inr ⟨⟨id, PP ++ q⟩, LV.obj s.heap.len id (PP ++ q) a', mk q, ?_, fun h => h, rfl, rfl, Nat.le_refl _, fun r' hr' c' _ => cellM q a' ha' r' c' hr'⟩
     rw [hsl]
     simp only [OD.slot, atP, ha']
  ·obtain ⟨j, q⟩ := i
   by_cases hj : j = id
   ·subst hj
    rw [hsl'] at hm
    simp only [OD.slot] at hm
    cases ha' : root'.at q <;> rw [ha'] at hm <;> cases hm
   ·have hj2 : j = k := hi.resolve_left hj
    subst hj2
    rw [hslk'] at hm
    simp only [OD.slot] at hm
    cases ha' : w.at q <;> rw [ha'] at hm <;> cases hm
  ·obtain ⟨j1, q1⟩ := i
   obtain ⟨j2, q2⟩ := j
   have key : ∀ q y, m ⟨id, q⟩ = some y -> ¬ PP <+: q /\ y = ⟨id, q⟩ := fun q y e => by
    by_cases hq : PP <+: q
    ·simp only [m, tkM, if_neg hne, hq, and_self, if_true] at e; cases e
    ·rw [mi q hq] at e
     injection e with e
     exact ⟨hq, e.symm⟩
   by_cases n1 : j1 = id
   ·subst n1
    obtain ⟨p1, x1⟩ := key q1 x e1
    by_cases n2 : j2 = j1
    ·subst n2
     obtain ⟨p2, x2⟩ := key q2 x e2
     rw [<- x1, <- x2]
    ·by_cases n3 : j2 = k
     ·subst n3
      rw [mk] at e2
      injection e2 with e2
      rw [x1] at e2
      injection e2 with _ e2
      exact absurd ⟨q2, e2⟩ p1
     ·rw [mo j2 q2 n2 n3] at e2
      injection e2 with e2
      rw [x1] at e2; injection e2 with e2 _; exact absurd e2 n2
   ·have hj : j1 = k := hi.resolve_left n1
    subst hj
    rw [mk] at e1
    injection e1 with e1
    by_cases n2 : j2 = id
    ·subst n2
     obtain ⟨p2, x2⟩ := key q2 x e2
     rw [x2] at e1
     injection e1 with _ e1
     exact absurd ⟨q1, e1⟩ p2
    ·by_cases n3 : j2 = k
     ·subst n3
      rw [mk] at e2
      injection e2 with e2
      rw [<- e1] at e2
      injection e2 with _ e2
      rw [List.append_cancel_left e2]
     ·rw [mo j2 q2 n2 n3] at e2
      injection e2 with e2
      rw [<- e1] at e2; injection e2 with e2 _; exact absurd e2 n2
  ·have hi : s.heap.next + 1 <= i.k := hi
   have e1 : i.k ≠ id := by omega
   have e2 : i.k ≠ k := by show i.k ≠ s.heap.next; omega
   show (H'.obj i.k).slot _ _ _ = _
   rw [hobj _ e1 e2]
   exact scrub_unborn.2 (hf.next i (by omega))
  ·obtain ⟨j, q⟩ := i
   simp only at hip hil
   subst hip
   by_cases hj : j = id
   ·subst hj
    have fnone : f j [] = none := attF_not hne (fun _ => by simp)
    rcases hkk.slot j [] fnone idlive with h | ⟨h, h'⟩
    ·exact .inr (.inl h)
    ·exact .inr (.inr ⟨h', h⟩)
   ·have hj2 : j = k := hi.resolve_left hj
    subst hj2
    exact .inl (hslk [])
 refine Weak.gen m (fun _ => False) rfl gen (fun t => ?_)
 show KG (toH s.heap) (toH H') m (fun _ => False) (toV s.heap.len (s.env t)) (toV H'.len (bif Nat.beq t tx then .sfull k [] else scrub f (s.env t)))
 cases ht : Nat.beq t tx with
 | false => exact ScrubOk.keeps hkk _ (hf.env t)
 | true =>
  obtain rfl := natBeq ht
  rw [htx]
  have l1 : s.heap.len id PP = some w.l.length := by
   unfold EHeap.len
   rw [ho]
   simp only [OD.len, eV]
  have l2 : H'.len k [] = some w.l.length := by
   unfold EHeap.len
   rw [hobjk]
   simp only [OD.len, LV.at_nil]
  simp only [cond_true, toV]
  rw [show p ++ [c, r] = PP from rfl, l1, l2]
  have e1 : (toH s.heap).slot ⟨id, PP⟩ = .live (LV.obj s.heap.len id PP w) := by rw [hsl]; simp only [OD.slot, eV]
  have e2 : (toH H').slot ⟨k, []⟩ = .live (LV.obj H'.len k [] w) := by rw [hslk']; simp only [OD.slot, LV.at_nil]
  have em : m ⟨k, []⟩ = some ⟨id, PP⟩ := by rw [mk, List.append_nil]
  exact KG.sref e1 e2 em rfl rfl rfl rfl (by show 0 + w.l.length <= w.l.length; omega)
theorem weak_addz {s : ESt} {a : AObj} {v : LV} {u0 : V} (hf : Fair s) (hz : ∀ p, p ≠ [] -> ∀ w, v.at p = some w -> w.l = []) (h1 : a.ver = 0) (h2 : v.e = a.elem) (h3 : v.τ.sz = a.sz) (h4 : v.l.length = a.n)
  (h5 : ∀ r, r < a.n -> ∀ c, c < a.sz -> (∃ u, cellC v.τ (v.row r) c = .ev u /\ ∀ len, Wk (a.get r c) (toV len u)) \/ ∃ t e, cellC v.τ (v.row r) c = .own t e [] /\ a.get r c = .nils) (d : Option Tmp) (hu : d ≠ none -> Wk u0 (.sref ⟨s.heap.next, []⟩ 0 0 v.l.length)) :
  Weak (((toSt s).on ((toSt s).heap.addAt s.heap.next a)).put d u0) (toSt ((s.on (s.heap.add s.heap.next (.lst v))).put d (.sfull s.heap.next []))) := by
 let k := s.heap.next
 let f : Nat -> List Nat -> Option EV := fun _ _ => none
 let H1 := (toSt s).heap.addAt s.heap.next a
 let H' := s.heap.add s.heap.next (.lst v)
 let m : Id -> Option Id := fun i => if i.k = k then (if i.p = [] then some ⟨k, []⟩ else none) else some i
 have hs1 : ∀ i : Id, H1.slot i = if i = ⟨k, []⟩ then .live a else (toH s.heap).slot i := fun i => by
  show (bif Id.beq i ⟨s.heap.next, []⟩ then _ else _) = _
  exact beq_if _ _ _ _
 have hobj : ∀ j, j ≠ k -> H'.obj j = scrubO f (s.heap.obj j) := fun j hj => by
  show (bif Nat.beq j s.heap.next then _ else _) = _
  rw [natBeq_ne hj, cond_false, scrubO_never]
 have hslk : ∀ q, (toH H').slot ⟨k, q⟩ = (OD.lst v).slot H'.len k q := fun q => by
  show (bif Nat.beq k s.heap.next then OD.lst v else _).slot H'.len k q = _
  rw [show Nat.beq k s.heap.next = true from Nat.beq_refl _]; rfl
 have hunb : ∀ q, (toH s.heap).slot ⟨k, q⟩ = .unborn := fun q => hf.next ⟨k, q⟩ (Nat.le_refl _)
 have nk : ∀ j q, (toH s.heap).slot ⟨j, q⟩ ≠ .unborn -> j ≠ k := fun j q hb e => hb (by rw [e]; exact hunb q)
 have hk : ScrubOk f s.heap H1 H' m (fun _ => False) := ⟨fun j q u h => (by cases h),
  fun j q h hb => by
   have e1 := nk j q hb
   refine .inr ⟨?_, by simp only [m, if_neg e1]⟩
   rw [hs1, if_neg (fun e => e1 (by injection e))]
   show SlotLike _ ((H'.obj j).slot H'.len j q)
   rw [hobj j e1]
   exact scrub_slots hb,
  fun j q h hb => EHeap.len_scrub (hobj j (nk j q hb)) q⟩
 have gen : Gen H1 (toH H') m (fun _ => False) := by
  refine Gen.scrub (fun j => j = k) hk hf.obj (fun j hj => ?_) (fun i hi o' ho => ?_) (fun i hi sb g' hm => ?_) (fun i j x hi h1' h2' e1 e2 => ?_) rfl (fun i hi => ?_) (fun i hi hil hip => ?_)
  ·exact ⟨fun p => rfl, hobj j hj, fun p => by simp only [m, if_neg hj], fun p h => h, fun p => by rw [hs1, if_neg (fun e => hj (by injection e))]⟩
  ·obtain ⟨j, p⟩ := i
   simp only at hi
   subst hi
   rw [hslk] at ho
   by_cases hp : p = []
   ·subst hp
    rw [slot_flatLst] at ho
    injection ho with ho; subst ho
    refine .inr ⟨⟨k, []⟩, a, by simp only [m, if_true], by rw [hs1, if_pos rfl], fun h => h, h2, h3, Nat.le_of_eq h4, fun r hr c hc => ?_⟩
    have hr : r < v.l.length := hr
    have hc : c < v.τ.sz := hc
    show KG _ _ _ _ _ (cellV H'.len k [] r c (cellC v.τ (v.row r) c))
    rcases h5 r (by omega) c (by omega) with ⟨u, e1, e2⟩ | ⟨t, e, e1, e2⟩
    ·rw [e1]
     exact KG.of_wk' (e2 H'.len) (KG.dat (cellC_dat _ _ _ _ e1))
    ·rw [e1, e2]
     simp only [cellV]
     refine KG.virt (o' := LV.obj H'.len k ([] ++ [c, r]) ⟨t, e, []⟩) ?_ rfl
     rw [hslk]
     exact kid_born (LV.at_nil v) e1
   ·simp only [OD.slot] at ho
    cases hw : v.at p with
    | none => rw [hw] at ho; cases ho
    | some w =>
     rw [hw] at ho
     injection ho with ho; subst ho
     have := hz p hp w hw
     exact .inl ⟨by simp only [m, if_true, if_neg hp], by show w.l.length = 0; rw [this]; rfl⟩
  ·obtain ⟨j, p⟩ := i
   simp only at hi
   subst hi
   rw [hslk] at hm
   simp only [OD.slot] at hm
   cases hv : v.at p <;> rw [hv] at hm <;> cases hm
  ·obtain ⟨j1, p1⟩ := i
   obtain ⟨j2, p2⟩ := j
   simp only at hi
   subst hi
   simp only [m, if_true] at e1
   by_cases hp : p1 = []
   ·rw [if_pos hp] at e1
    injection e1 with e1
    subst e1; subst hp
    simp only [m] at e2
    by_cases h3 : j2 = k
    ·rw [if_pos h3] at e2
     by_cases hp2 : p2 = []
     ·rw [h3, hp2]
     ·rw [if_neg hp2] at e2; cases e2
    ·rw [if_neg h3] at e2
     injection e2 with e2
     injection e2 with e2 _
     exact absurd e2 h3
   ·rw [if_neg hp] at e1; cases e1
  ·have hi : s.heap.next + 1 <= i.k := hi
   have e1 : i.k ≠ k := by show i.k ≠ s.heap.next; omega
   show (H'.obj i.k).slot _ _ _ = _
   rw [hobj _ e1]
   exact scrub_unborn.2 (hf.next i (by omega))
  ·obtain ⟨j, p⟩ := i
   simp only at hi hip hil
   subst hi; subst hip
   refine .inr (.inr ⟨by simp only [m, if_true], ?_⟩)
   rw [hs1, if_pos rfl, hslk, slot_flatLst]
   exact ⟨h1.symm, h2, h3, h4⟩
 refine Weak.gen m (fun _ => False) (by rw [toSt_put, put_nt, put_nt]; rfl) (by rw [put_heap, toSt_put, put_heap]; exact gen) (fun t => ?_)
 have hh1 : (((toSt s).on H1).put d u0).heap = H1 := by rw [put_heap]; rfl
 have hh2 : (toSt ((s.on H').put d (.sfull k []))).heap = toH H' := by rw [toSt_put, put_heap]; rfl
 rw [hh1, hh2, toSt_put]
 have hat : H'.at k [] = some v := by
  show (match (bif Nat.beq k s.heap.next then OD.lst v else _) with
   | .lst v => v.at []
   | _ => none) = _
  rw [show Nat.beq k s.heap.next = true from Nat.beq_refl _]
  exact LV.at_nil v
 have hlast : toV H'.len (.sfull k []) = .sref ⟨k, []⟩ 0 0 v.l.length := by
  simp only [toV]
  rw [EHeap.len_at hat]
 show KG H1 (toH H') m _ ((((toSt s).on H1).put d u0).env t) (((toSt (s.on H')).put d (toV H'.len (.sfull k []))).env t)
 have base : KG H1 (toH H') m (fun _ => False) (toV s.heap.len (s.env t)) (toV H'.len (s.env t)) := by
  have := ScrubOk.keeps hk _ (hf.env t)
  rwa [scrub_never] at this
 cases d with
 | none => exact base
 | some d =>
  simp only [St.put]
  cases Nat.beq t d with
  | false => exact base
  | true =>
   show KG _ _ _ _ (bif Nat.blt d s.nt then u0 else .un) (bif Nat.blt d s.nt then toV H'.len (.sfull k []) else .un)
   cases Nat.blt d s.nt with
   | false => exact KG.un
   | true =>
    simp only [cond_true]
    rw [hlast]
    refine KG.of_wk' (hu (fun e => by cases e)) ?_
    have h6 : (toH H').slot ⟨k, []⟩ = .live (v.obj H'.len k []) := by rw [hslk, slot_flatLst]
    exact KG.sref (i := ⟨k, []⟩) (j := ⟨k, []⟩) (by rw [hs1, if_pos rfl]) h6 (by simp only [m, if_true]) h1.symm rfl h3 h2 (Nat.le_of_eq (Nat.zero_add _))
theorem zrows_at {e : TypeId} {τ : Ty} {n : Nat} : ∀ p, p ≠ [] -> ∀ w, LV.at ⟨e, τ, List.replicate n τ.z⟩ p = some w -> w.l = []
 | [], hp, _, _ => absurd rfl hp
 | [_], _, w, h => by rw [LV.at_odd] at h; cases h
 | c :: r :: p, _, w, h => by
  rw [LV.at_cons] at h
  have hrow : (List.replicate n τ.z).getD r τ.z = τ.z := by
   simp only [List.getD_eq_getElem?_getD, List.getElem?_replicate]
   split <;> rfl
  cases hk : LV.kid ⟨e, τ, List.replicate n τ.z⟩ c r with
  | none => rw [hk] at h; cases h
  | some k =>
   rw [hk] at h
   refine LV.at_empty p k w ?_ h
   unfold LV.kid at hk
   simp only [hrow] at hk
   split at hk
   ·rename_i t' e' l hc
    injection hk with hk
    subst hk
    exact z_ownC _ _ _ _ _ hc
   ·cases hk
def makeW (P : Program) [Tys P] [TyE P] (s : ESt) (d : Option Tmp) (t : Nat) (x y : Operand) (K : ESt -> Option ρ) (no : Option ρ) : Option ρ := match (Tys.c P t).sl with
 | some (e, sz, by_) => bif memN e s.heap.md then (match TyE.o P e, (Tys.c P e).zero with
  | some τ, some z => bif Nat.beq τ.sz sz && Nat.beq z.cells.size sz && Nat.blt 0 sz then (match s.eval x, s.eval y with
   | .i _ m, .i _ m' => grd (okB (m' = m /\ 0 <= m /\ m * (by_ : Int) <= 140737488355328 /\ m <= 281474976710656)) (newO s d (fun id => .sfull id []) K (.lst ⟨e, τ, List.replicate m.toNat τ.z⟩))
   | _, _ => none) else none
  | _, _ => none) else no
 | none => none
theorem makeW_ok [T : Tys P] [TE : TyE P] {s : ESt} {t : Nat} {x y : Operand} {K : ESt -> Option ρ} {no : Option ρ} {res : ρ} (hK : ∀ s', K s' = some res -> SLT P L Q s')
  (hno : no = some res -> SLT P (⟨d, .makeSlice t x y, ty, none⟩ :: L) Q s) (h : makeW P s d t x y K no = some res) : SLT P (⟨d, .makeSlice t x y, ty, none⟩ :: L) Q s := by
 unfold makeW at h
 split at h
 ·rename_i e sz by_ hsl
  have ht := (T.ok t).sl _ _ _ hsl
  cases hmd : memN e s.heap.md with
  | false => rw [hmd] at h; exact hno h
  | true =>
   rw [hmd] at h
   simp only [cond_true] at h
   refine ⟨SL.fair fun hf => ?_⟩
   split at h
   ·rename_i τ z hτ hz
    have hzz := (T.ok e).zero _ hz
    have hh := bif_none h
    clear h
    obtain ⟨hb, h⟩ := hh
    simp only [Bool.and_eq_true] at hb
    obtain ⟨⟨b1, b2⟩, b3⟩ := hb
    obtain rfl := natBeq b1
    split at h
    ·rename_i m _ m' hx hy
     have hx := eval_eq hx rfl
     have hy := eval_eq hy rfl
     simp only [toV] at hx hy
     obtain ⟨hp, h⟩ := grd_out h
     obtain ⟨rfl, p1, p2, p3⟩ := okB_out hp
     obtain ⟨n, hn⟩ := Int.eq_ofNat_of_zero_le p1
     subst hn
     rw [newO_eq] at h
     simp only [Int.toNat_natCast] at h
     obtain ⟨z1, z2⟩ := TE.ozero e τ z hτ hz
     refine SL.makeS (P := P) (t := t) (by_ := by_) (e := e) (z := z) (natBeq b2) hx hy rfl (Nat.le_of_ble_eq_true b3) (Int.ofNat_le.1 (by rw [Int.natCast_mul]; exact p2)) (show n <= 281474976710656 by omega)
      (SL.weak (weak_addz (a := { elem := e, sz := τ.sz, ver := 0, n := n, get := fun _ j => V.cell (z.cells.getD j undef) }) (v := ⟨e, τ, List.replicate n τ.z⟩) hf zrows_at rfl rfl rfl (by simp) (fun i hi j hj => ?_) d (fun _ => by simp only [List.length_replicate]; exact Wk.refl _)) (hK _ h).out)
     have hi : i < n := hi
     have e1 : LV.row ⟨e, τ, List.replicate n τ.z⟩ i = τ.z := by simp [LV.row, List.getD_eq_getElem?_getD, hi]
     rw [e1]
     exact z2 j hj
    ·cases h
   ·cases h
 ·cases h
def lastP : List Nat -> Option (List Nat × Nat × Nat)
 | [c, r] => some ([], c, r)
 | c :: r :: p => match lastP p with
  | some (q, c', r') => some (c :: r :: q, c', r')
  | none => none
 | _ => none
theorem lastP_ok : ∀ (l p : List Nat) (c r : Nat), lastP l = some (p, c, r) -> l = p ++ [c, r]
 | [], _, _, _, h => by cases h
 | [_], _, _, _, h => by cases h
 | [c, r], p, c', r', h => by injection h with h; injection h with h1 h2; injection h2 with h2 h3; subst h1; subst h2; subst h3; rfl
 | c :: r :: a :: b, p, c', r', h => by
  have h : (match lastP (a :: b) with
   | some (q, c', r') => some (c :: r :: q, c', r')
   | none => none) = some (p, c', r') := h
  split at h
  ·rename_i q c2 r2 hq
   injection h with h; injection h with h1 h2; injection h2 with h2 h3; subst h1; subst h2; subst h3
   have := lastP_ok (a :: b) q c2 r2 hq
   rw [this]; rfl
  ·cases h
def takeO (s : ESt) (x : Operand) (K : ESt -> Option ρ) : Option ρ := match x with
 | .tmp tx => match s.env tx with
  | .sfull id (c0 :: p0) => match lastP (c0 :: p0) with
   | some (p, c, r) => match s.heap.obj id with
    | .lst root => root.walkK p fun v back => grd (Nat.blt r v.l.length) (bif Nat.blt c v.τ.sz then (match ownTC v.τ c with
     | some (t, e) => callB (ownGC v.τ (v.l.getD r v.τ.z) c e) fun l => (match goneSC v.τ (v.l.getD r v.τ.z) c with
      | some y => (match back ⟨v.e, v.τ, v.l.set r y⟩ with
       | some root' => litO s.heap.next fun k => shO root'.l fun l' => K (s.take id k (p.length + 2) ⟨root'.e, root'.τ, l'⟩ ⟨t, e, l⟩ tx)
       | none => none)
      | none => none)
     | none => none) else none)
    | _ => none
   | none => none
  | _ => K s
 | _ => K s
theorem takeO_out {s : ESt} {x : Operand} {K : ESt -> Option ρ} {res : ρ} (h : takeO s x K = some res) : ∃ s', (Fair s -> WeakT s s') /\ K s' = some res := by
 unfold takeO at h
 split at h
 ·rename_i tx
  split at h
  ·rename_i id c0 p0 hx
   split at h
   ·rename_i p c r hl
    have hl := lastP_ok _ _ _ _ hl
    split at h
    ·rename_i root ho
     obtain ⟨v, back, hv, hback, g⟩ := LV.walkK_out _ _ _ _ h
     clear h
     obtain ⟨hr, h⟩ := grd_out g
     clear g
     have hr : r < v.l.length := Nat.le_of_ble_eq_true hr
     obtain ⟨hc, h⟩ := bif_none h
     have hc : c < v.τ.sz := Nat.le_of_ble_eq_true hc
     split at h
     ·rename_i t e hte
      have hh := callB_out h
      clear h
      obtain ⟨l, hl2, h⟩ := hh
      split at h
      ·rename_i y hy
       split at h
       ·rename_i root' hp
        have hp := hback _ _ hp
        rw [litO_eq, shO_eq] at h
        obtain ⟨y1, y2⟩ := goneSC_ok _ _ _ _ hy
        refine ⟨_, fun hf => ?_, h⟩
        have hlive : id < s.heap.next := Classical.byContradiction fun hn => by
         have := hf.next ⟨id, []⟩ (Nat.le_of_not_lt hn)
         have e : (toH s.heap).slot ⟨id, []⟩ = (OD.lst root).slot s.heap.len id [] := by show (s.heap.obj id).slot _ _ _ = _; rw [ho]
         rw [e] at this
         simp only [OD.slot, LV.at_nil] at this
         cases this
        exact WeakT.take (w := ⟨t, e, l⟩) hlive ho hv hr hc (ownGC_ok _ _ _ _ _ _ hte hl2) y1 y2 hp (by rw [hx, hl])
       ·cases h
      ·cases h
     ·cases h
    ·cases h
   ·cases h
  ·exact ⟨s, fun _ => WeakT.refl s, h⟩
 ·exact ⟨s, fun _ => WeakT.refl s, h⟩
end
end
end Go.Abs
namespace Go.Abs
open Go
noncomputable section
variable {P : Program} {d : Option Tmp} {ty : TypeId} {L : List GOp} {ρ : Type}
def AObj.clr (o : AObj) (r k : Nat) (u : V) : AObj := { o with get := fun i j => bif Nat.ble r i && Nat.blt i (r + k) then u else o.get i j }
theorem clr_bif {r k i : Nat} {x y : V} : (bif Nat.ble r i && Nat.blt i (r + k) then x else y) = if r <= i /\ i < r + k then x else y := by
 by_cases h1 : r <= i
 ·rw [Nat.ble_eq_true_of_le h1, Bool.true_and]
  by_cases h2 : i < r + k
  ·rw [show Nat.blt i (r + k) = true from Nat.ble_eq_true_of_le h2, if_pos ⟨h1, h2⟩]; rfl
  ·have : Nat.blt i (r + k) = false := by
    cases hb : Nat.blt i (r + k) with
    | false => rfl
    | true => exact absurd (Nat.le_of_ble_eq_true hb) h2
   rw [this, if_neg (fun h => h2 h.2)]; rfl
 ·have : Nat.ble r i = false := by
   cases hb : Nat.ble r i with
   | false => rfl
   | true => exact absurd (Nat.le_of_ble_eq_true hb) h1
  rw [this, if_neg (fun h => h1 h.1)]; rfl
theorem RelH.clear {E : Env} {ι : Id -> Option Nat} {F : Nat -> Prop} {H : Heap} {w : World} (r : RelH E ι F H w) {id : Id} {b rr k : Nat} {o : AObj} (ho : H.slot id = .live o) (hb : ι id = some b)
  (hz1 : o.sz = 1) (hr : rr + k <= o.n) (z : Value) (u : V) (h1 : z.oneCell' = true) (hu : VRel H ι F w u z) :
  ∃ ι', RelH E ι' F (H.set id (o.clr rr k u)) (w.setCells b rr (List.replicate k z)) /\ Ext H ι F w (H.set id (o.clr rr k u)) ι' F (w.setCells b rr (List.replicate k z)) := by
 obtain ⟨cur, hh, hcs, hcell⟩ := obj_cells r ho hb
 obtain ⟨k1, k2, k3, k4⟩ := setCells_rest (b := b) (List.replicate k z) rr w
 have hfit : rr + (List.replicate k z).length <= cur.size := by rw [List.length_replicate]; rw [hz1, Nat.mul_one] at hcs; omega
 refine ⟨upd ι id b, r.step id b (o.clr rr k u) (setArr cur rr (List.replicate k z)) _ _ (fun i => by simp only [Heap.set]; exact beq_if _ _ _ _) (fun i hi => ⟨fun e => ?_, hi⟩) rfl k1 k2 k3 (by omega) (fun k hk _ => setCells_other hk _ _ _)
  (setCells_heap _ _ w cur hh) (.inr ⟨hb, by rw [ho]; trivial⟩) (r.obj id o ho).1 (by rw [setArr_size]; exact hcs) (fun i hi j hj => ?_) ?_⟩
 ·subst e
  have := r.next i hi
  rw [ho] at this; cases this
 ·have hi : i < o.n := hi
  have hj : j < o.sz := hj
  have hj0 : j = 0 := by omega
  subst hj0
  show ∃ c, (setArr cur rr (List.replicate k z))[i * o.sz + 0]? = some c /\ c.oneCell' = true /\ VRel H ι F w (bif Nat.ble rr i && Nat.blt i (rr + k) then u else o.get i 0) c
  rw [clr_bif, setArr_get _ _ _ hfit, hz1, Nat.mul_one, Nat.add_zero, List.length_replicate]
  by_cases h : rr <= i /\ i < rr + k
  ·rw [if_pos h, if_pos h]
   exact ⟨z, by simp [List.getElem?_replicate]; omega, h1, hu⟩
  ·rw [if_neg h, if_neg h]
   obtain ⟨u, q1, q2, q3, q4⟩ := hcell i hi 0 hj
   rw [hz1, Nat.mul_one, Nat.add_zero] at q2
   exact ⟨u, q2, q3, q4⟩
 ·rw [ho]
  exact ⟨Nat.le_refl _, fun _ => ⟨rfl, rfl, Nat.le_refl _, hb, fun cur0 hc0 => by
   rw [hh] at hc0
   injection hc0 with hc0
   injection hc0 with hc0
   subst hc0
   exact setArr_size _ _ _⟩⟩
theorem zeroCells_one (z : Value) (n : Nat) : (Builtin.zeroCells #[z] n).toList = List.replicate n z := by
 apply List.ext_getElem?
 intro i
 unfold Builtin.zeroCells
 simp only [Array.toList_map, Array.toList_range, List.getElem?_map, List.getElem?_replicate, List.size_toArray, List.length_cons, List.length_nil, Nat.mul_one]
 by_cases h : i < n
 ·rw [List.getElem?_range (by omega), if_pos h]
  simp [Nat.mod_one]
 ·rw [List.getElem?_eq_none (by simp; omega), if_neg h]; rfl
variable {st : St} {Q : Exit -> St -> Prop}
theorem SL.clear {t e : TypeId} {by_ : Nat} [ht : TySlice P t e 1 by_] {zv z : Value} [hz : TyZero P e zv] (hzv : zv.cells = #[z]) {x : Operand} {id : Id} {r n : Nat} {o : AObj} (hx : st.eval x = .sref id o.ver r n) (ho : st.heap.slot id = .live o) (hsz : o.sz = 1)
  (hk : SL P L Q ((st.on (st.heap.set id (o.clr r n (V.cell z)))).put d .un)) : SL P (⟨d, .call { callee := .builtin .clear, args := #[x], argTypes := #[t] }, ty, none⟩ :: L) Q st :=
 SL.value rfl fun E ι F a w rel => by
  have hr := rel.eval x
  rw [hx] at hr
  obtain ⟨_, hr⟩ := hr
  rw [ho] at hr
  obtain ⟨_, hr⟩ := hr
  obtain ⟨hn, A, cap, e1, e2, e3⟩ := hr rfl
  have ut := run_underlying' (P := P) ht.d
  cases n with
  | zero =>
   have hex : (execOp a.eval (GOp.oper ⟨d, .call { callee := .builtin .clear, args := #[x], argTypes := #[t] }, ty, none⟩)).run P w = .ok (.value (.tuple #[])) w := by
    cases A with
    | none => simp [execOp, GOp.oper, resolve, invoke, builtin, Builtin.clear_, ut, e1]
    | some ad => simp [execOp, GOp.oper, resolve, invoke, builtin, Builtin.clear_, ut, e1]
   have hsame : o.clr r 0 (V.cell z) = o := by
    unfold AObj.clr
    have : (fun i j => bif Nat.ble r i && Nat.blt i (r + 0) then V.cell z else o.get i j) = o.get := by
     funext i j
     rw [clr_bif, if_neg (by omega)]
    rw [this]
   have hH : st.heap.set id o = st.heap := by
    cases hst : st.heap with
    | mk nx sl lo =>
     rw [hst] at ho
     unfold Heap.set
     congr 1
     funext i
     show (bif Id.beq i id then _ else _) = _
     rw [beq_if]
     split
     ·rename_i h; rw [h]; exact ho.symm
     ·rfl
   refine ⟨_, w, ι, F, st.heap, .un, hex, rel.h, Ext.refl _ _ _ _, trivial, ?_⟩
   rw [hsame, hH] at hk
   exact hk
  | succ m =>
   obtain ⟨b, cur, q1, q2, q3, q4⟩ := e3 (by omega)
   subst q2
   have hone : z.oneCell' = true := by
    have := hz.c
    rw [hzv] at this
    simpa using this
   have hb : w.heap[b]? = some (.cells cur o.elem (0, 0)) := q3
   have hfit : r + (m + 1) <= cur.size := by rw [hsz, Nat.mul_one, Nat.mul_one] at q4; omega
   have hst := run_storeCells_cells (P := P) b r (List.replicate (m + 1) z) 0 w (fun j hj => by simp at hj; simp [World.cell?, hb]; omega) (fun j hj => by simp [World.frozen?, hb]) (fun v hv => by rw [(List.mem_replicate.1 hv).2]; exact hone)
   rw [Nat.add_zero] at hst
   obtain ⟨ι', g1, g2⟩ := rel.h.clear ho q1 hsz (rr := r) (k := m + 1) hn z (V.cell z) hone (V.cell_rel _ _ _ _ z)
   have hex : (execOp a.eval (GOp.oper ⟨d, .call { callee := .builtin .clear, args := #[x], argTypes := #[t] }, ty, none⟩)).run P w = .ok (.value (.tuple #[])) (w.setCells b r (List.replicate (m + 1) z)) := by
    rw [hsz, Nat.mul_one] at e1
    simp [execOp, GOp.oper, resolve, invoke, builtin, Builtin.clear_, ut, e1, zero_run (P := P) (t := e) (v := zv), hzv, zeroCells_one, hst]
   exact ⟨_, _, ι', F, _, .un, hex, g1, g2, trivial, hk⟩
section
variable [SU] [Codes] {Q : Exit -> ESt -> Prop}
def clrL {α : Type} (l : List α) (r n : Nat) (z : α) : List α := l.take r ++ (List.replicate n z ++ l.drop (r + n))
theorem clrL_len {α : Type} {l : List α} {r n : Nat} {z : α} (h : r + n <= l.length) : (clrL l r n z).length = l.length := by
 simp [clrL]; omega
theorem clrL_at {α : Type} {l : List α} {r n : Nat} {z : α} (h : r + n <= l.length) (i : Nat) : (clrL l r n z).getD i z = if r <= i /\ i < r + n then z else l.getD i z := by
 simp only [clrL, List.getD_eq_getElem?_getD]
 by_cases h1 : i < r
 ·rw [List.getElem?_append_left (by simp; omega), if_neg (by omega), List.getElem?_take, if_pos h1]
 ·rw [List.getElem?_append_right (by simp; omega)]
  have e : (l.take r).length = r := by simp; omega
  rw [e]
  by_cases h2 : i < r + n
  ·rw [List.getElem?_append_left (by simp; omega), if_pos (by omega), List.getElem?_replicate, if_pos (by omega)]; rfl
  ·rw [List.getElem?_append_right (by simp; omega), if_neg (by omega), List.length_replicate, List.getElem?_drop]
   congr 2; omega
theorem weak_flat {s : ESt} {id : Nat} {e : TypeId} {τ : Ty} {l l' : List τ.D} {o1 : AObj} (hf : Fair s) (ho : s.heap.obj id = .lst ⟨e, τ, l⟩) (hfl : froT τ = true) (hl : l'.length = l.length)
  (h1 : o1.ver = 0) (h2 : o1.elem = e) (h3 : o1.sz = τ.sz) (h4 : o1.n = l.length) (h5 : ∀ r, r < l.length -> ∀ c, c < τ.sz -> Wk (o1.get r c) (.t (encC τ (l'.getD r τ.z) c))) (d : Option Tmp) :
  Weak (((toSt s).on ((toSt s).heap.set ⟨id, []⟩ o1)).put d .un) (toSt ((s.on (s.heap.set id (.lst ⟨e, τ, l'⟩))).put d .un)) := by
 have hlen : ∀ j p, (s.heap.set id (.lst ⟨e, τ, l'⟩)).len j p = s.heap.len j p := fun j p => by
  by_cases hj : j = id
  ·subst hj
   unfold EHeap.len
   simp only [EHeap.set, Nat.beq_refl, cond_true, ho]
   cases p with
   | nil => simp only [OD.len, LV.at_nil, hl]
   | cons x y => simp only [OD.len, LV.at_flat (v := ⟨e, τ, l'⟩) hfl (x :: y) (by simp), LV.at_flat (v := ⟨e, τ, l⟩) hfl (x :: y) (by simp)]
  ·exact EHeap.len_obj (EHeap.set_ne hj) p
 have hs1 : ∀ i : Id, ((toSt s).heap.set ⟨id, []⟩ o1).slot i = if i = ⟨id, []⟩ then .live o1 else (toH s.heap).slot i := fun i => by
  show (bif Id.beq i ⟨id, []⟩ then _ else _) = _
  exact beq_if _ _ _ _
 have hsn : ∀ p, (toH (s.heap.set id (.lst ⟨e, τ, l'⟩))).slot ⟨id, p⟩ = (OD.lst ⟨e, τ, l'⟩).slot (s.heap.set id (.lst ⟨e, τ, l'⟩)).len id p := fun p => by
  show ((s.heap.set id (.lst ⟨e, τ, l'⟩)).obj id).slot _ _ _ = _
  simp only [EHeap.set, Nat.beq_refl, cond_true]
 have hso : ∀ p, p ≠ [] -> (toH s.heap).slot ⟨id, p⟩ = .unborn := fun p hp => by
  show (s.heap.obj id).slot _ _ _ = _
  rw [ho]
  exact OD.flat_slot (o := .lst ⟨e, τ, l⟩) hfl p hp
 have hsn' : ∀ p, p ≠ [] -> (toH (s.heap.set id (.lst ⟨e, τ, l'⟩))).slot ⟨id, p⟩ = .unborn := fun p hp => by
  rw [hsn]
  exact OD.flat_slot (o := .lst ⟨e, τ, l'⟩) hfl p hp
 refine weak_root hf id (fun k' hk => EHeap.set_ne hk) (fun j q _ => hlen j q) (fun i hi => by rw [hs1, if_neg (fun e => hi (by rw [e]))]) rfl (fun hn i hi => ?_) (fun p hne => ?_) (fun p o' hl' => ?_) (fun p sb g' hl' => ?_) d (fun _ => by simp only [toV]; exact Wk.refl _)
 ·by_cases hi2 : i.k = id
  ·obtain ⟨j, p⟩ := i
   simp only at hi2
   subst hi2
   have := hn ⟨j, p⟩ hi
   rw [hs1] at this
   split at this
   ·cases this
   ·rename_i hne
    exact hsn' p (fun e => hne (by rw [e]))
  ·have := hf.next i hi
   have h' : (s.heap.obj i.k).slot s.heap.len i.k i.p = .unborn := this
   show ((s.heap.set id (.lst ⟨e, τ, l'⟩)).obj i.k).slot _ _ _ = .unborn
   rw [EHeap.set_ne hi2]
   exact (slot_dead (len := s.heap.len)).2.2 h'
 ·rw [hs1] at hne ⊢
  by_cases hp : p = []
  ·subst hp
   rw [if_pos rfl, hsn, slot_flatLst]
   exact ⟨h1.symm, h2.symm, h3.symm, by rw [h4]; exact hl⟩
  ·rw [if_neg (fun e => hp (by injection e))] at hne
   exact absurd (hso p hp) hne
 ·by_cases hp : p = []
  ·subst hp
   rw [hsn, slot_flatLst] at hl'
   injection hl' with hl'
   subst hl'
   rw [hs1]
   refine ⟨o1, if_pos rfl, fun r hr c hc => ?_⟩
   obtain ⟨u, e1, e2⟩ := cellC_enc τ (l'.getD r τ.z) c hfl
   show Wk (o1.get r c) (cellV _ id [] r c (cellC τ (l'.getD r τ.z) c))
   rw [e1]
   simp only [cellV]
   rw [e2 (by omega)]
   exact h5 r (by omega) c (by omega)
  ·rw [hsn' p hp] at hl'; cases hl'
 ·by_cases hp : p = []
  ·subst hp; rw [hsn, slot_flatLst] at hl'; cases hl'
  ·rw [hsn' p hp] at hl'; cases hl'
def clearO (P : Program) [Tys P] [TyE P] (s : ESt) (d : Option Tmp) (t : Nat) (x : Operand) (K : ESt -> Option ρ) : Option ρ := match (Tys.c P t).sl with
 | some (e, sz, by_) => match TyE.c P e, (Tys.c P e).zero with
  | some τ, some z => bif Nat.beq sz 1 && Nat.beq τ.sz 1 && Nat.beq z.cells.size 1 then (match s.eval x with
   | .sref id [] r n => match s.heap.obj id with
    | .lst v => bif froT v.τ && Nat.beq v.τ.sz 1 then (match castF (fun X => X) τ v.τ τ.z with
     | some z0 => grd (Nat.ble (r + n) v.l.length) (K ((s.on (s.heap.set id (.lst ⟨v.e, v.τ, clrL v.l r n v.τ.z⟩))).put d .un))
     | none => none) else none
    | _ => none
   | _ => none) else none
  | _, _ => none
 | none => none
theorem clearO_ok [T : Tys P] [TE : TyE P] {s : ESt} {t : Nat} {x : Operand} {K : ESt -> Option ρ} {res : ρ} (hK : ∀ s', K s' = some res -> SLT P L Q s') (h : clearO P s d t x K = some res) :
  SLT P (⟨d, .call { callee := .builtin .clear, args := #[x], argTypes := #[t] }, ty, none⟩ :: L) Q s := by
 refine ⟨SL.fair fun hf => ?_⟩
 unfold clearO at h
 split at h
 ·rename_i e sz by_ hsl
  have ht := (T.ok t).sl _ _ _ hsl
  split at h
  ·rename_i τ z hτ hz
   have hzz := (T.ok e).zero _ hz
   have hh := bif_none h
   clear h
   obtain ⟨hb, h⟩ := hh
   simp only [Bool.and_eq_true] at hb
   obtain ⟨⟨b1, b2⟩, b3⟩ := hb
   obtain rfl := natBeq b1
   have b2 := natBeq b2
   have b3 := natBeq b3
   split at h
   ·rename_i id r n hx
    split at h
    ·rename_i v ho
     obtain ⟨ve, vτ, vl⟩ := v
     have hh := bif_none h
     clear h
     obtain ⟨hb, h⟩ := hh
     simp only [Bool.and_eq_true] at hb
     obtain ⟨hfro, hsz⟩ := hb
     have hsz := natBeq hsz
     split at h
     ·rename_i z0 hc
      obtain ⟨e1, _⟩ := castI_ok hc
      simp only at e1
      subst e1
      obtain ⟨hn, h⟩ := grd_out h
      have hn : r + n <= vl.length := Nat.le_of_ble_eq_true hn
      have hat : s.heap.at id [] = some ⟨ve, τ, vl⟩ := by simp only [EHeap.at, ho, LV.at_nil]
      have hs := slot_lst hat
      have hx := eval_eq hx rfl
      simp only [toV] at hx
      obtain ⟨z1, z2⟩ := TE.zero e τ z hτ hz
      obtain ⟨u, e2, e3⟩ := z2 0 (by omega)
      have hzv : z.cells = #[z.cells.getD 0 undef] := by
       generalize z.cells = cs at b3
       obtain ⟨l⟩ := cs
       match l, b3 with
       | [a], _ => rfl
      refine SL.clear (P := P) (t := t) (by_ := by_) (zv := z) hzv (o := LV.obj s.heap.len id [] ⟨ve, τ, vl⟩) hx hs hsz (SL.weak (weak_flat hf ho hfro (clrL_len hn) rfl rfl rfl rfl (fun i hi c hc => ?_) d) (hK _ h).out)
      have hc0 : c = 0 := by omega
      subst hc0
      show Wk (bif Nat.ble r i && Nat.blt i (r + n) then _ else cellV s.heap.len id [] i 0 (cellC τ (LV.row ⟨ve, τ, vl⟩ i) 0)) _
      rw [clr_bif, clrL_at hn]
      by_cases hi2 : r <= i /\ i < r + n
      ·rw [if_pos hi2, if_pos hi2]
       obtain ⟨u', f1, f2⟩ := cellC_enc τ τ.z 0 hfro
       rw [e2] at f1
       injection f1 with f1
       subst f1
       have := e3 s.heap.len
       rwa [f2 hc] at this
      ·rw [if_neg hi2, if_neg hi2]
       obtain ⟨u', f1, f2⟩ := cellC_enc τ (vl.getD i τ.z) 0 hfro
       have e4 : cellC τ (LV.row ⟨ve, τ, vl⟩ i) 0 = .ev u' := f1
       rw [e4]
       exact Wk.of_eq (f2 hc _)
     ·cases h
    ·cases h
   ·cases h
  ·cases h
 ·cases h
end
end
end Go.Abs
