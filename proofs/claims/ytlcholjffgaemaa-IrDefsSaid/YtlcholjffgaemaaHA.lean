/-
The evaluator: whole functions, and contracts made of what they compute.
No statement of the program is proved here.
-/
import Derived.Test.YtlcholjffgaemaaH9
set_option linter.unusedVariables false
set_option linter.unusedSimpArgs false
set_option linter.unusedSectionVars false
namespace Go.Abs
open Go
noncomputable section

variable {P : Program} {ρ : Type}

section
variable [SU] [Codes]
/-- What a result variable holds at the end. -/
def valR (P : Program) [Tys P] (s : ESt) : ResultVar → (EV → Option ρ) → Option ρ
  | .tmp t, K => fE (s.env t) K
  | .cell ad t, K => runLoad (P := P) s.heap t (s.env ad) K
def valsR (P : Program) [Tys P] (s : ESt) : List ResultVar → (List EV → Option ρ) → Option ρ
  | [], K => K []
  | r :: l, K => valR P s r fun u => valsR P s l fun us => K (u :: us)
theorem valR_ok [Tys P] {s : ESt} {rv : ResultVar} {K : EV → Option ρ} {res : ρ} (h : valR P s rv K = some res) : ∃ u, RV P (toSt s) rv (toV s.heap.len u) ∧ K u = some res := by
  cases rv with
  | tmp t =>
    simp only [valR, fE_eq] at h
    exact ⟨_, RV.tmp t, h⟩
  | cell ad t =>
    obtain ⟨u, h1, h2⟩ := runLoad_ok (a := .tmp ad) h
    refine ⟨u, fun E ι F a w r => ?_, h2⟩
    obtain ⟨v, h3, h4⟩ := h1 none t E ι F a w r
    refine ⟨v, ?_, h4⟩
    have e : a.eval (.tmp ad) = a.tmps.getD ad undef := rfl
    simp only [execOp, GOp.oper, e, Instr.loadAt] at h3
    simp only [rvSem]
    generalize a.tmps.getD ad undef = x at h3 ⊢
    have bad : ∀ m : String, ((Instr.sureAddr x >>= loadVar t) >>= fun y => (Pure.pure (Next.value y) : Sem Next)).run P w = .ok (.value v) w → (Instr.sureAddr x = stuck m) → False := fun m h e => by
      rw [e] at h
      simp [Sem.run_bind, stuck] at h
    cases x with
    | pointer o =>
      cases o with
      | none => exact (bad _ h3 rfl).elim
      | some ad' =>
        simp only [Instr.sureAddr, asAddr, Sem.run_bind, Sem.run_pure, Result.andThen_ok] at h3 ⊢
        cases hl : (loadVar t ad').run P w with
        | ok c w' =>
          rw [hl] at h3
          simp only [Result.andThen_ok] at h3
          injection h3 with h5 h6
          injection h5 with h5
          subst h5; subst h6
          rfl
        | halt x w' => rw [hl] at h3; cases h3
    | _ => exact (bad _ h3 rfl).elim
theorem valsR_ok [Tys P] {s : ESt} : ∀ {l : List ResultVar} {K : List EV → Option ρ} {res : ρ}, valsR P s l K = some res → ∃ us, K us = some res ∧ ∀ E ι F a w, Rel E ι F (toSt s) a w → ∃ cs : List Value, (l.mapM (rvSem a.tmps)).run P w = .ok cs w ∧ cs.length = us.length ∧ ∀ j, j < us.length → ∃ c, cs[j]? = some c ∧ VRel (toH s.heap) ι F w (toV s.heap.len (nthE us j)) c
  | [], K, res, h => ⟨[], h, fun E ι F a w r => ⟨[], rfl, rfl, fun j hj => absurd hj (Nat.not_lt_zero _)⟩⟩
  | rv :: l, K, res, h => by
    obtain ⟨u, h1, h⟩ := valR_ok h
    obtain ⟨us, h, h2⟩ := valsR_ok (l := l) h
    refine ⟨u :: us, h, fun E ι F a w r => ?_⟩
    obtain ⟨c, c1, c2⟩ := h1 E ι F a w r
    obtain ⟨cs, c3, c4, c5⟩ := h2 E ι F a w r
    refine ⟨c :: cs, by simp [List.mapM_cons, c1, c3], by simp [c4], fun j hj => ?_⟩
    cases j with
    | zero => exact ⟨c, rfl, c2⟩
    | succ j => obtain ⟨c', d1, d2⟩ := c5 j (by simpa using hj); exact ⟨c', by simpa using d1, d2⟩
def oneR : List EV → EV
  | [u] => u
  | l => .tup l
/-- The lists that become data on the way out. -/
def wantF : Sh → EV → List Nat
  | .fz _, .sfull k [] => [k]
  | .st _, .agg m => rootsOf (.agg m)
  | .agg l, .agg m => wantFs l m
  | .tup l, .tup m => wantFs l m
  | _, _ => []
where wantFs : List Sh → List EV → List Nat
  | a :: l, u :: m => wantF a u ++ wantFs l m
  | _, _ => []
def endS (s : ESt) (u : EV) : ESt := ⟨1, nthE [u], s.heap⟩
def retO (P : Program) [Tys P] (rs : List ResultVar) (lo : Nat) (rv : Sh) (ro : List OSh) (s : ESt) : Option (rv.D × DO ro) :=
  valsR P s rs fun us => frzAll (endS s (oneR us)) (fun s' => meetO 1 lo s' ⟨[(0, rv)], ro⟩ (fun z => some (z.1.1, z.2))) (wantF rv (oneR us))
def retK (P : Program) [Tys P] (rs : List ResultVar) (lo : Nat) (rv : Sh) (ro : List OSh) : Exit → ESt → Option (rv.D × DO ro)
  | .ret, s => retO P rs lo rv ro s
  | .normal, s => retO P rs lo rv ro s
  | _, _ => none
/-- A function's end: what there is of it. -/
structure EndOk (P : Program) (fn : Func) (lo : Nat) (rv : Sh) (ro : List OSh) (res : rv.D × DO ro) (s : ESt) : Prop where
  out : ∀ E ι F a w, Rel E ι F (toSt s) a w → ∃ c ι' F', (results fn a.tmps).run P w = .ok c w ∧ RelH E ι' F' (toH (mkH lo ro res.2)) w ∧ VRel (toH (mkH lo ro res.2)) ι' F' w (toV (mkH lo ro res.2).len (mkE rv res.1)) c
theorem EndOk.weak {fn : Func} {lo : Nat} {rv : Sh} {ro : List OSh} {res : rv.D × DO ro} {s s' : ESt} (w : WeakT s s') (h : EndOk P fn lo rv ro res s') : EndOk P fn lo rv ro res s :=
  ⟨fun E ι F a w' r => by obtain ⟨ι', F', r'⟩ := w E ι F a w' r; exact h.out E ι' F' a w' r'⟩
theorem retO_ok [Tys P] {fn : Func} {lo : Nat} {rv : Sh} {ro : List OSh} {res : rv.D × DO ro} {s : ESt} (h : retO P fn.results.toList lo rv ro s = some res) : EndOk P fn lo rv ro res s := by
  obtain ⟨us, h, hu⟩ := valsR_ok h
  obtain ⟨s', w, h⟩ := frzAll_out _ _ h
  obtain ⟨z, w2, h⟩ := meetO_out h
  injection h with h
  subst h
  refine ⟨fun E ι F a w' r => ?_⟩
  obtain ⟨cs, c1, c2, c3⟩ := hu E ι F a w' r
  have hc : ∃ c, (results fn a.tmps).run P w' = .ok c w' ∧ VRel (toH s.heap) ι F w' (toV s.heap.len (oneR us)) c := by
    rw [results_eq]
    have e : (fn.results.mapM (rvSem a.tmps)).run P w' = .ok cs.toArray w' := by
      rw [Array.mapM_eq_mapM_toList, Sem.run_map, c1]; rfl
    rw [Sem.run_bind, e]
    simp only [Result.andThen_ok]
    have tupR : ∀ us : List EV, us.length ≠ 1 → cs.length = us.length → (∀ j, j < us.length → ∃ c, cs[j]? = some c ∧ VRel (toH s.heap) ι F w' (toV s.heap.len (nthE us j)) c) →
        ∃ c, (Pure.pure (if h : cs.toArray.size = 1 then cs.toArray[0] else .tuple cs.toArray) : Sem Value).run P w' = .ok c w' ∧ VRel (toH s.heap) ι F w' (toV s.heap.len (.tup us)) c := fun us h1 h2 h3 => by
      rw [dif_neg (by simpa [h2] using h1)]
      refine ⟨_, rfl, ?_⟩
      simp only [toV]
      exact ⟨cs.toArray, rfl, by simpa using h2, fun j hj => by obtain ⟨c, q1, q2⟩ := h3 j hj; exact ⟨c, by simpa using q1, by rw [← nthE_eq]; exact q2⟩⟩
    match us, c2, c3 with
    | [], c2, c3 => exact tupR [] (by simp) c2 c3
    | [u], c2, c3 =>
      obtain ⟨c, q1, q2⟩ := c3 0 (by simp)
      refine ⟨c, ?_, q2⟩
      have : cs = [c] := by
        match cs, c2, q1 with
        | [x], _, q1 => simpa using q1
      subst this
      rfl
    | u :: v :: l, c2, c3 => exact tupR _ (by simp) c2 c3
  obtain ⟨c, k1, k2⟩ := hc
  have r1 : Rel E ι F (toSt (endS s (oneR us))) { tmps := #[c], defers := [] } w' := ⟨r.h, fun t => by
    cases t with
    | zero => exact k2
    | succ t => exact trivial, rfl, rfl⟩
  obtain ⟨ι1, F1, r2⟩ := w _ _ _ _ _ r1
  obtain ⟨ι2, F2, r3⟩ := w2 _ _ _ _ _ r2
  exact ⟨c, ι2, F2, k1, r3.h, r3.env 0⟩

/-- A function, run. -/
noncomputable def runF (T : List (Ctr P)) [Tys P] [TyE P] (fn : Func) (a : Ann) (ar : List (Nat × Sh)) (os : List OSh) (rv : Sh) (ro : List OSh) (x : DT ar) (y : DO os) : Option (rv.D × DO ro) :=
  bif Nat.ble ar.length fn.ntmps then (match fn.body with
    | some c => runC T fn.ntmps os.length a c (retK P fn.results.toList os.length rv ro) ⟨fn.ntmps, nthE (mkArgs ar x), mkH os.length os y⟩
    | none => none) else none
theorem CT.of {T : List (Ctr P)} [Tys P] [TyE P] [Mixed P] {f : FuncId} {fn : Func} {a : Ann} {ar : List (Nat × Sh)} {os : List OSh} {rv : Sh} {ro : List OSh} {x : DT ar} {y : DO os} {r : rv.D × DO ro} (hf : P.funcs[f]? = some fn)
    (h : runF T fn a ar os rv ro x y = some r) : CT P f (mkArgs ar x) (mkH os.length os y) (fun v H' => v = mkE rv r.1 ∧ H' = mkH os.length ro r.2) := by
  unfold runF at h
  have hh := bif_none h
  clear h
  obtain ⟨hle, h⟩ := hh
  have hle := Nat.le_of_ble_eq_true hle
  split at h
  · rename_i c hb
    have hs := (runC_ok T fn.ntmps os.length c a _ _ r (fun e s => (e = .ret ∨ e = .normal) ∧ EndOk P fn os.length rv ro r s) (fun e s s' w q => ⟨q.1, q.2.weak w⟩) (fun e s' q => by
      cases e <;> first | exact ⟨.inl rfl, retO_ok q⟩ | exact ⟨.inr rfl, retO_ok q⟩ | cases q) h).out
    refine ⟨fun E ι F w cargs r0 hl ha => calls_of_wp hf hb ?_⟩
    have r1 : Rel E ι F (toSt ⟨fn.ntmps, nthE (mkArgs ar x), mkH os.length os y⟩) { tmps := cargs ++ Array.replicate (fn.ntmps - cargs.size) undef, defers := [] } w := by
      have hl' : (mkArgs ar x).length = ar.length := mkArgs_len _ _
      refine ⟨r0, fun t => ?_, ?_, rfl⟩
      · show VRel _ ι F w (toV _ (nthE (mkArgs ar x) t)) ((cargs ++ Array.replicate (fn.ntmps - cargs.size) undef).getD t undef)
        by_cases ht : t < (mkArgs ar x).length
        · have e : (cargs ++ Array.replicate (fn.ntmps - cargs.size) undef).getD t undef = cargs.getD t undef := by
            rw [Array.getD_eq_getD_getElem?, Array.getElem?_append_left (by omega), Array.getD_eq_getD_getElem?]
          rw [e]; exact ha t ht
        · have : ∀ (l : List EV) (t : Nat), l.length ≤ t → nthE l t = .un := by
            intro l
            induction l with
            | nil => intro t _; rfl
            | cons a l ih => intro t ht; cases t with
              | zero => simp at ht
              | succ t => exact ih t (by simpa using ht)
          rw [this _ _ (Nat.le_of_not_lt ht)]
          simp only [toV]; exact trivial
      · show (cargs ++ Array.replicate (fn.ntmps - cargs.size) undef).size = fn.ntmps
        simp; omega
    have fin : ∀ e a w', (e = .ret ∨ e = .normal) → conc E (liftQ (fun e s => (e = .ret ∨ e = .normal) ∧ EndOk P fn os.length rv ro r s)) e a w' → ∃ st : St, a.defers = [] ∧ ∃ c, (results fn a.tmps).run P w' = .ok c w' ∧ ∃ ι' F', RelH E ι' F' (toH (mkH os.length ro r.2)) w' ∧ VRel (toH (mkH os.length ro r.2)) ι' F' w' (toV (mkH os.length ro r.2).len (mkE rv r.1)) c := fun e a w' he hc => by
      have : ∃ ι F st, Rel E ι F st a w' ∧ liftQ (fun e s => (e = .ret ∨ e = .normal) ∧ EndOk P fn os.length rv ro r s) e st := by
        rcases he with rfl | rfl <;> exact hc
      obtain ⟨ι, F, st, rr, s, rfl, _, ho⟩ := this
      obtain ⟨c, ι', F', k1, k2, k3⟩ := ho.out E ι F a w' rr
      exact ⟨toSt s, rr.defers, c, k1, ι', F', k2, k3⟩
    refine wp_mono (hs.out E ι F _ w r1) fun e a w' hc => ?_
    cases e with
    | ret =>
      obtain ⟨_, d, c, k1, ι', F', k2, k3⟩ := fin _ _ _ (.inl rfl) hc
      exact ⟨d, c, k1, mkE rv r.1, ι', F', mkH os.length ro r.2, c, rfl, k2, k3, rfl, rfl⟩
    | normal =>
      obtain ⟨_, d, c, k1, ι', F', k2, k3⟩ := fin _ _ _ (.inr rfl) hc
      exact ⟨d, c, k1, mkE rv r.1, ι', F', mkH os.length ro r.2, c, rfl, k2, k3, rfl, rfl⟩
    | exit id => obtain ⟨ι, F, st, r, s, rfl, h, _⟩ := hc; rcases h with h | h <;> cases h
    | goto l => obtain ⟨ι, F, st, r, s, rfl, h, _⟩ := hc; rcases h with h | h <;> cases h
    | panic c => exact hc.elim
    | outgrown => exact hc.elim
  · cases h
end
end
end Go.Abs
