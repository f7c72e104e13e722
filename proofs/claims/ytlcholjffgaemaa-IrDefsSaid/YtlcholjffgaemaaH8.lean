/-
The evaluator: regions that draw their order.
No statement of the program is proved here.
-/
import Derived.Test.YtlcholjffgaemaaH7
set_option linter.unusedVariables false
set_option linter.unusedSimpArgs false
set_option linter.unusedSectionVars false
namespace Go.Abs
open Go
noncomputable section

variable {P : Program} {d : Option Tmp} {ty : TypeId} {L : List GOp} {ρ : Type}

theorem oper_conc {E : Env} {Q Q' : Exit → St → Prop} {o : Oper} {a : Act} {w : World} {K K' : Act → World → Prop} (h : ∀ a w, K a w → K' a w) (hk : o.wp P a w K (conc E Q)) : o.wp P a w K' (conc E Q') := by
  unfold Oper.wp at hk ⊢
  generalize (execOp a.eval o).run P w = res at hk ⊢
  cases res with
  | ok n w' =>
    cases n <;> simp only [Oper.upon] at hk ⊢ <;> first
      | exact h _ _ hk
      | exact Calls.mono hk (fun e w'' he => by cases e <;> first | exact h _ _ he | exact he.elim | (obtain ⟨a, w, he⟩ := he; exact he.elim))
      | exact Rows.mono hk (fun _ _ he => h _ _ he)
  | halt x w' => cases x <;> simp only [Oper.upon] at hk ⊢ <;> exact hk
theorem lwp_conc {E : Env} {Q Q' : Exit → St → Prop} (hq : ∀ e st, Q e st → Q' e st) : ∀ (L : List GOp) (a : Act) (w : World), lwp P L (conc E Q) a w → lwp P L (conc E Q') a w
  | [], a, w, h => by
    obtain ⟨ι, F, st, r, k⟩ := h
    exact ⟨ι, F, st, r, hq _ _ k⟩
  | g :: L, a, w, h => by
    simp only [lwp] at h ⊢
    split
    · rename_i hw
      rw [if_pos hw] at h
      exact oper_conc (lwp_conc hq L) h
    · rename_i hw
      rw [if_neg hw] at h
      exact lwp_conc hq L _ _ h

section
variable [SU] [Codes] {Q : Exit → ESt → Prop}
def ESt.only (s : ESt) (xs : List Tmp) : ESt := { s with env := fun t => bif memT xs t then s.env t else .un }
theorem toSt_only (s : ESt) (xs : List Tmp) : toSt (s.only xs) = (toSt s).only xs := by
  simp only [toSt, ESt.only, St.only]
  congr 1
  funext t
  cases memT xs t <;> simp [toV]
/-! ### Runs of quiet operations -/
def callQ (s so : ESt) (f : FuncId) (us : List EV) (d : Option Tmp) (K : ESt → Option ρ) : List (Ctr P) → Option ρ
  | [] => none
  | c :: T => bif Nat.beq c.f f && c.quiet then (match fitO c so us with
    | some z => callB (c.F z.x z.y) fun res => K (s.put d (mkE c.rv res.1))
    | none => callQ s so f us d K T) else callQ s so f us d K T
/-- The same, own lists lent. -/
def lendQ (s so : ESt) (f : FuncId) (us : List EV) (d : Option Tmp) (K : ESt → Option ρ) : List (Ctr P) → Option ρ
  | [] => none
  | c :: T => bif Nat.beq c.f f && (c.quiet && scalS c.rv) then (match fitO c (noS (borrows so.heap us)) (borrows so.heap us) with
    | some z => callB (c.F z.x z.y) fun res => K (s.put d (mkE c.rv res.1))
    | none => lendQ s so f us d K T) else lendQ s so f us d K T
def fitsQ (so : ESt) (f : FuncId) (us : List EV) : List (Ctr P) → Bool
  | [] => false
  | c :: T => (Nat.beq c.f f && (c.quiet && (fitO c so us).isSome)) || fitsQ so f us T
def runQS (wr : Bool) (T : List (Ctr P)) [Tys P] (s : ESt) (d : Option Tmp) (op : Op) (K : ESt → Option ρ) : Option ρ :=
  bif isPureOp op then runOw P wr (s.only (rds op)).eval s.heap op (fun u => K (s.put d u)) else
  match op with
  | .call c => match c.callee with
    | .value (.func f) => forceO (s.only (rds op)) c.args.toList fun us => match fitsQ (s.only (rds op)) f us T with
      | true => callQ s (s.only (rds op)) f us d K T
      | false => lendQ s (s.only (rds op)) f us d K T
    | _ => none
  | _ => none
variable {K0 : ESt → Prop}
theorem callQ_ok {s : ESt} {f : FuncId} {args : Array Operand} {ats : Array TypeId} {K : ESt → Option ρ} {res : ρ} (hK : ∀ s', K s' = some res → QST P K0 L s') : ∀ {T : List (Ctr P)},
    callQ s (s.only (rds (.call { callee := .value (.func f), args := args, argTypes := ats }))) f (args.toList.map (s.only (rds (.call { callee := .value (.func f), args := args, argTypes := ats }))).eval) d K T = some res →
    QST P K0 (⟨d, .call { callee := .value (.func f), args := args, argTypes := ats }, ty, none⟩ :: L) s
  | [], h => by cases h
  | c :: T, h => by
    unfold callQ at h
    cases hb : Nat.beq c.f f && c.quiet with
    | false => rw [hb] at h; exact callQ_ok hK (T := T) h
    | true =>
      rw [hb] at h
      simp only [Bool.and_eq_true] at hb
      obtain ⟨hb, hq⟩ := hb
      obtain rfl := Nat.eq_of_beq_eq_true hb
      simp only [cond_true] at h
      split at h
      · rename_i z hz
        have hh := callB_out h
        clear h
        obtain ⟨y, hF, h⟩ := hh
        have := c.fnok
        have q := quiet_call hq (args_fn (d := d) (ty := ty) (ats := ats)) hz hF
        rw [toSt_only] at q
        refine ⟨QS.q q ?_⟩
        have := (hK _ h).out
        rwa [toSt_put] at this
      · exact callQ_ok hK (T := T) h
theorem lendQ_ok {s : ESt} {f : FuncId} {args : Array Operand} {ats : Array TypeId} {K : ESt → Option ρ} {res : ρ} (hK : ∀ s', K s' = some res → QST P K0 L s') : ∀ {T : List (Ctr P)},
    lendQ s (s.only (rds (.call { callee := .value (.func f), args := args, argTypes := ats }))) f (args.toList.map (s.only (rds (.call { callee := .value (.func f), args := args, argTypes := ats }))).eval) d K T = some res →
    QST P K0 (⟨d, .call { callee := .value (.func f), args := args, argTypes := ats }, ty, none⟩ :: L) s
  | [], h => by cases h
  | c :: T, h => by
    unfold lendQ at h
    cases hb : Nat.beq c.f f && (c.quiet && scalS c.rv) with
    | false => rw [hb] at h; exact lendQ_ok hK (T := T) h
    | true =>
      rw [hb] at h
      simp only [Bool.and_eq_true] at hb
      obtain ⟨hb, hq, hs⟩ := hb
      obtain rfl := Nat.eq_of_beq_eq_true hb
      simp only [cond_true] at h
      split at h
      · rename_i z hz
        have hh := callB_out h
        clear h
        obtain ⟨y, hF, h⟩ := hh
        have q := lend_call (d := d) (ty := ty) (ats := ats) hq hs hz hF
        rw [toSt_only] at q
        refine ⟨QS.q q ?_⟩
        have := (hK _ h).out
        rwa [toSt_put] at this
      · exact lendQ_ok hK (T := T) h
theorem runQS_ok {wr : Bool} {T : List (Ctr P)} [Tys P] {s : ESt} {op : Op} {K : ESt → Option ρ} {res : ρ} (hK : ∀ s', K s' = some res → QST P K0 L s') (h : runQS wr T s d op K = some res) : QST P K0 (⟨d, op, ty, none⟩ :: L) s := by
  unfold runQS at h
  cases hp : isPureOp op with
  | true =>
    rw [hp] at h
    simp only [cond_true] at h
    obtain ⟨u, h1, h2⟩ := runOw_ok (s := s.only (rds op)) h
    refine ⟨QS.o (u := toV s.heap.len u) (by rw [← toSt_only]; exact h1 d ty) ?_⟩
    have := (hK _ h2).out
    rwa [toSt_put] at this
  | false =>
    rw [hp] at h
    simp only [cond_false] at h
    split at h
    · rename_i c
      obtain ⟨callee, args, ats⟩ := c
      split at h
      · rename_i f hc
        simp only at hc
        subst hc
        rw [forceO_eq] at h
        split at h
        · exact callQ_ok hK h
        · exact lendQ_ok hK h
      · cases h
    · cases h
def runQ (wr : Bool) (T : List (Ctr P)) [Tys P] (K : ESt → Option ρ) : List GOp → ESt → Option ρ
  | [], s => K s
  | ⟨d, op, ty, none⟩ :: L, s => runQS wr T s d op (runQ wr T K L)
  | ⟨d, op, ty, some (some t, w)⟩ :: L, s => match s.env t with
    | .und => runQ wr T K L (s.put d .und)
    | .b b => bif Nat.blt t s.nt then
        (bif w then (bif b then runQS wr T (s.put (some t) (.b true)) d op (runQ wr T K L) else runQ wr T K L ((s.put (some t) (.b false)).put d .und))
         else (bif b then runQ wr T K L ((s.put (some t) (.b true)).put d .und) else runQS wr T (s.put (some t) (.b false)) d op (runQ wr T K L))) else none
    | _ => none
  | ⟨_, _, _, some (none, _)⟩ :: _, _ => none
theorem runQ_ok {wr : Bool} {T : List (Ctr P)} [Tys P] {K : ESt → Option ρ} {res : ρ} (hK : ∀ s', K s' = some res → K0 s') : ∀ (L : List GOp) (s : ESt), runQ wr T K L s = some res → QST P K0 L s
  | [], s, h => ⟨QS.nil ⟨s, rfl, hK _ h⟩⟩
  | ⟨d, op, ty, none⟩ :: L, s, h => runQS_ok (runQ_ok hK L) h
  | ⟨d, op, ty, some (some t, w)⟩ :: L, s, h => by
    unfold runQ at h
    split at h
    · rename_i hu
      have hu := envT hu
      simp only [toV] at hu
      refine ⟨QS.gu hu ?_⟩
      have := (runQ_ok hK L _ h).out
      rwa [toSt_put] at this
    · rename_i b hb
      have hb := envT hb
      simp only [toV] at hb
      have hh := bif_none h
      clear h
      obtain ⟨hlt, h⟩ := hh
      have hlt' : Nat.blt t (toSt s).nt = true := hlt
      cases w with
      | true =>
        simp only [cond_true] at h
        obtain ⟨h1, h2⟩ := bifs h
        refine ⟨QS.splitG (w := true) rfl hb hlt' (fun e => ?_) (fun e => ?_)⟩
        · have := (runQS_ok (ty := ty) (runQ_ok hK L) (h1 e)).out
          rw [toSt_put] at this
          exact QS.gy (by rw [put_env_eq, hlt']; rfl) hlt' this
        · have := (runQ_ok hK L _ (h2 e)).out
          rw [toSt_put, toSt_put] at this
          exact QS.gn (by rw [put_env_eq, hlt']; rfl) hlt' this
      | false =>
        simp only [cond_false] at h
        obtain ⟨h1, h2⟩ := bifs h
        refine ⟨QS.splitG (w := false) rfl hb hlt' (fun e => ?_) (fun e => ?_)⟩
        · have := (runQ_ok hK L _ (h1 e)).out
          rw [toSt_put, toSt_put] at this
          exact QS.gn (by rw [put_env_eq, hlt']; rfl) hlt' this
        · have := (runQS_ok (ty := ty) (runQ_ok hK L) (h2 e)).out
          rw [toSt_put] at this
          exact QS.gy (by rw [put_env_eq, hlt']; rfl) hlt' this
    · cases h
  | ⟨_, _, _, some (none, _)⟩ :: _, _, h => by cases h

/-! ### Plans -/
def quietIn (f : FuncId) : List (Ctr P) → Bool
  | [] => false
  | c :: T => (Nat.beq c.f f && c.quiet) || quietIn f T
def quietOp (T : List (Ctr P)) (op : Op) : Bool := isPureOp op || (match op with
  | .call c => match c.callee with
    | .value (.func f) => quietIn f T
    | _ => false
  | _ => false)
/-- Runs of operations that turn nothing (true, so many), and single ones that may (false). -/
def planOf (T : List (Ctr P)) : List Oper → Nat → List (Nat × Bool)
  | [], 0 => []
  | [], n => [(n, true)]
  | o :: l, n => bif quietOp T o.op then planOf T l (n + 1) else (bif Nat.beq n 0 then (1, false) :: planOf T l 0 else (n, true) :: (1, false) :: planOf T l 0)
def planOk (A : Array Oper) : Nat → List (Nat × Bool) → Bool
  | k, [] => allIn A.size (List.range k)
  | k, (n, true) :: l => chk A (List.range k) ((List.range n).map (k + ·)) && planOk A (k + n) l
  | k, (_, false) :: l => chk1 A (List.range k) k && planOk A (k + 1) l
theorem QS.mono {K K' : St → Prop} (hk : ∀ st, K st → K' st) : ∀ {L : List GOp} {st : St}, QS P K L st → QS P K' L st := fun h => by
  induction h with
  | nil h => exact .nil (hk _ h)
  | cons u h k ih => exact .cons u h ih
def runPlan (wr : Bool) (T : List (Ctr P)) [Tys P] [TyE P] (A : Array Oper) (K : ESt → Option ρ) : List (Nat × Bool) → Nat → ESt → Option ρ
  | [], k, s => K s
  | (n, true) :: l, k, s => runQ wr T (runPlan wr T A K l (k + n)) (((List.range n).map (k + ·)).map (opAt A)) s
  | (_, false) :: l, k, s => runL wr T (runPlan wr T A K l (k + 1)) [opAt A k] s
theorem runPlan_ok {wr : Bool} {T : List (Ctr P)} [Tys P] [TyE P] {A : Array Oper} {K : ESt → Option ρ} {res : ρ} (hK : ∀ s', K s' = some res → Q .normal s') : ∀ (l : List (Nat × Bool)) (k : Nat) (s : ESt), planOk A k l = true → runPlan wr T A K l k s = some res →
    AnyL P A (List.range k) (liftQ Q) (toSt s)
  | [], k, s, hc, h => AnyL.done hc ⟨s, rfl, hK _ h⟩
  | (n, true) :: l, k, s, hc, h => by
    simp only [planOk, Bool.and_eq_true] at hc
    refine AnyL.quiet _ hc.1 (QS.mono ?_ (runQ_ok (K0 := fun s => runPlan wr T A K l (k + n) s = some res) (fun s' h => h) _ _ h).out)
    rintro st ⟨s', rfl, h'⟩
    have := runPlan_ok hK l (k + n) s' hc.2 h'
    rwa [List.range_add] at this
  | (_, false) :: l, k, s, hc, h => by
    simp only [planOk, Bool.and_eq_true] at hc
    have hs := (runL_ok (Q := fun e s => match e with | .normal => runPlan wr T A K l (k + 1) s = some res | _ => False) (fun s' h => h) _ _ h).out
    refine AnyL.step k hc.1 ⟨fun E ι F a w r => ?_⟩
    have := hs.out E ι F a w r
    refine lwp_conc ?_ _ _ _ this
    rintro e st ⟨s', rfl, h'⟩
    cases e <;> first | exact h'.elim | skip
    have := runPlan_ok hK l (k + 1) s' hc.2 h'
    rwa [List.range_succ] at this
def runReg (wr : Bool) (T : List (Ctr P)) [Tys P] [TyE P] (A : Array Oper) (draw : Bool) (K : ESt → Option ρ) (s : ESt) : Option ρ :=
  bif draw then (bif planOk A 0 (planOf T A.toList 0) then runPlan wr T A K (planOf T A.toList 0) 0 s else none) else runL wr T K (prep A) s
theorem runReg_ok {wr : Bool} {T : List (Ctr P)} [Tys P] [TyE P] [m : Mixed P] {A : Array Oper} {draw : Bool} {K : ESt → Option ρ} {res : ρ} {id : Nat} {s : ESt} (hK : ∀ s', K s' = some res → Q .normal s') (h : runReg wr T A draw K s = some res) : SCT P (.region id A draw) Q s := by
  unfold runReg at h
  cases draw with
  | true =>
    simp only [cond_true] at h
    have hh := bif_none h
    clear h
    obtain ⟨hc, h⟩ := hh
    exact ⟨SC.draw m.m (runPlan_ok hK _ 0 s hc h)⟩
  | false => exact ⟨SC.region (runL_ok hK _ _ h).out⟩
end
end
end Go.Abs
