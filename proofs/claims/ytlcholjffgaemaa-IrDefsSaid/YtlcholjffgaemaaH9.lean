/-
The evaluator: code, ways that meet, loops.
No statement of the program is proved here.
-/
import Derived.Test.YtlcholjffgaemaaH8
set_option linter.unusedVariables false
set_option linter.unusedSimpArgs false
set_option linter.unusedSectionVars false
namespace Go.Abs
open Go
noncomputable section

variable {P : Program}

/-! ### Loops as functions -/
section
variable {D X : Type}
/-- So many rounds at the most. -/
def iterO (f : D → Option (D ⊕ X)) : Nat → D → Option X
  | 0, _ => none
  | n + 1, y => match f y with
    | some (.inl z) => iterO f n z
    | some (.inr x) => some x
    | none => none
theorem iterO_up {f : D → Option (D ⊕ X)} : ∀ {n : Nat} {y : D} {x : X}, iterO f n y = some x → ∀ m, n ≤ m → iterO f m y = some x
  | 0, _, _, h, _, _ => by cases h
  | n + 1, y, x, h, 0, hm => by omega
  | n + 1, y, x, h, m + 1, hm => by
    simp only [iterO] at h ⊢
    split at h
    · exact iterO_up h m (by omega)
    · exact h
    · cases h
open Classical in
/-- Rounds without end in sight. -/
noncomputable def whileO (f : D → Option (D ⊕ X)) (y : D) : Option X := if h : ∃ n x, iterO f n y = some x then some (Classical.choose (Classical.choose_spec h)) else none
theorem whileO_iff {f : D → Option (D ⊕ X)} {y : D} {x : X} : whileO f y = some x ↔ ∃ n, iterO f n y = some x := by
  unfold whileO
  constructor
  · intro h
    split at h
    · rename_i hh
      injection h with h
      subst h
      exact ⟨_, Classical.choose_spec (Classical.choose_spec hh)⟩
    · cases h
  · rintro ⟨n, hn⟩
    have hh : ∃ n x, iterO f n y = some x := ⟨n, x, hn⟩
    rw [dif_pos hh]
    have h2 := Classical.choose_spec (Classical.choose_spec hh)
    have a := iterO_up h2 (max n (Classical.choose hh)) (Nat.le_max_right _ _)
    have b := iterO_up hn (max n (Classical.choose hh)) (Nat.le_max_left _ _)
    rw [a] at b
    exact b
/-- A round. -/
theorem whileO_eq (f : D → Option (D ⊕ X)) (y : D) : whileO f y = match f y with
    | some (.inl z) => whileO f z
    | some (.inr x) => some x
    | none => none := by
  have key : ∀ x, whileO f y = some x ↔ (match f y with
    | some (.inl z) => whileO f z
    | some (.inr x) => some x
    | none => none) = some x := by
    intro x
    rw [whileO_iff]
    cases hf : f y with
    | none =>
      simp only
      constructor
      · rintro ⟨n, hn⟩; cases n <;> simp [iterO, hf] at hn
      · intro h; cases h
    | some v =>
      cases v with
      | inl z =>
        simp only
        rw [whileO_iff]
        constructor
        · rintro ⟨n, hn⟩
          cases n with
          | zero => cases hn
          | succ n => simp only [iterO, hf] at hn; exact ⟨n, hn⟩
        · rintro ⟨n, hn⟩; exact ⟨n + 1, by simp only [iterO, hf]; exact hn⟩
      | inr x' =>
        simp only
        constructor
        · rintro ⟨n, hn⟩
          cases n with
          | zero => cases hn
          | succ n => simp only [iterO, hf] at hn; exact hn
        · intro h; exact ⟨1, by simp only [iterO, hf]; exact h⟩
  cases h1 : whileO f y with
  | some x => exact ((key x).1 h1).symm
  | none =>
    cases h2 : (match f y with
    | some (.inl z) => whileO f z
    | some (.inr x) => some x
    | none => none) with
    | none => rfl
    | some x => rw [(key x).2 h2] at h1; cases h1
/-- One of two ways. -/
def sumO {ρ A B : Type} (f : A → Option ρ) (g : B → Option ρ) (x : A ⊕ B) : Option ρ := match x with
  | .inl a => f a
  | .inr b => g b
/-- Ways that meet: f is what lies behind. -/
def jpO {ρ : Type} (f : D → Option ρ) (g : (D → Option ρ) → Option ρ) : Option ρ := g f
end

/-- How a piece of code is left. -/
inductive Ek where
  | ret
  | exit (n : Nat)
def Ek.ex : Ek → Exit
  | .ret => .ret
  | .exit n => .exit n
def Ek.is : Ek → Exit → Bool
  | .ret, .ret => true
  | .exit n, .exit m => Nat.beq n m
  | _, _ => false
theorem Ek.is_out {k : Ek} {e : Exit} (h : k.is e = true) : e = k.ex := by
  cases k <;> cases e <;> first | rfl | (cases h; done) | (obtain rfl := Nat.eq_of_beq_eq_true h; rfl)

/-- What is told of a piece of code: where ways meet, and what loops keep. -/
inductive Ann where
  | o
  | w
  | seq (a b : Ann)
  | join (sh : SSh) (a b : Ann)
  | cond (a b : Ann)
  | block (a : Ann)
  | loop (sh : SSh) (ex : List (Ek × SSh)) (a : Ann)

def Ann.wr : Ann → Bool
  | .w => true
  | _ => false
section
variable [SU] [Codes]
@[reducible] def SSh.D (sh : SSh) : Type := DT sh.sl × DO sh.os
@[reducible] def ExD : List (Ek × SSh) → Type
  | [] => Empty
  | [a] => a.2.D
  | a :: b :: l => a.2.D ⊕ ExD (b :: l)
variable {ρ : Type}
def meetO (nt lo : Nat) (s : ESt) (sh : SSh) (K : sh.D → Option ρ) : Option ρ := bif Nat.beq s.nt nt && Nat.beq s.heap.lo lo then (match exS s (ksFor s sh) sh with
  | some z => K z
  | none => none) else none
theorem meetO_out {nt lo : Nat} {s : ESt} {sh : SSh} {K : sh.D → Option ρ} {r : ρ} (h : meetO nt lo s sh K = some r) : ∃ z, WeakT s (mkS nt lo sh z.1 z.2) ∧ K z = some r := by
  unfold meetO at h
  have hh := bif_none h
  clear h
  obtain ⟨hb, h⟩ := hh
  simp only [Bool.and_eq_true] at hb
  split at h
  · rename_i z hz
    have := exS_ok (x := z.1) (y := z.2) hz
    rw [Nat.eq_of_beq_eq_true hb.1, Nat.eq_of_beq_eq_true hb.2] at this
    exact ⟨z, this, h⟩
  · cases h
def exitO (nt lo : Nat) (s : ESt) (e : Exit) : (l : List (Ek × SSh)) → (ExD l → Option ρ) → Option ρ
  | [], _ => none
  | [a], K => bif a.1.is e then meetO nt lo s a.2 K else none
  | a :: b :: l, K => bif a.1.is e then meetO nt lo s a.2 (fun z => K (.inl z)) else exitO nt lo s e (b :: l) (fun z => K (.inr z))
def onExit (nt lo : Nat) (k : Exit → ESt → Option ρ) : (l : List (Ek × SSh)) → ExD l → Option ρ
  | [], _ => none
  | [a], z => k a.1.ex (mkS nt lo a.2 z.1 z.2)
  | a :: b :: l, z => sumO (fun z => k a.1.ex (mkS nt lo a.2 z.1 z.2)) (fun z => onExit nt lo k (b :: l) z) z
theorem exitO_out {nt lo : Nat} {s : ESt} {e : Exit} {k : Exit → ESt → Option ρ} : ∀ {l : List (Ek × SSh)} {σ : Type} {K : ExD l → Option σ} {x : σ}, exitO nt lo s e l K = some x → ∃ z, K z = some x ∧ ∃ s', WeakT s s' ∧ ∀ r, onExit nt lo k l z = some r → k e s' = some r
  | [], _, _, _, h => by cases h
  | [a], σ, K, x, h => by
    unfold exitO at h
    have hh := bif_none h
    clear h
    obtain ⟨hb, h⟩ := hh
    obtain ⟨z, w, h⟩ := meetO_out h
    exact ⟨z, h, _, w, fun r hr => by rw [Ek.is_out hb]; exact hr⟩
  | a :: b :: l, σ, K, x, h => by
    unfold exitO at h
    cases hb : a.1.is e with
    | true =>
      rw [hb] at h
      obtain ⟨z, w, h⟩ := meetO_out h
      exact ⟨.inl z, h, _, w, fun r hr => by rw [Ek.is_out hb]; exact hr⟩
    | false =>
      rw [hb] at h
      obtain ⟨z, h1, s', w, h2⟩ := exitO_out (l := b :: l) h
      exact ⟨.inr z, h1, s', w, h2⟩

def thenK (K : ESt → Option ρ) (k : Exit → ESt → Option ρ) : Exit → ESt → Option ρ
  | .normal, s => K s
  | e, s => k e s
def inK (id : Nat) (k : Exit → ESt → Option ρ) : Exit → ESt → Option ρ
  | .exit id', s => bif Nat.beq id' id then k .normal s else k (.exit id') s
  | e, s => k e s
/-- The way round a loop, or out of it. -/
def roundK (nt lo : Nat) (sh : SSh) (ex : List (Ek × SSh)) : Exit → ESt → Option (sh.D ⊕ ExD ex)
  | .normal, s => meetO nt lo s sh (fun z => some (.inl z))
  | e, s => exitO nt lo s e ex (fun z => some (.inr z))
noncomputable def runC (T : List (Ctr P)) [Tys P] [TyE P] (nt lo : Nat) : Ann → Code → {ρ : Type} → (Exit → ESt → Option ρ) → ESt → Option ρ
  | _, .skip, _, k, s => k .normal s
  | _, .exit id, _, k, s => k (.exit id) s
  | _, .ret, _, k, s => k .ret s
  | a, .region _ A draw, _, k, s => runReg a.wr T A draw (k .normal) s
  | .seq a b, .seq x y, _, k, s => runC T nt lo a x (thenK (runC T nt lo b y k) k) s
  | .o, .seq x y, _, k, s => runC T nt lo .o x (thenK (runC T nt lo .o y k) k) s
  | .join sh a b, .seq x y, _, k, s => jpO (fun z : sh.D => runC T nt lo b y k (mkS nt lo sh z.1 z.2)) fun j => runC T nt lo a x (thenK (fun s' => meetO nt lo s' sh j) k) s
  | .cond a b, .cond (.tmp t) x y, _, k, s => match s.env t with
    | .b c => bif Nat.blt t s.nt then (bif c then runC T nt lo a x k (s.put (some t) (.b true)) else runC T nt lo b y k (s.put (some t) (.b false))) else none
    | _ => none
  | .o, .cond (.tmp t) x y, _, k, s => match s.env t with
    | .b c => bif Nat.blt t s.nt then (bif c then runC T nt lo .o x k (s.put (some t) (.b true)) else runC T nt lo .o y k (s.put (some t) (.b false))) else none
    | _ => none
  | .block a, .block id x, _, k, s => runC T nt lo a x (inK id k) s
  | .o, .block id x, _, k, s => runC T nt lo .o x (inK id k) s
  | .loop sh ex a, .loop x, _, k, s => meetO nt lo s sh fun y0 =>
      callB (whileO (fun y => runC T nt lo a x (roundK nt lo sh ex) (mkS nt lo sh y.1 y.2)) y0) fun z => onExit nt lo k ex z
  | _, _, _, _, _ => none

/-- What is asked stays so for what is told less of. -/
def Down (Q : Exit → ESt → Prop) : Prop := ∀ e s s', WeakT s s' → Q e s' → Q e s
theorem runC_ok (T : List (Ctr P)) [Tys P] [TyE P] [Mixed P] (nt lo : Nat) : ∀ (c : Code) (a : Ann) {ρ : Type} (k : Exit → ESt → Option ρ) (s : ESt) (res : ρ) (Q : Exit → ESt → Prop), Down Q → (∀ e s', k e s' = some res → Q e s') → runC T nt lo a c k s = some res → SCT P c Q s
  | .skip, a, ρ, k, s, res, Q, hQ, hk, h => by
    have h : k .normal s = some res := by cases a <;> exact h
    exact ⟨SC.skip ⟨s, rfl, hk _ _ h⟩⟩
  | .exit id, a, ρ, k, s, res, Q, hQ, hk, h => by
    have h : k (.exit id) s = some res := by cases a <;> exact h
    exact ⟨SC.exit ⟨s, rfl, hk _ _ h⟩⟩
  | .ret, a, ρ, k, s, res, Q, hQ, hk, h => by
    have h : k .ret s = some res := by cases a <;> exact h
    exact ⟨SC.ret ⟨s, rfl, hk _ _ h⟩⟩
  | .region id A draw, a, ρ, k, s, res, Q, hQ, hk, h => by
    have h : runReg a.wr T A draw (k .normal) s = some res := by cases a <;> exact h
    exact runReg_ok (fun s' => hk _ _) h
  | .seq x y, a, ρ, k, s, res, Q, hQ, hk, h => by
    have key : ∀ a b, runC T nt lo a x (thenK (runC T nt lo b y k) k) s = some res → SCT P (.seq x y) Q s := fun a b h => by
      refine SCT.seq' (runC_ok T nt lo x a (thenK (runC T nt lo b y k) k) s res _ (fun e s s' w q => ?_) (fun e s' q => ?_) h)
      · cases e <;> first | exact SCT.weak w q | exact hQ _ _ _ w q
      · cases e <;> first | exact runC_ok T nt lo y b k s' res Q hQ hk q | exact hk _ _ q
    cases a with
    | o => exact key _ _ h
    | seq a b => exact key _ _ h
    | join sh a b =>
      have h : runC T nt lo a x (thenK (fun s' => meetO nt lo s' sh (fun z : sh.D => runC T nt lo b y k (mkS nt lo sh z.1 z.2))) k) s = some res := h
      refine SCT.seq' (runC_ok T nt lo x a _ s res _ (fun e s s' w q => ?_) (fun e s' q => ?_) h)
      · cases e <;> first | exact SCT.weak w q | exact hQ _ _ _ w q
      · cases e <;> first | (obtain ⟨z, w, q⟩ := meetO_out q; exact SCT.weak w (runC_ok T nt lo y b k _ res Q hQ hk q)) | exact hk _ _ q
    | _ => cases h
  | .cond (.tmp t) x y, a, ρ, k, s, res, Q, hQ, hk, h => by
    have key : ∀ a b, (match s.env t with
      | .b c => bif Nat.blt t s.nt then (bif c then runC T nt lo a x k (s.put (some t) (.b true)) else runC T nt lo b y k (s.put (some t) (.b false))) else none
      | _ => none) = some res → SCT P (.cond (.tmp t) x y) Q s := fun a b h => by
      split at h
      · rename_i c hc
        have hb := envT hc
        simp only [toV] at hb
        have hh := bif_none h
        clear h
        obtain ⟨hlt, h⟩ := hh
        obtain ⟨h1, h2⟩ := bifs h
        refine ⟨SC.cond (b := c) hb (fun e => ?_) (fun e => ?_)⟩
        · have := (runC_ok T nt lo x a k _ res Q hQ hk (h1 e)).out
          rw [toSt_put] at this
          rwa [St.know (by rw [hb, e]; simp only [toV]) hlt] at this
        · have := (runC_ok T nt lo y b k _ res Q hQ hk (h2 e)).out
          rw [toSt_put] at this
          rwa [St.know (by rw [hb, e]; simp only [toV]) hlt] at this
      · cases h
    cases a with
    | o => exact key _ _ h
    | cond a b => exact key _ _ h
    | _ => cases h
  | .block id x, a, ρ, k, s, res, Q, hQ, hk, h => by
    have key : ∀ a, runC T nt lo a x (inK id k) s = some res → SCT P (.block id x) Q s := fun a h => by
      refine SCT.block (runC_ok T nt lo x a (inK id k) s res _ (fun e s s' w q => ?_) (fun e s' q => ?_) h)
      · cases e with
        | exit id' =>
          simp only [inT] at q ⊢
          cases hb : Nat.beq id' id <;> rw [hb] at q <;> exact hQ _ _ _ w q
        | _ => exact hQ _ _ _ w q
      · cases e with
        | exit id' =>
          simp only [inT, inK] at q ⊢
          cases hb : Nat.beq id' id <;> rw [hb] at q <;> exact hk _ _ q
        | _ => exact hk _ _ q
    cases a with
    | o => exact key _ h
    | block a => exact key _ h
    | _ => cases h
  | .loop x, a, ρ, k, s, res, Q, hQ, hk, h => by
    cases a with
    | loop sh ex a =>
      have h : (meetO nt lo s sh fun y0 =>
        callB (whileO (fun y => runC T nt lo a x (roundK nt lo sh ex) (mkS nt lo sh y.1 y.2)) y0) fun z => onExit nt lo k ex z) = some res := h
      obtain ⟨y0, w0, h⟩ := meetO_out h
      obtain ⟨z, hz, h⟩ := callB_out h
      obtain ⟨n, hn⟩ := whileO_iff.1 hz
      refine SCT.weak w0 (SCT.loop fun J hW hJ => ?_)
      have main : ∀ n y, iterO (fun y : sh.D => runC T nt lo a x (roundK nt lo sh ex) (mkS nt lo sh y.1 y.2)) n y = some z → J (mkS nt lo sh y.1 y.2) := by
        intro n
        induction n with
        | zero => intro y hy; cases hy
        | succ n ih =>
          intro y hy
          simp only [iterO] at hy
          split at hy
          · rename_i y' hf
            refine hJ _ (runC_ok T nt lo x a _ _ _ _ (fun e s s' w q => ?_) (fun e s' q => ?_) hf)
            · cases e <;> first | exact hW _ _ w q | exact hQ _ _ _ w q
            · have no : ∀ e, exitO nt lo s' e ex (fun z => some (Sum.inr z : sh.D ⊕ ExD ex)) = some (.inl y') → False := fun e q => by
                obtain ⟨z, q, _⟩ := exitO_out (ρ := ρ) (k := k) q
                cases q
              cases e <;> first
                | (obtain ⟨z, w, q⟩ := meetO_out q
                   injection q with q; injection q with q; subst q
                   exact hW _ _ w (ih _ hy))
                | exact (no _ q).elim
          · rename_i z' hf
            injection hy with hy
            subst hy
            refine hJ _ (runC_ok T nt lo x a _ _ _ _ (fun e s s' w q => ?_) (fun e s' q => ?_) hf)
            · cases e <;> first | exact hW _ _ w q | exact hQ _ _ _ w q
            · have yes : ∀ e, exitO nt lo s' e ex (fun z => some (Sum.inr z : sh.D ⊕ ExD ex)) = some (.inr z') → Q e s' := fun e q => by
                obtain ⟨z, q, s1, w, q2⟩ := exitO_out (ρ := ρ) (k := k) q
                injection q with q; injection q with q; subst q
                exact hQ _ _ _ w (hk _ _ (q2 _ h))
              cases e <;> first
                | (obtain ⟨z, w, q⟩ := meetO_out q; cases q; done)
                | exact yes _ q
          · cases hy
      exact main n y0 hn
    | _ => cases h
  | .cond (.const _) x y, a, ρ, k, s, res, Q, hQ, hk, h => by cases a <;> cases h
  | .cond (.global _) x y, a, ρ, k, s, res, Q, hQ, hk, h => by cases a <;> cases h
  | .cond (.func _) x y, a, ρ, k, s, res, Q, hQ, hk, h => by cases a <;> cases h
  | .rangeFunc _ _ _ _, a, ρ, k, s, res, Q, hQ, hk, h => by cases a <;> cases h
  | .scope _, a, ρ, k, s, res, Q, hQ, hk, h => by cases a <;> cases h
  | .label _, a, ρ, k, s, res, Q, hQ, hk, h => by cases a <;> cases h
  | .goto _, a, ρ, k, s, res, Q, hQ, hk, h => by cases a <;> cases h
  | .refuse _, a, ρ, k, s, res, Q, hQ, hk, h => by cases a <;> cases h
end
end
end Go.Abs
