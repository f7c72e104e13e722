/-
Contracts out of equations: words for the proofs about what functions compute.
No statement of the program is proved here.
-/
import Derived.Test.YtlcholjffgaemaaHA
import Derived.Test.YtlcholjffgaemaaA9
set_option linter.unusedVariables false
set_option linter.unusedSimpArgs false
set_option linter.unusedSectionVars false
namespace Go.Abs
open Go
noncomputable section

section
variable [SU] [Codes] {P : Program}
def mkCtr [Tys P] [TyE P] [Mixed P] (f : FuncId) [k : FnOk P f] (fn : Func) (hf : P.funcs[f]? = some fn) (T : List (Ctr P)) (a : Ann) (ar : List (Nat × Sh)) (os : List OSh) (rv : Sh) (ro : List OSh)
    (F : DT ar → DO os → Option (rv.D × DO ro)) (h : ∀ x y r, F x y = some r → runF T fn a ar os rv ro x y = some r) : Ctr P :=
  ⟨f, k, ar, os, rv, ro, F, fun x y r e => CT.of hf (h x y r e)⟩
end
section
variable {ρ α : Type}
theorem grd_of {b : Bool} {x : Option ρ} (h : b = true) : grd b x = x := by rw [h]; rfl
@[simp] theorem grd_true {x : Option ρ} : grd true x = x := rfl
theorem grd_dec {p : Prop} {x : Option ρ} (h : p) : grd (okB p) x = x := grd_of (okB_of h)
theorem grd_blt {a b : Nat} {x : Option ρ} (h : a < b) : grd (Nat.blt a b) x = x := grd_of (by simpa using h)
@[simp] theorem callB_some {y : α} {K : α → Option ρ} : callB (some y) K = K y := rfl
@[simp] theorem callB_grd {b : Bool} {x : Option α} {K : α → Option ρ} : callB (grd b x) K = grd b (callB x K) := by cases b <;> rfl
@[simp] theorem jpO_eq {f : α → Option ρ} {g : (α → Option ρ) → Option ρ} : jpO f g = g f := rfl
@[simp] theorem bif_decide {p : Prop} [Decidable p] {β : Type} {x y : β} : (bif decide p then x else y) = if p then x else y := by by_cases h : p <;> simp [h]
theorem bif_not {b : Bool} {β : Type} {x y : β} : (bif !b then x else y) = bif b then y else x := by cases b <;> rfl
theorem getD_ok {β : Type} {by_ : Nat} {ok : β → Prop} {l : List β} (h : All by_ ok l) (d : β) {i : Nat} (hi : i < l.length) : ok (l.getD i d) := by
  have := h.2 l[i] (List.getElem_mem hi)
  simpa [List.getD_eq_getElem?_getD, hi] using this
/-- A loop that comes to its end, by what is left to do. -/
theorem whileO_ind {D X : Type} {f : D → Option (D ⊕ X)} (m : D → Nat) (R : D → X → Prop) (h : ∀ y, (∃ x, f y = some (.inr x) ∧ R y x) ∨ ∃ z, f y = some (.inl z) ∧ m z < m y ∧ ∀ x, R z x → R y x) : ∀ y, ∃ x, whileO f y = some x ∧ R y x := by
  have key : ∀ n y, m y ≤ n → ∃ x, whileO f y = some x ∧ R y x := by
    intro n
    induction n with
    | zero =>
      intro y hy
      rw [whileO_eq]
      rcases h y with ⟨x, h1, h2⟩ | ⟨z, h1, h2, h3⟩
      · rw [h1]; exact ⟨x, rfl, h2⟩
      · omega
    | succ n ih =>
      intro y hy
      rw [whileO_eq]
      rcases h y with ⟨x, h1, h2⟩ | ⟨z, h1, h2, h3⟩
      · rw [h1]; exact ⟨x, rfl, h2⟩
      · rw [h1]
        obtain ⟨x, k1, k2⟩ := ih z (by omega)
        exact ⟨x, k1, h3 x k2⟩
  exact fun y => key _ y (Nat.le_refl _)
theorem callB_of {x : Option α} {y : α} {K : α → Option ρ} {r : Option ρ} (h : x = some y) (k : K y = r) : callB x K = r := by rw [h]; exact k
section
variable {D X : Type} {f : D → Option (D ⊕ X)} {st : Nat → D}
/-- A loop that counts. -/
theorem whileO_for {X0 : X} {y0 : D} (hy : y0 = st 0) (n : Nat) (G : Nat → Prop) (h0 : G 0) (hs : ∀ i, i < n → G i → (f (st i) = some (.inl (st (i + 1))) ∧ G (i + 1)) ∨ f (st i) = some (.inr X0)) (he : G n → f (st n) = some (.inr X0)) : whileO f y0 = some X0 := by
  subst hy
  have key : ∀ k i, i + k = n → G i → whileO f (st i) = some X0 := by
    intro k
    induction k with
    | zero => intro i hi hg; rw [whileO_eq, show i = n by omega, he (by rw [show n = i by omega]; exact hg)]
    | succ k ih =>
      intro i hi hg
      rw [whileO_eq]
      rcases hs i (by omega) hg with ⟨h1, h2⟩ | h1
      · rw [h1]; exact ih (i + 1) (by omega) h2
      · rw [h1]
  exact key n 0 (by omega) h0
/-- Are all of a list so? -/
theorem whileO_all {β : Type} {l : List β} {y0 : D} (hy : y0 = st 0) (z : β) (p : β → Bool) {A B : X} (h1 : ∀ i, i < l.length → p (l.getD i z) = true → f (st i) = some (.inl (st (i + 1)))) (h2 : ∀ i, i < l.length → p (l.getD i z) = false → f (st i) = some (.inr B))
    (h3 : l.all p = true → f (st l.length) = some (.inr A)) : whileO f y0 = some (if l.all p then A else B) := by
  refine whileO_for hy l.length (fun i => ∀ j, j < i → p (l.getD j z) = true) (fun j hj => absurd hj (Nat.not_lt_zero _)) (fun i hi hg => ?_) (fun hg => ?_)
  · cases hp : p (l.getD i z) with
    | true =>
      refine .inl ⟨h1 i hi hp, fun j hj => ?_⟩
      by_cases e : j = i
      · rw [e]; exact hp
      · exact hg j (by omega)
    | false =>
      right
      have : l.all p = false := by
        rw [List.all_eq_false]
        refine ⟨l[i], List.getElem_mem hi, ?_⟩
        have e : l.getD i z = l[i] := by simp [List.getD_eq_getElem?_getD, hi]
        rw [← e, hp]; simp
      rw [this]
      exact h2 i hi hp
  · have : l.all p = true := by
      rw [List.all_eq_true]
      intro x hx
      obtain ⟨i, hi, rfl⟩ := List.getElem_of_mem hx
      have e : l.getD i z = l[i] := by simp [List.getD_eq_getElem?_getD, hi]
      rw [← e]; exact hg i hi
    rw [h3 this, this]; rfl
/-- A loop that goes through to its end. -/
theorem whileO_to {X0 : X} {y0 : D} (hy : y0 = st 0) (n : Nat) (h1 : ∀ i, i < n → f (st i) = some (.inl (st (i + 1)))) (h2 : f (st n) = some (.inr X0)) : whileO f y0 = some X0 :=
  whileO_for hy n (fun _ => True) trivial (fun i hi _ => .inl ⟨h1 i hi, trivial⟩) (fun _ => h2)
end
theorem grd_ok {p : Prop} {x : Option ρ} (h : p) : grd (okB p) x = x := grd_of (okB_of h)
theorem FE {run go : Option ρ} {s r : ρ} (hr : run = go) (ok : go = some s) (h : some s = some r) : run = some r := by rw [hr, ok, h]
theorem FO {p : Prop} {run go : Option ρ} {s r : ρ} (hr : run = go) (ok : p → go = some s) (h : grd (okB p) (some s) = some r) : run = some r := by
  cases hb : okB p with
  | false => rw [hb] at h; cases h
  | true =>
    rw [hb] at h
    rw [hr, ok (okB_out hb)]
    exact h
theorem lenVal : LEN = 281474976710656 := rfl
@[simp] theorem sumO_inl {A B : Type} {f : A → Option ρ} {g : B → Option ρ} {a : A} : sumO f g (.inl a) = f a := rfl
@[simp] theorem sumO_inr {A B : Type} {f : A → Option ρ} {g : B → Option ρ} {b : B} : sumO f g (.inr b) = g b := rfl
end
end
end Go.Abs
