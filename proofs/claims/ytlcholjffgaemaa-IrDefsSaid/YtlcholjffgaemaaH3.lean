/-
Shapes of states: what is read off a state is true of it.
No statement of the program is proved here.
-/
import Derived.Test.YtlcholjffgaemaaH2
set_option linter.unusedVariables false
set_option linter.unusedSimpArgs false
set_option linter.unusedSectionVars false
namespace Go.Abs
open Go

section
variable {H H' : Heap} {m : Id → Option Id} {Z : Id → Prop}
theorem KG.ptrL {i j : Id} {r c : Nat} (hl : SlotLike (H.slot i) (H'.slot j)) (hm : m j = some i) : KG H H' m Z (.ptr i 0 r c) (.ptr j 0 r c) := by
  rintro E ι F w v rr ⟨h0, h1⟩
  refine ⟨h0, ?_⟩
  cases hs' : H'.slot j with
  | dead => trivial
  | mp s g => trivial
  | unborn => rw [hs'] at hl; cases hs : H.slot i <;> rw [hs] at hl <;> exact hl.elim
  | live o' =>
    rw [hs'] at hl
    cases hs : H.slot i with
    | live o =>
      rw [hs] at hl h1
      obtain ⟨a, b, c, d⟩ := hl
      show 0 ≤ o'.ver ∧ _
      rw [mι_some hm, a, c]; exact h1
    | unborn => rw [hs] at hl; exact hl.elim
    | dead => rw [hs] at hl; exact hl.elim
    | mp _ _ => rw [hs] at hl; exact hl.elim
theorem KG.srefL {i j : Id} {r n : Nat} (hl : SlotLike (H.slot i) (H'.slot j)) (hm : m j = some i) : KG H H' m Z (.sref i 0 r n) (.sref j 0 r n) := by
  rintro E ι F w v rr ⟨h0, h1⟩
  refine ⟨h0, ?_⟩
  cases hs' : H'.slot j with
  | dead => trivial
  | mp s g => trivial
  | unborn => rw [hs'] at hl; cases hs : H.slot i <;> rw [hs] at hl <;> exact hl.elim
  | live o' =>
    rw [hs'] at hl
    cases hs : H.slot i with
    | live o =>
      rw [hs] at hl h1
      obtain ⟨a, b, c, d⟩ := hl
      show 0 ≤ o'.ver ∧ _
      rw [mι_some hm, a, b, c, d]; exact h1
    | unborn => rw [hs] at hl; exact hl.elim
    | dead => rw [hs] at hl; exact hl.elim
    | mp _ _ => rw [hs] at hl; exact hl.elim
theorem KG.mrefL {i j : Id} (hl : SlotLike (H.slot i) (H'.slot j)) (hm : m j = some i) : KG H H' m Z (.mref i) (.mref j) := by
  rintro E ι F w v rr ⟨h0, h1⟩
  refine ⟨h0, ?_⟩
  cases hs' : H'.slot j with
  | dead => trivial
  | live o' => trivial
  | unborn => rw [hs'] at hl; cases hs : H.slot i <;> rw [hs] at hl <;> exact hl.elim
  | mp s g =>
    rw [hs'] at hl
    cases hs : H.slot i with
    | mp _ _ => rw [hs] at h1; rw [mι_some hm]; exact h1
    | unborn => rw [hs] at hl; exact hl.elim
    | dead => rw [hs] at hl; exact hl.elim
    | live _ => rw [hs] at hl; exact hl.elim
theorem KG.deadS {i j : Id} {r n r' n' : Nat} (hd : H'.slot j = .dead) : KG H H' m Z (.sref i 0 r n) (.sref j 0 r' n') := fun E ι F w v rr h => ⟨h.1, by rw [hd]; trivial⟩
theorem KG.deadP {i j : Id} {r n r' n' : Nat} (hd : H'.slot j = .dead) : KG H H' m Z (.ptr i 0 r n) (.ptr j 0 r' n') := fun E ι F w v rr h => ⟨h.1, by rw [hd]; trivial⟩
theorem KG.deadM {i j : Id} (hd : H'.slot j = .dead) : KG H H' m Z (.mref i) (.mref j) := fun E ι F w v rr h => ⟨h.1, by rw [hd]; trivial⟩
end

section
variable [SU] [Codes]
/-- Of the roots that have names in both. -/
structure Roots (ks : List (Option Nat)) (H H' : EHeap) (m : Id → Option Id) : Prop where
  sm : ∀ j k, nthK ks j = some k → (toH H').slot ⟨j, []⟩ = .dead ∨ (SlotLike ((toH H).slot ⟨k, []⟩) ((toH H').slot ⟨j, []⟩) ∧ H'.len j [] = H.len k [] ∧ m ⟨j, []⟩ = some ⟨k, []⟩)
  nn : ∀ j, nthK ks j = none → j < ks.length → (toH H').slot ⟨j, []⟩ = .dead ∨ ∃ o', (toH H').slot ⟨j, []⟩ = .live o' ∧ o'.ver = 0 ∧ H'.len j [] = some 0
variable {ks : List (Option Nat)} {H H' : EHeap} {m : Id → Option Id} {Z : Id → Prop}
theorem Roots.full (k : Roots ks H H' m) {j i : Nat} (h : nthK ks j = some i) : KG (toH H) (toH H') m Z (toV H.len (.sfull i [])) (toV H'.len (.sfull j [])) := by
  simp only [toV]
  rcases k.sm j i h with hd | ⟨h1, h2, h3⟩
  · cases H.len i [] <;> cases H'.len j [] <;> exact KG.deadS hd
  · rw [h2]
    cases H.len i [] <;> exact KG.srefL h1 h3
theorem Roots.nil (k : Roots ks H H' m) {j : Nat} (h : nthK ks j = none) (hl : j < ks.length) : KG (toH H) (toH H') m Z .nils (toV H'.len (.sfull j [])) := by
  simp only [toV]
  rcases k.nn j h hl with hd | ⟨o', h1, h2, h3⟩
  · have : ∀ n, KG (toH H) (toH H') m Z .nils (.sref ⟨j, []⟩ 0 0 n) := fun n E ι F w v rr h => by
      have h : v = .slice none 0 0 := h
      subst h
      exact ⟨rfl, by rw [hd]; trivial⟩
    cases H'.len j [] <;> exact this _
  · rw [h3]; exact KG.virt h1 h2.symm
mutual
theorem exE_ok (k : Roots ks H H' m) : ∀ (a : Sh) (u : EV) (x : a.D), exE ks a u = some x → KG (toH H) (toH H') m Z (toV H.len u) (toV H'.len (mkE a x))
  | .un, u, x, h => by simp only [mkE, toV]; exact KG.un
  | .b, u, x, h => by
    cases u <;> simp only [exE] at h <;> try (cases h; done)
    injection h with h; subst h; simp only [mkE, toV]; exact KG.t _
  | .i k, u, x, h => by
    cases u <;> simp only [exE] at h <;> try (cases h; done)
    have hh := bif_none h
    clear h
    obtain ⟨h1, h⟩ := hh
    have := kindEq_eq h1
    subst this
    injection h with h; subst h; simp only [mkE, toV]; exact KG.t _
  | .s, u, x, h => by
    cases u <;> simp only [exE] at h <;> try (cases h; done)
    injection h with h; subst h; simp only [mkE, toV]; exact KG.t _
  | .fz τ, u, x, h => by
    cases u <;> simp only [exE] at h <;> try (cases h; done)
    · obtain ⟨e, h⟩ := castL_ok h
      subst e
      obtain rfl := eq_of_heq h
      simp only [mkE, toV]; exact KG.t _
    · injection h with h; subst h
      simp only [mkE, toV, encL]
      exact KG.of_wk KG.nils (Wk.nils _ _)
  | .st n, u, x, h => by
    cases u <;> simp only [exE] at h <;> try (cases h; done)
    · obtain ⟨e, h⟩ := castN_ok _ _ _ _ _ h
      subst e
      obtain rfl := eq_of_heq h
      simp only [mkE, toV]; exact KG.agg fun j _ => KG.t _
    · rename_i l
      have hh := bif_none h
      clear h
      obtain ⟨hf, h⟩ := hh
      obtain ⟨m1, m2⟩ := Codes.make_ok _ _ _ h
      simp only [mkE, toV, m1]
      refine KG.agg fun j hj => ?_
      obtain ⟨u', e1, e2⟩ := m2 j hj
      obtain ⟨u'', e1', e3⟩ := Codes.cell_ok n x j hf
      rw [e1] at e1'
      injection e1' with e1'
      subst e1'
      refine KG.of_wk' (e2 H.len) ?_
      rw [e3 hj]; exact KG.t _
  | .fp τ c, u, x, h => by
    cases u <;> simp only [exE] at h <;> try (cases h; done)
    have hh := bif_none h
    clear h
    obtain ⟨hb, h⟩ := hh
    obtain rfl := natBeq hb
    obtain ⟨e, h⟩ := castI_ok h
    subst e
    obtain rfl := eq_of_heq h
    simp only [mkE, toV]; exact KG.fp
  | .nils, u, x, h => by cases u <;> simp only [exE] at h <;> first | (cases h; done) | (simp only [mkE, toV]; exact KG.nils)
  | .nilp, u, x, h => by cases u <;> simp only [exE] at h <;> first | (cases h; done) | (simp only [mkE, toV]; exact KG.nilp)
  | .nilm, u, x, h => by cases u <;> simp only [exE] at h <;> first | (cases h; done) | (simp only [mkE, toV]; exact KG.nilm)
  | .nilf, u, x, h => by cases u <;> simp only [exE] at h <;> first | (cases h; done) | (simp only [mkE, toV]; exact KG.nilf)
  | .nili, u, x, h => by cases u <;> simp only [exE] at h <;> first | (cases h; done) | (simp only [mkE, toV]; exact KG.t _)
  | .ptr id c, u, x, h => by
    cases u <;> simp only [exE] at h <;> try (cases h; done)
    rename_i i p r c'
    cases p with
    | cons _ _ => cases h
    | nil =>
      have hh := bif_none h
      clear h
      obtain ⟨hb, h⟩ := hh
      simp only [Bool.and_eq_true] at hb
      obtain ⟨⟨b1, b2⟩, b3⟩ := hb
      obtain rfl := natBeq b1
      obtain rfl := natBeq b2
      simp only [mkE, toV]
      rcases k.sm id i (isK_out b3) with hd | ⟨h1, h2, h3⟩
      · exact KG.deadP hd
      · exact KG.ptrL h1 h3
  | .full id, u, x, h => by
    cases u <;> simp only [exE] at h <;> try (cases h; done)
    · rename_i i p
      cases p with
      | cons _ _ => cases h
      | nil =>
        have hh := bif_none h
        clear h
        obtain ⟨hb, h⟩ := hh
        simp only [mkE]
        exact k.full (isK_out hb)
    · have hh := bif_none h
      clear h
      obtain ⟨hb, h⟩ := hh
      obtain ⟨h1, h2⟩ := noK_out hb
      simp only [mkE]
      rw [show toV H.len .nils = .nils by simp only [toV]]
      exact k.nil h1 h2
  | .mref id, u, x, h => by
    cases u <;> simp only [exE] at h <;> try (cases h; done)
    rename_i i
    have hh := bif_none h
    clear h
    obtain ⟨hb, h⟩ := hh
    simp only [mkE, toV]
    rcases k.sm id i (isK_out hb) with hd | ⟨h1, h2, h3⟩
    · exact KG.deadM hd
    · exact KG.mrefL h1 h3
  | .agg l, u, x, h => by
    cases u <;> simp only [exE] at h <;> try (cases h; done)
    · rename_i k' y
      have hh := bif_none h
      clear h
      obtain ⟨hf, h⟩ := hh
      obtain ⟨e1, e2⟩ := exEs_ok k l _ x h
      rw [cellsE_len] at e1
      simp only [mkE, toV, ← e1]
      refine KG.agg fun j hj => ?_
      have := e2 j (by rw [cellsE_len]; exact hj)
      rw [cellsE_at _ _ _ _ _ _ _ _ _ hj, Nat.zero_add, cellE_F (τ := .st k') hf hj] at this
      exact this
    · rename_i l'
      obtain ⟨e1, e2⟩ := exEs_ok k l l' x h
      simp only [mkE, toV, ← e1]
      exact KG.agg fun j hj => e2 j hj
  | .tup l, u, x, h => by
    cases u <;> simp only [exE] at h <;> try (cases h; done)
    rename_i l'
    obtain ⟨e1, e2⟩ := exEs_ok k l l' x h
    simp only [mkE, toV, ← e1]
    exact KG.tup fun j hj => e2 j hj
  | .fn f l, u, x, h => by
    cases u <;> simp only [exE] at h <;> try (cases h; done)
    rename_i f' l'
    have hh := bif_none h
    clear h
    obtain ⟨hb, h⟩ := hh
    obtain rfl := natBeq hb
    obtain ⟨e1, e2⟩ := exEs_ok k l l' x h
    simp only [mkE, toV, ← e1]
    exact KG.fn fun j hj => e2 j hj
theorem exEs_ok (k : Roots ks H H' m) : ∀ (l : List Sh) (us : List EV) (x : DS l), exEs ks l us = some x → us.length = (mkEs l x).length ∧ ∀ j, j < us.length → KG (toH H) (toH H') m Z (toVs H.len us j) (toVs H'.len (mkEs l x) j)
  | [], us, x, h => by
    cases us with
    | nil => exact ⟨rfl, fun j hj => absurd hj (Nat.not_lt_zero _)⟩
    | cons _ _ => cases h
  | a :: l, us, x, h => by
    cases us with
    | nil => cases h
    | cons u us =>
      simp only [exEs] at h
      split at h
      · rename_i x1 h1
        split at h
        · rename_i x2 h2
          injection h with h; subst h
          have e := exE_ok k a u x1 h1
          obtain ⟨e1, e2⟩ := exEs_ok k l us x2 h2
          refine ⟨by simp only [mkEs, List.length_cons, e1], fun j hj => ?_⟩
          cases j with
          | zero => simp only [mkEs, toVs]; exact e
          | succ j => simp only [mkEs, toVs]; exact e2 j (by simpa using hj)
        · cases h
      · cases h
end
theorem exT_ok (k : Roots ks H H' m) {env : Nat → EV} : ∀ (l : List (Nat × Sh)) (x : DT l), exT ks env l = some x → ∀ t, KG (toH H) (toH H') m Z (toV H.len (env t)) (toV H'.len (mkEnv l x t))
  | [], x, h, t => by simp only [mkEnv, toV]; exact KG.un
  | (r, a) :: l, x, h, t => by
    simp only [exT] at h
    split at h
    · rename_i x1 h1
      split at h
      · rename_i x2 h2
        injection h with h; subst h
        simp only [mkEnv]
        cases hb : Nat.beq t r with
        | true => obtain rfl := natBeq hb; exact exE_ok k a _ x1 h1
        | false => exact exT_ok k l x2 h2 t
      · cases h
    · cases h

/-! ### Objects -/
def nthO : List OSh → Nat → Option OSh
  | [], _ => none
  | o :: _, 0 => some o
  | _ :: l, j + 1 => nthO l j
theorem exOs_at {H : EHeap} : ∀ (l : List OSh) (ms : List (Option Nat)) (y : DO l), exOs ks H l ms = some y → l.length = ms.length ∧ ∀ j, j < l.length → ∃ o, nthO l j = some o ∧
    ((∃ k x, nthK ms j = some k ∧ exO ks k o (H.obj k) = some x ∧ mkObj l y j = mkO o x) ∨ (∃ x, nthK ms j = none ∧ exV o = some x ∧ mkObj l y j = mkO o x))
  | [], ms, y, h => by
    cases ms with
    | nil => exact ⟨rfl, fun j hj => absurd hj (Nat.not_lt_zero _)⟩
    | cons a ms => cases a <;> cases h
  | o :: l, ms, y, h => by
    cases ms with
    | nil => cases h
    | cons a ms =>
      cases a with
      | some k =>
        simp only [exOs] at h
        split at h
        · rename_i x1 h1
          split at h
          · rename_i x2 h2
            injection h with h; subst h
            obtain ⟨e1, e2⟩ := exOs_at l ms x2 h2
            refine ⟨by simp [e1], fun j hj => ?_⟩
            cases j with
            | zero => exact ⟨o, rfl, .inl ⟨k, x1, rfl, h1, rfl⟩⟩
            | succ j => exact e2 j (by simpa using hj)
          · cases h
        · cases h
      | none =>
        simp only [exOs] at h
        split at h
        · rename_i x1 h1
          split at h
          · rename_i x2 h2
            injection h with h; subst h
            obtain ⟨e1, e2⟩ := exOs_at l ms x2 h2
            refine ⟨by simp [e1], fun j hj => ?_⟩
            cases j with
            | zero => exact ⟨o, rfl, .inr ⟨x1, rfl, h1, rfl⟩⟩
            | succ j => exact e2 j (by simpa using hj)
          · cases h
        · cases h
theorem mkObj_out : ∀ (l : List OSh) (y : DO l) (j : Nat), l.length ≤ j → mkObj l y j = .none
  | [], _, _, _ => rfl
  | _ :: l, y, 0, h => by simp at h
  | _ :: l, y, j + 1, h => mkObj_out l y.2 j (by simpa using h)
def mK (ks : List (Option Nat)) : Id → Option Id := fun i => match nthK ks i.k with
  | some k => some ⟨k, i.p⟩
  | none => none
/-- What an object's data are read off. -/
inductive ORead (H : EHeap) (k : Nat) (ks : List (Option Nat)) : (o : OSh) → o.D → Prop where
  | dead {x : Unit} : ORead H k ks .dead x
  | lst {e : TypeId} {τ : Ty} {l : List τ.D} (ho : H.obj k = .lst ⟨e, τ, l⟩) : ORead H k ks (.lst e τ) l
  | box {e : TypeId} {τ : Ty} {x : τ.D} (ho : H.obj k = .lst ⟨e, τ, [x]⟩) : ORead H k ks (.box e τ) x
  | cells {e : TypeId} {l : List Sh} {m : List EV} {x : DS l} (ho : H.obj k = .cells e m) (hx : exEs ks l m = some x) : ORead H k ks (.cells e l) x
  | boxc {e : TypeId} {l : List Sh} {τ : Ty} {z : τ.D} {x : DS l} (ho : H.obj k = .lst ⟨e, τ, [z]⟩) (hf : froT τ = true) (hx : exEs ks l (cellsE k [] τ z 0 0 τ.sz) = some x) : ORead H k ks (.cells e l) x
  | mp {s : Bool} {τ : Ty} {g : MKey → Option τ.D} (ho : H.obj k = .mp s τ g) : ORead H k ks (.mp s τ) g
theorem exO_read {H : EHeap} {k : Nat} : ∀ (o : OSh) (x : o.D), exO ks k o (H.obj k) = some x → ORead H k ks o x
  | .dead, x, h => .dead
  | .lst e τ, x, h => by
    cases ho : H.obj k <;> rw [ho] at h <;> simp only [exO] at h <;> try (cases h; done)
    rename_i v
    obtain ⟨ve, vτ, vl⟩ := v
    have hh := bif_none h
    clear h
    obtain ⟨hb, h⟩ := hh
    obtain rfl := natBeq hb
    obtain ⟨e1, h⟩ := castL_ok h
    simp only at e1
    subst e1
    obtain rfl := eq_of_heq h
    exact .lst ho
  | .box e τ, x, h => by
    cases ho : H.obj k <;> rw [ho] at h <;> try (cases h; done)
    rename_i v
    obtain ⟨ve, vτ, vl⟩ := v
    match vl, h, ho with
    | [], h, ho => cases h
    | [z], h, ho =>
      simp only [exO] at h
      have hh := bif_none h
      clear h
      obtain ⟨hb, h⟩ := hh
      obtain rfl := natBeq hb
      obtain ⟨e1, h⟩ := castI_ok h
      subst e1
      obtain rfl := eq_of_heq h
      exact .box ho
    | _ :: _ :: _, h, ho => cases h
  | .cells e l, x, h => by
    cases ho : H.obj k <;> rw [ho] at h <;> try (cases h; done)
    · rename_i v
      obtain ⟨ve, vτ, vl⟩ := v
      match vl, h, ho with
      | [], h, ho => cases h
      | [z], h, ho =>
        simp only [exO] at h
        have hh := bif_none h
        clear h
        obtain ⟨hb, h⟩ := hh
        simp only [Bool.and_eq_true] at hb
        obtain rfl := natBeq hb.1
        exact .boxc ho hb.2 h
      | _ :: _ :: _, h, ho => cases h
    · simp only [exO] at h
      have hh := bif_none h
      clear h
      obtain ⟨hb, h⟩ := hh
      obtain rfl := natBeq hb
      exact .cells ho h
  | .mp s τ, x, h => by
    cases ho : H.obj k <;> rw [ho] at h <;> simp only [exO] at h <;> try (cases h; done)
    have hh := bif_none h
    clear h
    obtain ⟨hb, h⟩ := hh
    obtain rfl := eq_of_beq hb
    obtain ⟨e1, h⟩ := castF_ok _ _ _ _ _ h
    subst e1
    obtain rfl := eq_of_heq h
    exact .mp ho
end
end Go.Abs
