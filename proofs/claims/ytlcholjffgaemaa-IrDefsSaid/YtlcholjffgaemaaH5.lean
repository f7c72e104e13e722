/-
Calls of functions by their contracts, over a part of memory.
No statement of the program is proved here.
-/
import Derived.Test.YtlcholjffgaemaaH4
set_option linter.unusedVariables false
set_option linter.unusedSimpArgs false
set_option linter.unusedSectionVars false
namespace Go.Abs
open Go

/-- What goes through the making of values. -/
structure KCl (K : V → V → Prop) : Prop where
  un : ∀ u, K u .un
  und : K .und .und
  t : ∀ x, K (.t x) (.t x)
  nils : K .nils .nils
  nilp : K .nilp .nilp
  nilm : K .nilm .nilm
  nilf : K .nilf .nilf
  fp : ∀ n g, K (.fp n g) (.fp n g)
  agg : ∀ n g g', (∀ j, j < n → K (g j) (g' j)) → K (.agg n g) (.agg n g')
  tup : ∀ n g g', (∀ j, j < n → K (g j) (g' j)) → K (.tup n g) (.tup n g')
  fn : ∀ f n g g', (∀ j, j < n → K (g j) (g' j)) → K (.fn f n g) (.fn f n g')

/-- Calls change memory so. -/
theorem KCl.of {H H' : Heap} {ι ι' : Id → Option Nat} {F F' : Nat → Prop} {w w' : World} (ht : ∀ x v, Reads F w x v → Reads F' w' x v)
    (hfp : ∀ n g v, VRel H ι F w (.fp n g) v → VRel H' ι' F' w' (.fp n g) v) : KCl (fun u u' => ∀ v, VRel H ι F w u v → VRel H' ι' F' w' u' v) where
  un u v _ := trivial
  und v h := h
  t x v h := ht x v h
  nils v h := h
  nilp v h := h
  nilm v h := h
  nilf v h := h
  fp n g v h := hfp n g v h
  agg n g g' h v := fun ⟨cs, h1, h2, h3⟩ => ⟨cs, h1, h2, fun j hj => by obtain ⟨c, a, p, b⟩ := h3 j hj; exact ⟨c, a, p, h j hj _ b⟩⟩
  tup n g g' h v := fun ⟨cs, h1, h2, h3⟩ => ⟨cs, h1, h2, fun j hj => by obtain ⟨c, a, b⟩ := h3 j hj; exact ⟨c, a, h j hj _ b⟩⟩
  fn f n g g' h v := fun ⟨cs, h1, h2, h3⟩ => ⟨cs, h1, h2, fun j hj => by obtain ⟨c, a, b⟩ := h3 j hj; exact ⟨c, a, h j hj _ b⟩⟩

section
variable [SU] [Codes]
mutual
def renE (g : Nat → Option Nat) : EV → EV
  | .ptr k p r c => match g k with
    | some j => .ptr j p r c
    | none => .un
  | .sref k p r n => match g k with
    | some j => .sref j p r n
    | none => .un
  | .sfull k p => match g k with
    | some j => .sfull j p
    | none => .un
  | .mref k => match g k with
    | some j => .mref j
    | none => .un
  | .agg l => .agg (renEs g l)
  | .tup l => .tup (renEs g l)
  | .fn f l => .fn f (renEs g l)
  | .un => .un
  | .und => .und
  | .b x => .b x
  | .i k n => .i k n
  | .s x => .s x
  | .fz τ l => .fz τ l
  | .fp τ x c => .fp τ x c
  | .st i x => .st i x
  | .nils => .nils
  | .nilp => .nilp
  | .nilm => .nilm
  | .nilf => .nilf
  | .nili => .nili
def renEs (g : Nat → Option Nat) : List EV → List EV
  | [] => []
  | a :: l => renE g a :: renEs g l
end
theorem renEs_len (g : Nat → Option Nat) : ∀ l : List EV, (renEs g l).length = l.length
  | [] => rfl
  | a :: l => by simp [renEs, renEs_len g l]
mutual
theorem KCl.ren {K : V → V → Prop} (C : KCl K) {len len' : Len} {g : Nat → Option Nat} (hp : ∀ id p r c j, g id = some j → K (.ptr ⟨id, p⟩ 0 r c) (.ptr ⟨j, p⟩ 0 r c)) (hs : ∀ id p r n j, g id = some j → K (.sref ⟨id, p⟩ 0 r n) (.sref ⟨j, p⟩ 0 r n))
    (hl : ∀ id p j, g id = some j → len' j p = len id p) (hm : ∀ id j, g id = some j → K (.mref ⟨id, []⟩) (.mref ⟨j, []⟩)) : ∀ u : EV, K (toV len u) (toV len' (renE g u))
  | .ptr id p r c => by
    simp only [renE]
    cases hg : g id with
    | none => simp only [toV]; exact C.un _
    | some j => simp only [toV]; exact hp id p r c j hg
  | .sref id p r n => by
    simp only [renE]
    cases hg : g id with
    | none => simp only [toV]; exact C.un _
    | some j => simp only [toV]; exact hs id p r n j hg
  | .sfull id p => by
    simp only [renE]
    cases hg : g id with
    | none => simp only [toV]; exact C.un _
    | some j =>
      simp only [toV]
      rw [hl id p j hg]
      cases len id p <;> exact hs id p 0 _ j hg
  | .mref id => by
    simp only [renE]
    cases hg : g id with
    | none => simp only [toV]; exact C.un _
    | some j => simp only [toV]; exact hm id j hg
  | .agg l => by simp only [renE, toV, renEs_len]; exact C.agg _ _ _ fun j hj => KCl.rens C hp hs hl hm l j
  | .tup l => by simp only [renE, toV, renEs_len]; exact C.tup _ _ _ fun j hj => KCl.rens C hp hs hl hm l j
  | .fn f l => by simp only [renE, toV, renEs_len]; exact C.fn _ _ _ _ fun j hj => KCl.rens C hp hs hl hm l j
  | .un => by simp only [renE, toV]; exact C.un _
  | .und => by simp only [renE, toV]; exact C.und
  | .b _ => by simp only [renE, toV]; exact C.t _
  | .i _ _ => by simp only [renE, toV]; exact C.t _
  | .s _ => by simp only [renE, toV]; exact C.t _
  | .fz _ _ => by simp only [renE, toV]; exact C.t _
  | .fp _ _ _ => by simp only [renE, toV]; exact C.fp _ _
  | .st _ _ => by simp only [renE, toV]; exact C.agg _ _ _ fun j _ => C.t _
  | .nils => by simp only [renE, toV]; exact C.nils
  | .nilp => by simp only [renE, toV]; exact C.nilp
  | .nilm => by simp only [renE, toV]; exact C.nilm
  | .nilf => by simp only [renE, toV]; exact C.nilf
  | .nili => by simp only [renE, toV]; exact C.t _
theorem KCl.rens {K : V → V → Prop} (C : KCl K) {len len' : Len} {g : Nat → Option Nat} (hp : ∀ id p r c j, g id = some j → K (.ptr ⟨id, p⟩ 0 r c) (.ptr ⟨j, p⟩ 0 r c)) (hs : ∀ id p r n j, g id = some j → K (.sref ⟨id, p⟩ 0 r n) (.sref ⟨j, p⟩ 0 r n))
    (hl : ∀ id p j, g id = some j → len' j p = len id p) (hm : ∀ id j, g id = some j → K (.mref ⟨id, []⟩) (.mref ⟨j, []⟩)) : ∀ (l : List EV) (j : Nat), K (toVs len l j) (toVs len' (renEs g l) j)
  | [], j => by simp only [renEs, toVs]; exact C.un _
  | a :: l, 0 => by simp only [renEs, toVs]; exact KCl.ren C hp hs hl hm a
  | a :: l, j + 1 => by simp only [renEs, toVs]; exact KCl.rens C hp hs hl hm l j
end
mutual
theorem KCl.scrub {K : V → V → Prop} (C : KCl K) {H : Heap} {len len' : Len} {f : Nat → List Nat → Option EV} (hp : ∀ id p r c, H.slot ⟨id, p⟩ ≠ .unborn → f id p = none → K (.ptr ⟨id, p⟩ 0 r c) (.ptr ⟨id, p⟩ 0 r c))
    (hs : ∀ id p r n, H.slot ⟨id, p⟩ ≠ .unborn → f id p = none → K (.sref ⟨id, p⟩ 0 r n) (.sref ⟨id, p⟩ 0 r n)) (hl : ∀ id p, H.slot ⟨id, p⟩ ≠ .unborn → f id p = none → len' id p = len id p ∨ ∀ n n', K (.sref ⟨id, p⟩ 0 0 n) (.sref ⟨id, p⟩ 0 0 n'))
    (hm : ∀ id, H.slot ⟨id, []⟩ ≠ .unborn → f id [] = none → K (.mref ⟨id, []⟩) (.mref ⟨id, []⟩)) (hu : ∀ id p u, f id p = some u → u = .un) : ∀ u : EV, Born H (toV len u) → K (toV len u) (toV len' (Abs.scrub f u))
  | .ptr id p r c, hb => by
    simp only [Abs.scrub]
    cases hf : f id p with
    | some u => simp only [toV]; exact C.un _
    | none => simp only [toV] at hb ⊢; exact hp id p r c hb hf
  | .sref id p r n, hb => by
    simp only [Abs.scrub]
    cases hf : f id p with
    | some u => simp only [toV]; exact C.un _
    | none => simp only [toV] at hb ⊢; exact hs id p r n hb hf
  | .sfull id p, hb => by
    simp only [Abs.scrub]
    cases hf : f id p with
    | some u => rw [hu id p u hf]; simp only [toV]; exact C.un _
    | none =>
      simp only [toV] at hb ⊢
      have hb' : H.slot ⟨id, p⟩ ≠ .unborn := by cases hx : len id p <;> rw [hx] at hb <;> exact hb
      rcases hl id p hb' hf with e | e
      · rw [e]
        cases len id p <;> exact hs id p 0 _ hb' hf
      · cases len id p <;> cases len' id p <;> exact e _ _
  | .mref id, hb => by
    simp only [Abs.scrub]
    cases hf : f id [] with
    | some u => simp only [toV]; exact C.un _
    | none => simp only [toV] at hb ⊢; exact hm id hb hf
  | .agg l, hb => by simp only [Abs.scrub, toV, scrubs_len] at hb ⊢; exact C.agg _ _ _ fun j hj => KCl.scrubs C hp hs hl hm hu l j (hb j hj)
  | .tup l, hb => by simp only [Abs.scrub, toV, scrubs_len] at hb ⊢; exact C.tup _ _ _ fun j hj => KCl.scrubs C hp hs hl hm hu l j (hb j hj)
  | .fn g l, hb => by simp only [Abs.scrub, toV, scrubs_len] at hb ⊢; exact C.fn _ _ _ _ fun j hj => KCl.scrubs C hp hs hl hm hu l j (hb j hj)
  | .un, _ => by simp only [Abs.scrub, toV]; exact C.un _
  | .und, _ => by simp only [Abs.scrub, toV]; exact C.und
  | .b _, _ => by simp only [Abs.scrub, toV]; exact C.t _
  | .i _ _, _ => by simp only [Abs.scrub, toV]; exact C.t _
  | .s _, _ => by simp only [Abs.scrub, toV]; exact C.t _
  | .fz _ _, _ => by simp only [Abs.scrub, toV]; exact C.t _
  | .fp _ _ _, _ => by simp only [Abs.scrub, toV]; exact C.fp _ _
  | .st _ _, _ => by simp only [Abs.scrub, toV]; exact C.agg _ _ _ fun j _ => C.t _
  | .nils, _ => by simp only [Abs.scrub, toV]; exact C.nils
  | .nilp, _ => by simp only [Abs.scrub, toV]; exact C.nilp
  | .nilm, _ => by simp only [Abs.scrub, toV]; exact C.nilm
  | .nilf, _ => by simp only [Abs.scrub, toV]; exact C.nilf
  | .nili, _ => by simp only [Abs.scrub, toV]; exact C.t _
theorem KCl.scrubs {K : V → V → Prop} (C : KCl K) {H : Heap} {len len' : Len} {f : Nat → List Nat → Option EV} (hp : ∀ id p r c, H.slot ⟨id, p⟩ ≠ .unborn → f id p = none → K (.ptr ⟨id, p⟩ 0 r c) (.ptr ⟨id, p⟩ 0 r c))
    (hs : ∀ id p r n, H.slot ⟨id, p⟩ ≠ .unborn → f id p = none → K (.sref ⟨id, p⟩ 0 r n) (.sref ⟨id, p⟩ 0 r n)) (hl : ∀ id p, H.slot ⟨id, p⟩ ≠ .unborn → f id p = none → len' id p = len id p ∨ ∀ n n', K (.sref ⟨id, p⟩ 0 0 n) (.sref ⟨id, p⟩ 0 0 n'))
    (hm : ∀ id, H.slot ⟨id, []⟩ ≠ .unborn → f id [] = none → K (.mref ⟨id, []⟩) (.mref ⟨id, []⟩)) (hu : ∀ id p u, f id p = some u → u = .un) : ∀ (l : List EV) (j : Nat), Born H (toVs len l j) → K (toVs len l j) (toVs len' (Abs.scrubs f l) j)
  | [], j, _ => by simp only [Abs.scrubs, toVs]; exact C.un _
  | a :: l, 0, hb => by simp only [Abs.scrubs, toVs] at hb ⊢; exact KCl.scrub C hp hs hl hm hu a hb
  | a :: l, j + 1, hb => by simp only [Abs.scrubs, toVs] at hb ⊢; exact KCl.scrubs C hp hs hl hm hu l j hb
end
def renO (g : Nat → Option Nat) : OD → OD
  | .cells e l => .cells e (renEs g l)
  | .lst v => .lst v
  | .mp s τ f => .mp s τ f
  | .dead => .dead
  | .none => .none
  | .hole _ _ _ _ => .dead
theorem renO_len {g : Nat → Option Nat} (o : OD) (p : List Nat) : (renO g o).len p = o.len p := by
  cases o <;> first | rfl | (cases p <;> rfl)

/-! ### Contracts -/
structure CT (P : Program) (f : FuncId) (args : List EV) (H : EHeap) (K : EV → EHeap → Prop) : Prop where
  out : ∀ E ι F w (cargs : Array Value), RelH E ι F (toH H) w → args.length = cargs.size → (∀ j, j < args.length → VRel (toH H) ι F w (toV H.len (nthE args j)) (cargs.getD j undef)) →
    Calls P f cargs w fun e w' => ∃ v ι' F' H' cv, e = .returned cv ∧ RelH E ι' F' (toH H') w' ∧ VRel (toH H') ι' F' w' (toV H'.len v) cv ∧ K v H'
def mkArgs : (l : List (Nat × Sh)) → DT l → List EV
  | [], _ => []
  | (_, a) :: l, x => mkE a x.1 :: mkArgs l x.2
/-- A function's contract: what it computes of data of a shape. -/
structure Ctr (P : Program) where
  f : FuncId
  fnok : FnOk P f
  ar : List (Nat × Sh)
  os : List OSh
  rv : Sh
  ro : List OSh
  F : DT ar → DO os → Option (rv.D × DO ro)
  ok : ∀ x y r, F x y = some r → CT P f (mkArgs ar x) (mkH os.length os y) (fun v H' => v = mkE rv r.1 ∧ H' = mkH os.length ro r.2)

/-! ### Behind the call -/
def ixK : List (Option Nat) → Nat → Option Nat
  | [], _ => none
  | some k :: l, j => bif Nat.beq k j then some 0 else (match ixK l j with
    | some i => some (i + 1)
    | none => none)
  | none :: l, j => match ixK l j with
    | some i => some (i + 1)
    | none => none
theorem ixK_out : ∀ {ks : List (Option Nat)} {j i : Nat}, ixK ks j = some i → nthK ks i = some j
  | [], _, _, h => by cases h
  | some k :: l, j, i, h => by
    simp only [ixK] at h
    cases hb : Nat.beq k j with
    | true => rw [hb] at h; injection h with h; subst h; obtain rfl := natBeq hb; rfl
    | false =>
      rw [hb] at h
      simp only [cond_false] at h
      cases hi : ixK l j with
      | none => rw [hi] at h; cases h
      | some x => rw [hi] at h; injection h with h; subst h; exact ixK_out (ks := l) hi
  | none :: l, j, i, h => by
    simp only [ixK] at h
    cases hi : ixK l j with
    | none => rw [hi] at h; cases h
    | some x => rw [hi] at h; injection h with h; subst h; exact ixK_out (ks := l) hi
theorem ixK_none : ∀ {ks : List (Option Nat)} {j : Nat}, ixK ks j = none → ∀ i, nthK ks i ≠ some j
  | [], _, _, i => by simp [nthK]
  | some k :: l, j, h, i => by
    simp only [ixK] at h
    cases hb : Nat.beq k j with
    | true => rw [hb] at h; cases h
    | false =>
      rw [hb] at h
      simp only [cond_false] at h
      cases hi : ixK l j with
      | some x => rw [hi] at h; cases h
      | none =>
        cases i with
        | zero => intro e; injection e with e; subst e; simp at hb
        | succ i => exact ixK_none (ks := l) hi i
  | none :: l, j, h, i => by
    simp only [ixK] at h
    cases hi : ixK l j with
    | some x => rw [hi] at h; cases h
    | none =>
      cases i with
      | zero => intro e; cases e
      | succ i => exact ixK_none (ks := l) hi i
def ltKs (n : Nat) : List (Option Nat) → Bool
  | [] => true
  | some k :: l => Nat.blt k n && ltKs n l
  | none :: l => ltKs n l
theorem ltKs_out {n : Nat} : ∀ {ks : List (Option Nat)} {i k : Nat}, ltKs n ks = true → nthK ks i = some k → k < n
  | [], _, _, _, h => by cases h
  | some x :: l, 0, k, hl, h => by
    simp only [ltKs, Bool.and_eq_true] at hl
    injection h with h; subst h; exact Nat.le_of_ble_eq_true hl.1
  | none :: l, 0, k, hl, h => by cases h
  | some x :: l, i + 1, k, hl, h => by
    simp only [ltKs, Bool.and_eq_true] at hl
    exact ltKs_out (ks := l) hl.2 h
  | none :: l, i + 1, k, hl, h => ltKs_out (ks := l) hl h
/-- A root of the callee's, under the caller's name. -/
def outK (ks : List (Option Nat)) (n0 : Nat) (i : Nat) : Option Nat := bif Nat.blt i ks.length then nthK ks i else some (n0 + (i - ks.length))
/-- References into what the callee got as a whole are forgotten. -/
def nestF (ks : List (Option Nat)) : Nat → List Nat → Option EV := fun id p => match p with
  | [] => none
  | _ => match ixK ks id with
    | some _ => some .un
    | none => none
def callH (H : EHeap) (ks : List (Option Nat)) (Hl : EHeap) : EHeap := { next := H.next + (Hl.next - ks.length), lo := H.lo, obj := fun j => match ixK ks j with
  | some i => renO (outK ks H.next) (Hl.obj i)
  | none => bif Nat.blt j H.next then scrubO (nestF ks) (H.obj j) else renO (outK ks H.next) (Hl.obj (j - H.next + ks.length)) }
/-- No list that the callee got has another length. -/
def lenOk (H Hl : EHeap) : List (Option Nat) → Nat → Bool
  | [], _ => true
  | some k :: l, i => (match Hl.obj i with
    | .dead => true
    | _ => match H.len k [], Hl.len i [] with
      | some a, some b => decide (b = a)
      | none, none => true
      | _, _ => false) && lenOk H Hl l (i + 1)
  | none :: l, i => lenOk H Hl l (i + 1)
theorem lenOk_out {H Hl : EHeap} : ∀ {ks : List (Option Nat)} {n i k : Nat}, lenOk H Hl ks n = true → nthK ks i = some k → Hl.obj (n + i) = .dead ∨ Hl.len (n + i) [] = H.len k []
  | [], _, _, _, _, h => by cases h
  | some x :: l, n, 0, k, hl, h => by
    simp only [lenOk, Bool.and_eq_true] at hl
    injection h with h; subst h
    have hl := hl.1
    rw [Nat.add_zero]
    split at hl
    · rename_i e; exact .inl e
    · right
      split at hl
      · rename_i a b e1 e2; rw [e1, e2, of_decide_eq_true hl]
      · rename_i e1 e2; rw [e1, e2]
      · cases hl
  | none :: l, n, 0, k, hl, h => by cases h
  | some x :: l, n, i + 1, k, hl, h => by
    simp only [lenOk, Bool.and_eq_true] at hl
    have := lenOk_out (ks := l) (n := n + 1) (i := i) hl.2 h
    rwa [Nat.add_assoc, Nat.add_comm 1 i] at this
  | none :: l, n, i + 1, k, hl, h => by
    have := lenOk_out (ks := l) (n := n + 1) (i := i) hl h
    rwa [Nat.add_assoc, Nat.add_comm 1 i] at this
end
end Go.Abs
