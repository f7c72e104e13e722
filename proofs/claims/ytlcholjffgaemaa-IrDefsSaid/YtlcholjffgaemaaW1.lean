/-
What functions compute: definitions of values.
No statement of the program is proved here.
-/
import Derived.Test.YtlcholjffgaemaaV9
set_option linter.unusedVariables false
set_option linter.unusedSectionVars false
set_option linter.unusedSimpArgs false
set_option maxHeartbeats 1000000
namespace Go.Abs
open Go Go.Proofs
noncomputable section
def ann22 : Ann := (.seq .o (.seq .o (.join ⟨[(3, (.i .i64))], []⟩ (.seq .o (.block (.loop ⟨[(3, (.i .i64)), (7, (.fz (.st 3))), (8, (.i .i64)), (9, (.i .i64))], []⟩ [((.exit 0), ⟨[(3, (.i .i64))], []⟩)] (.seq .o (.join ⟨[(3, (.i .i64)), (7, (.fz (.st 3))), (8, (.i .i64)), (9, (.i .i64))], []⟩ (.cond .o .o) (.join ⟨[(3, (.i .i64)), (7, (.fz (.st 3))), (8, (.i .i64)), (9, (.i .i64))], []⟩ (.block (.seq .o .o)) .o)))))) (.seq .o .o))))
def go22_l1 : ((Int × ((List Block) × (Int × (Int × Unit)))) × Unit) → Option (((Int × ((List Block) × (Int × (Int × Unit)))) × Unit) ⊕ ((Int × Unit) × Unit)) := (fun (r0 : ((Int × ((List Block) × (Int × (Int × Unit)))) × Unit)) => (bif (decide (r0.1.2.2.2.1 < r0.1.2.2.1)) then
      (grd (okB (((0 : Int) ≤ r0.1.2.2.2.1) ∧ (r0.1.2.2.2.1 < ((r0.1.2.1.length : Nat) : Int))))
        (grd (okB (((-(9223372036854775808 : Int)) ≤ (r0.1.1 + (((r0.1.2.1.getD r0.1.2.2.2.1.toNat Block.z).insts.length : Nat) : Int))) ∧ ((r0.1.1 + (((r0.1.2.1.getD r0.1.2.2.2.1.toNat Block.z).insts.length : Nat) : Int)) ≤ (9223372036854775807 : Int))))
          (grd (okB (((-(9223372036854775808 : Int)) ≤ (r0.1.2.2.2.1 + (1 : Int))) ∧ ((r0.1.2.2.2.1 + (1 : Int)) ≤ (9223372036854775807 : Int))))
            (some (Sum.inl (((r0.1.1 + (((r0.1.2.1.getD r0.1.2.2.2.1.toNat Block.z).insts.length : Nat) : Int)), (r0.1.2.1, (r0.1.2.2.1, ((r0.1.2.2.2.1 + (1 : Int)), ())))), ()))))))
      else
      (some (Sum.inr ((r0.1.1, ()), ())))))
def go22 (x0 : Fn) : (Option (Int × Unit)) :=
  (callB (whileO (go22_l1) (((0 : Int), (x0.blocks, (((x0.blocks.length : Nat) : Int), ((0 : Int), ())))), ()))
    (fun (z0 : ((Int × Unit) × Unit)) => (some (z0.1.1, ()))))
theorem run22 (x0 : Fn) : runF (P := Try.prog) [] Try.f22 ann22 [(0, (.st 6))] [] (.i .i64) [] (x0, ()) () = go22 x0 := by kernel_rfl
def ann52 : Ann := (.seq .o (.join ⟨[], []⟩ (.seq .o (.block (.loop ⟨[(0, (.fz (.int .i64))), (1, (.i .i64)), (7, (.i .i64)), (8, (.i .i64))], []⟩ [((.exit 0), ⟨[], []⟩), (.ret, ⟨[(4, (.i .i64))], []⟩)] (.seq .o (.join ⟨[(0, (.fz (.int .i64))), (1, (.i .i64)), (7, (.i .i64)), (8, (.i .i64))], []⟩ (.cond .o .o) (.join ⟨[(0, (.fz (.int .i64))), (1, (.i .i64)), (7, (.i .i64)), (8, (.i .i64))], []⟩ (.block (.seq .o (.seq .o (.cond (.seq .o .o) .o)))) .o)))))) (.seq .o .o)))
def go52_l1 : (((List Int) × (Int × (Int × (Int × Unit)))) × Unit) → Option ((((List Int) × (Int × (Int × (Int × Unit)))) × Unit) ⊕ ((Unit × Unit) ⊕ ((Int × Unit) × Unit))) := (fun (r0 : (((List Int) × (Int × (Int × (Int × Unit)))) × Unit)) => (bif (decide (r0.1.2.2.2.1 < r0.1.2.2.1)) then
      (grd (okB (((0 : Int) ≤ r0.1.2.2.2.1) ∧ (r0.1.2.2.2.1 < ((r0.1.1.length : Nat) : Int))))
        (bif (decide (r0.1.2.1 = (r0.1.1.getD r0.1.2.2.2.1.toNat (0 : Int)))) then
          (some (Sum.inr (Sum.inr ((r0.1.2.2.2.1, ()), ()))))
          else
          (grd (okB (((-(9223372036854775808 : Int)) ≤ (r0.1.2.2.2.1 + (1 : Int))) ∧ ((r0.1.2.2.2.1 + (1 : Int)) ≤ (9223372036854775807 : Int))))
            (some (Sum.inl ((r0.1.1, (r0.1.2.1, (r0.1.2.2.1, ((r0.1.2.2.2.1 + (1 : Int)), ())))), ()))))))
      else
      (some (Sum.inr (Sum.inl ((), ()))))))
def go52 (x0 : (List Int)) (x1 : Int) : (Option (Int × Unit)) :=
  (callB (whileO (go52_l1) ((x0, (x1, (((x0.length : Nat) : Int), ((0 : Int), ())))), ()))
    (fun (z0 : ((Unit × Unit) ⊕ ((Int × Unit) × Unit))) => (sumO (fun (z1 : (Unit × Unit)) => (some ((-(1 : Int)), ())))
        (fun (z1 : ((Int × Unit) × Unit)) => (some (z1.1.1, ()))) z0)))
theorem run52 (x0 : (List Int)) (x1 : Int) : runF (P := Try.prog) [] Try.f52 ann52 [(0, (.fz (.int .i64))), (1, (.i .i64))] [] (.i .i64) [] (x0, (x1, ())) () = go52 x0 x1 := by kernel_rfl
def ann53 : Ann := (.seq .o (.seq .o .o))
def go53 (x0 : Int) : (Option (Bool × Unit)) :=
  (bif (!(decide (x0 = (26 : Int)))) then
    (some ((!(decide (x0 = (28 : Int)))), ()))
    else
    (some (false, ())))
theorem run53 (x0 : Int) : runF (P := Try.prog) [] Try.f53 ann53 [(0, (.i .i64))] [] .b [] (x0, ()) () = go53 x0 := by kernel_rfl

/-- The first of so many from i on. -/
def findI (p : Nat → Bool) : Nat → Nat → Option Nat
  | 0, _ => none
  | n + 1, i => if p i = true then some i else findI p n (i + 1)
theorem findI_some {p : Nat → Bool} : ∀ {n i k : Nat}, findI p n i = some k → i ≤ k ∧ k < i + n ∧ p k = true ∧ ∀ j, i ≤ j → j < k → p j = false
  | 0, i, k, h => by cases h
  | n + 1, i, k, h => by
    simp only [findI] at h
    split at h
    · rename_i hp
      injection h with h
      subst h
      exact ⟨Nat.le_refl _, by omega, hp, fun j h1 h2 => by omega⟩
    · rename_i hp
      obtain ⟨h1, h2, h3, h4⟩ := findI_some h
      refine ⟨by omega, by omega, h3, fun j h5 h6 => ?_⟩
      by_cases e : j = i
      · subst e; simpa using hp
      · exact h4 j (by omega) h6
theorem findI_none {p : Nat → Bool} : ∀ {n i : Nat}, findI p n i = none → ∀ j, i ≤ j → j < i + n → p j = false
  | 0, i, h, j, h1, h2 => by omega
  | n + 1, i, h, j, h1, h2 => by
    simp only [findI] at h
    split at h
    · cases h
    · rename_i hp
      by_cases e : j = i
      · subst e; simpa using hp
      · exact findI_none h j (by omega) (by omega)
/-- A loop that looks for the first. -/
theorem whileO_find {D X : Type} {f : D → Option (D ⊕ X)} {st : Nat → D} {y0 : D} (hy : y0 = st 0) (n : Nat) (p : Nat → Bool) (A : X) (B : Nat → X) (h1 : ∀ i, i < n → p i = true → f (st i) = some (.inr (B i))) (h2 : ∀ i, i < n → p i = false → f (st i) = some (.inl (st (i + 1))))
    (h3 : f (st n) = some (.inr A)) : whileO f y0 = some (elimO (findI p n 0) B A) := by
  subst hy
  have key : ∀ k i, i + k = n → whileO f (st i) = some (elimO (findI p k i) B A) := by
    intro k
    induction k with
    | zero => intro i hi; rw [whileO_eq, show i = n by omega, h3]; rfl
    | succ k ih =>
      intro i hi
      rw [whileO_eq]
      simp only [findI]
      cases hp : p i with
      | true => rw [h1 i (by omega) hp]; rfl
      | false => rw [h2 i (by omega) hp]; exact ih (i + 1) (by omega)
  exact key n 0 (by omega)
def Sp.index (l : List Int) (v : Int) : Int := elimO (findI (fun i => decide (v = l.getD i 0)) l.length 0) (fun i => (i : Int)) (-1)
theorem ok52 (l : List Int) (v : Int) (hl : l.length ≤ LEN) : go52 l v = some (Sp.index l v, ()) := by
  rw [lenVal] at hl
  unfold go52 go52_l1 Sp.index
  refine callB_of (whileO_find (st := fun i => ((l, v, ((l.length : Nat) : Int), (i : Int), ()), ())) rfl l.length (fun i => decide (v = l.getD i 0)) (.inl ((), ())) (fun i => .inr (((i : Int), ()), ())) (fun i hi hp => ?_) (fun i hi hp => ?_) ?_) ?_
  · have hp := of_decide_eq_true hp
    simp (maxSteps := 1000000) (disch := ((try dsimp only); omega)) only [↓grd_dec, ↓grd_blt, ↓grd_true, ↓jpO_eq, ↓callB_some, ↓callB_grd, ↓bif_decide, ↓sumO_inl, ↓sumO_inr, ↓if_pos, ↓if_neg, ↓cond_true, ↓cond_false, ↓bif_not, Int.toNat_natCast, Bool.not_true, Bool.not_false, decide_true, decide_false, Bool.false_eq_true, ↓if_true, ↓if_false, Int.natCast_add, Int.cast_ofNat_Int, Bool.not_eq_true', decide_eq_false_iff_not, not_true_eq_false, not_false_eq_true]
  · have hp := of_decide_eq_false hp
    simp (maxSteps := 1000000) (disch := ((try dsimp only); omega)) only [↓grd_dec, ↓grd_blt, ↓grd_true, ↓jpO_eq, ↓callB_some, ↓callB_grd, ↓bif_decide, ↓sumO_inl, ↓sumO_inr, ↓if_pos, ↓if_neg, ↓cond_true, ↓cond_false, ↓bif_not, Int.toNat_natCast, Bool.not_true, Bool.not_false, decide_true, decide_false, Bool.false_eq_true, ↓if_true, ↓if_false, Int.natCast_add, Int.cast_ofNat_Int, Bool.not_eq_true', decide_eq_false_iff_not, not_true_eq_false, not_false_eq_true]
  · simp (maxSteps := 1000000) (disch := ((try dsimp only); omega)) only [↓grd_dec, ↓grd_blt, ↓grd_true, ↓jpO_eq, ↓callB_some, ↓callB_grd, ↓bif_decide, ↓sumO_inl, ↓sumO_inr, ↓if_pos, ↓if_neg, ↓cond_true, ↓cond_false, ↓bif_not, Int.toNat_natCast, Bool.not_true, Bool.not_false, decide_true, decide_false, Bool.false_eq_true, ↓if_true, ↓if_false, Int.natCast_add, Int.cast_ofNat_Int, Bool.not_eq_true', decide_eq_false_iff_not, not_true_eq_false, not_false_eq_true]
  · cases findI (fun i => decide (v = l.getD i 0)) l.length 0 <;> rfl
def c52 : Ctr Try.prog := mkCtr 52 Try.f52 Try.func52 [] ann52 [(0, (.fz (.int .i64))), (1, (.i .i64))] [] (.i .i64) [] (fun x _ => grd (okB (x.1.length ≤ LEN)) (some (Sp.index x.1 x.2.1, ()))) (fun x _ r h => FO (run52 x.1 x.2.1) (ok52 x.1 x.2.1) h)
/-- Does an instruction name a value? (The program's own.) -/
def Sp.named (op : Int) : Bool := !decide (op = 26) && !decide (op = 28)
theorem ok53 (op : Int) : go53 op = some (Sp.named op, ()) := by
  unfold go53 Sp.named
  by_cases h : op = 26 <;> simp [h]
def c53 : Ctr Try.prog := mkCtr 53 Try.f53 Try.func53 [] ann53 [(0, (.i .i64))] [] .b [] (fun x _ => some (Sp.named x.1, ())) (fun x _ r h => FE (run53 x.1) (ok53 x.1) h)
/-- Not too long for sums of lengths. -/
def Fn.short (f : Fn) : Prop := f.blocks.length ≤ 1024 ∧ ∀ i, i < f.blocks.length → (f.blk i).insts.length ≤ 4096
def Sp.sizeL (l : List Block) : Nat → Int
  | 0 => 0
  | i + 1 => Sp.sizeL l i + ((l.getD i Block.z).insts.length : Int)
theorem sizeL_le {f : Fn} (h : f.short) : ∀ i, i ≤ f.blocks.length → 0 ≤ Sp.sizeL f.blocks i ∧ Sp.sizeL f.blocks i ≤ 4096 * i
  | 0, _ => by simp [Sp.sizeL]
  | i + 1, hi => by
    have := sizeL_le h i (by omega)
    have h2 := h.2 i (by omega)
    simp only [Sp.sizeL]
    have e : (f.blk i).insts.length = (f.blocks.getD i Block.z).insts.length := rfl
    omega
theorem ok22 (f : Fn) (h : f.short) : go22 f = some (Sp.sizeL f.blocks f.blocks.length, ()) := by
  have h0 := h.1
  unfold go22 go22_l1
  refine callB_of (whileO_to (st := fun i => ((Sp.sizeL f.blocks i, f.blocks, ((f.blocks.length : Nat) : Int), (i : Int), ()), ())) rfl f.blocks.length (X0 := ((Sp.sizeL f.blocks f.blocks.length, ()), ())) (fun i hi => ?_) ?_) ?_
  · have h1 := sizeL_le h i (by omega)
    have h2 := sizeL_le h (i + 1) (by omega)
    simp only [Sp.sizeL] at h2
    simp (maxSteps := 1000000) (disch := ((try dsimp only); omega)) only [↓grd_dec, ↓grd_blt, ↓grd_true, ↓jpO_eq, ↓callB_some, ↓callB_grd, ↓bif_decide, ↓sumO_inl, ↓sumO_inr, ↓if_pos, ↓if_neg, ↓cond_true, ↓cond_false, ↓bif_not, Int.toNat_natCast, Bool.not_true, Bool.not_false, decide_true, decide_false, Bool.false_eq_true, ↓if_true, ↓if_false, Int.natCast_add, Int.cast_ofNat_Int, Bool.not_eq_true', decide_eq_false_iff_not, not_true_eq_false, not_false_eq_true]
    rfl
  · simp (maxSteps := 1000000) (disch := ((try dsimp only); omega)) only [↓grd_dec, ↓grd_blt, ↓grd_true, ↓jpO_eq, ↓callB_some, ↓callB_grd, ↓bif_decide, ↓sumO_inl, ↓sumO_inr, ↓if_pos, ↓if_neg, ↓cond_true, ↓cond_false, ↓bif_not, Int.toNat_natCast, Bool.not_true, Bool.not_false, decide_true, decide_false, Bool.false_eq_true, ↓if_true, ↓if_false, Int.natCast_add, Int.cast_ofNat_Int, Bool.not_eq_true', decide_eq_false_iff_not, not_true_eq_false, not_false_eq_true]
  · rfl
def c22 : Ctr Try.prog := mkCtr 22 Try.f22 Try.func22 [] ann22 [(0, (.st 6))] [] (.i .i64) [] (fun x _ => grd (okB x.1.short) (some (Sp.sizeL x.1.blocks x.1.blocks.length, ()))) (fun x _ r h => FO (run22 x.1) (ok22 x.1) h)
end
end Go.Abs
