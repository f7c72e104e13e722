/-
What functions compute: the law IrLoops.
No statement of the program is proved here.
-/
import Derived.Test.YtlcholjffgaemaaV8
set_option linter.unusedVariables false
set_option linter.unusedSectionVars false
set_option linter.unusedSimpArgs false
set_option maxHeartbeats 1000000
namespace Go.Abs
open Go Go.Proofs
noncomputable section
def ann4 : Ann := (.seq .o (.join ⟨[(1, (.i .i64)), (2, (.ptr 0 0))], [(.box 30 (.st 6))]⟩ (.seq .o (.cond (.seq .o .o) .o)) (.join ⟨[(1, (.i .i64)), (2, (.ptr 0 0))], [(.box 30 (.st 6))]⟩ (.seq .o (.block (.loop ⟨[(1, (.i .i64)), (2, (.ptr 0 0)), (5, (.i .i64))], [(.box 30 (.st 6))]⟩ [((.exit 0), ⟨[(1, (.i .i64)), (2, (.ptr 0 0))], [(.box 30 (.st 6))]⟩), (.ret, ⟨[(4, .b)], []⟩)] (.join ⟨[(1, (.i .i64)), (2, (.ptr 0 0)), (5, (.i .i64))], [(.box 30 (.st 6))]⟩ (.seq .o (.cond .o .o)) (.join ⟨[(1, (.i .i64)), (2, (.ptr 0 0)), (5, (.i .i64))], [(.box 30 (.st 6))]⟩ (.block (.seq .o (.seq .o (.seq .o (.cond (.seq .o .o) .o))))) .o))))) (.seq .o (.seq .o .o)))))
def go4_l1 : ((Int × (Unit × (Int × Unit))) × (Fn × Unit)) → Option (((Int × (Unit × (Int × Unit))) × (Fn × Unit)) ⊕ (((Int × (Unit × Unit)) × (Fn × Unit)) ⊕ ((Bool × Unit) × Unit))) := (fun (r2 : ((Int × (Unit × (Int × Unit))) × (Fn × Unit))) => (bif (decide (r2.1.2.2.1 ≤ ((r2.2.1.blocks.length : Nat) : Int))) then
      (callB (grd (okB (Fn.two r2.2.1))
          (some (((Sp.sel (Sp.selfLoop r2.2.1 r2.1.2.2.1)), ((decide ((0 : Int) ≤ (Sp.selfLoop r2.2.1 r2.1.2.2.1))), ())), ())))
        (fun (r3 : ((Int × (Bool × Unit)) × Unit)) => (callB (grd (okB (Fn.two r2.2.1))
              (some ((Sp.selfLoop r2.2.1 r2.1.2.2.1), ())))
            (fun (r4 : (Int × Unit)) => (bif (!(r3.1.2.1 == (decide ((0 : Int) ≤ r4.1)))) then
                (some (Sum.inr (Sum.inr ((false, ()), ()))))
                else
                (bif (!(decide (r3.1.1 = (if ((0 : Int) > r4.1) then (0 : Int) else r4.1)))) then
                  (some (Sum.inr (Sum.inr ((false, ()), ()))))
                  else
                  (grd (okB (((-(9223372036854775808 : Int)) ≤ (r2.1.2.2.1 + (1 : Int))) ∧ ((r2.1.2.2.1 + (1 : Int)) ≤ (9223372036854775807 : Int))))
                    (some (Sum.inl ((r2.1.1, ((), ((r2.1.2.2.1 + (1 : Int)), ()))), (r2.2.1, ())))))))))))
      else
      (some (Sum.inr (Sum.inl ((r2.1.1, ((), ())), (r2.2.1, ())))))))
def go4 (x0 : Fn) (x1 : Int) : (Option (Bool × Unit)) :=
  (callB (grd (okB (Fn.ok x0))
      (some ((Sp.few x0), ())))
    (fun (r0 : (Bool × Unit)) => (bif (!r0.1) then
        (some (true, ()))
        else
        (callB (grd (okB (Fn.ok x0))
            (some ((Sp.valid x0), ())))
          (fun (r1 : (Bool × Unit)) => (bif (!r1.1) then
              (some (true, ()))
              else
              (callB (whileO (go4_l1) ((x1, ((), ((-(1 : Int)), ()))), (x0, ())))
                (fun (z0 : (((Int × (Unit × Unit)) × (Fn × Unit)) ⊕ ((Bool × Unit) × Unit))) => (sumO (fun (z1 : ((Int × (Unit × Unit)) × (Fn × Unit))) => (callB (grd (okB (Fn.two z1.2.1))
                          (some (((Sp.sel (Sp.selfLoop z1.2.1 z1.1.1)), ((decide ((0 : Int) ≤ (Sp.selfLoop z1.2.1 z1.1.1))), ())), ())))
                        (fun (r2 : ((Int × (Bool × Unit)) × Unit)) => (callB (grd (okB (Fn.two z1.2.1))
                              (some ((Sp.selfLoop z1.2.1 z1.1.1), ())))
                            (fun (r3 : (Int × Unit)) => (some ((r2.1.2.1 == (decide ((0 : Int) ≤ r3.1))), ())))))))
                    (fun (z1 : ((Bool × Unit) × Unit)) => (some (z1.1.1, ()))) z0)))))))))
theorem run4 (x0 : Fn) (x1 : Int) : runF (P := Try.prog) [c12, c17, c18, c19, c20] Try.f4 ann4 [(0, (.st 6)), (1, (.i .i64))] [] .b [] (x0, (x1, ())) () = go4 x0 x1 := by kernel_rfl

theorem foldO_all {σ α : Type} {g : σ → α → Option σ} : ∀ (l : List α) (s s' : σ), foldO g l s = some s' → ∀ a ∈ l, ∃ s1 s2, g s1 a = some s2
  | [], s, s', h, a, ha => by cases ha
  | b :: l, s, s', h, a, ha => by
    simp only [foldO] at h
    cases hg : g s b with
    | none => rw [hg] at h; cases h
    | some s1 =>
      rw [hg] at h
      rcases List.mem_cons.1 ha with rfl | ha
      · exact ⟨s, s1, hg⟩
      · exact foldO_all l s1 s' h a ha
theorem valid_two {f : Fn} (h : Sp.valid f = true) : f.two := by
  simp only [Sp.valid, Bool.and_eq_true] at h
  obtain ⟨d, hd⟩ := Option.isSome_iff_exists.1 h.2
  intro i hi hk
  have hm : f.blk i ∈ f.blocks := by
    have : f.blk i = f.blocks[i] := by simp [Fn.blk, List.getD_eq_getElem?_getD, hi]
    rw [this]; exact List.getElem_mem hi
  obtain ⟨s1, s2, hg⟩ := foldO_all _ _ _ hd _ hm
  simp only [Sp.blkStep] at hg
  split at hg
  · split at hg
    · split at hg
      · split at hg
        · rename_i ht
          simp only [Sp.termOk, Bool.and_eq_true, decide_eq_true_eq] at ht
          have := ht.1.1.2.1
          rw [hk] at this
          simp only [Sp.sizeOfKind] at this
          have e : ((f.blk i).term.to.length : Int) = 2 := by simpa using this
          omega
        · cases hg
      · cases hg
    · cases hg
  · cases hg
theorem ok4 (f : Fn) (at_ : Int) (hf : f.ok) : go4 f at_ = some (true, ()) := by
  have hb := Fn.ok_blocks hf
  rw [lenVal] at hb
  unfold go4
  rw [grd_ok hf, grd_ok hf]
  cases h1 : Sp.few f with
  | false => rfl
  | true =>
    cases h2 : Sp.valid f with
    | false => rfl
    | true =>
      have h3 := valid_two h2
      simp (maxSteps := 1000000) (disch := ((try dsimp only); omega)) only [↓grd_dec, ↓grd_blt, ↓grd_true, ↓jpO_eq, ↓callB_some, ↓callB_grd, ↓bif_decide, ↓sumO_inl, ↓sumO_inr, ↓if_pos, ↓if_neg, ↓cond_true, ↓cond_false, ↓bif_not, Int.toNat_natCast, Bool.not_true, Bool.not_false, decide_true, decide_false, Bool.false_eq_true, ↓if_true, ↓if_false, Int.natCast_add, Int.cast_ofNat_Int, Bool.not_eq_true', decide_eq_false_iff_not, not_true_eq_false, not_false_eq_true]
      unfold go4_l1
      refine callB_of (whileO_to (st := fun i => ((at_, (), (i : Int) - 1, ()), f, ())) (by simp) (f.blocks.length + 2) (X0 := .inl ((at_, (), ()), f, ())) (fun i hi => ?_) ?_) ?_
      · simp (maxSteps := 1000000) (disch := ((try dsimp only); omega)) only [↓grd_dec, ↓grd_blt, ↓grd_true, ↓jpO_eq, ↓callB_some, ↓callB_grd, ↓bif_decide, ↓sumO_inl, ↓sumO_inr, ↓if_pos, ↓if_neg, ↓cond_true, ↓cond_false, ↓bif_not, Int.toNat_natCast, Bool.not_true, Bool.not_false, decide_true, decide_false, Bool.false_eq_true, ↓if_true, ↓if_false, Int.natCast_add, Int.cast_ofNat_Int, Bool.not_eq_true', decide_eq_false_iff_not, not_true_eq_false, not_false_eq_true]
        simp only [beq_self_eq_true, Sp.sel, gt_iff_lt]
        have e : (i : Int) + 1 - 1 = (i : Int) - 1 + 1 := by omega
        simp (maxSteps := 1000000) (disch := ((try dsimp only); omega)) only [↓grd_dec, ↓grd_blt, ↓grd_true, ↓jpO_eq, ↓callB_some, ↓callB_grd, ↓bif_decide, ↓sumO_inl, ↓sumO_inr, ↓if_pos, ↓if_neg, ↓cond_true, ↓cond_false, ↓bif_not, Int.toNat_natCast, Bool.not_true, Bool.not_false, decide_true, decide_false, Bool.false_eq_true, ↓if_true, ↓if_false, Int.natCast_add, Int.cast_ofNat_Int, Bool.not_eq_true', decide_eq_false_iff_not, not_true_eq_false, not_false_eq_true]
        rw [e]
      · simp (maxSteps := 1000000) (disch := ((try dsimp only); omega)) only [↓grd_dec, ↓grd_blt, ↓grd_true, ↓jpO_eq, ↓callB_some, ↓callB_grd, ↓bif_decide, ↓sumO_inl, ↓sumO_inr, ↓if_pos, ↓if_neg, ↓cond_true, ↓cond_false, ↓bif_not, Int.toNat_natCast, Bool.not_true, Bool.not_false, decide_true, decide_false, Bool.false_eq_true, ↓if_true, ↓if_false, Int.natCast_add, Int.cast_ofNat_Int, Bool.not_eq_true', decide_eq_false_iff_not, not_true_eq_false, not_false_eq_true]
      · simp (maxSteps := 1000000) (disch := ((try dsimp only); omega)) only [↓grd_dec, ↓grd_blt, ↓grd_true, ↓jpO_eq, ↓callB_some, ↓callB_grd, ↓bif_decide, ↓sumO_inl, ↓sumO_inr, ↓if_pos, ↓if_neg, ↓cond_true, ↓cond_false, ↓bif_not, Int.toNat_natCast, Bool.not_true, Bool.not_false, decide_true, decide_false, Bool.false_eq_true, ↓if_true, ↓if_false, Int.natCast_add, Int.cast_ofNat_Int, Bool.not_eq_true', decide_eq_false_iff_not, not_true_eq_false, not_false_eq_true]
        simp
def c4 : Ctr Try.prog := mkCtr 4 Try.f4 Try.func4 [c12, c17, c18, c19, c20] ann4 [(0, (.st 6)), (1, (.i .i64))] [] .b [] (fun x _ => grd (okB x.1.ok) (some (true, ()))) (fun x _ r h => FO (run4 x.1 x.2.1) (ok4 x.1 x.2.1) h)
theorem irLoops_pc (f : Fn) (hf : f.ok) (a : Int) (ha : I64 a) : PC Try.prog 4 [f.v, .t (.int .i64 a)] (.t (.bool true)) := by
  have h := Ctr.pc (c := c4) (us := [.st 6 f, .i .i64 a]) (z := ⟨[], (f, a, ()), ()⟩) rfl rfl (res := (true, ())) (grd_ok hf)
  simp only [List.map_cons, List.map_nil, toV, mkE] at h
  exact h
end
end Go.Abs
