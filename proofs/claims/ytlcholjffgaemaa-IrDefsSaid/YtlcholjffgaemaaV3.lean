/-
What functions compute: edges, memories, words.
No statement of the program is proved here.
-/
import Derived.Test.YtlcholjffgaemaaV2
set_option linter.unusedVariables false
set_option linter.unusedSectionVars false
set_option linter.unusedSimpArgs false
set_option maxHeartbeats 1000000
namespace Go.Abs
open Go Go.Proofs
noncomputable section
def ann12 : Ann := (.seq .o (.seq .o .o))
def go12  : (Option (Bool × Unit)) :=
  (bif (decide ((Sp.arity (21 : Int)) = (3 : Int))) then
    (some ((Sp.pureOp (2 : Int)), ()))
    else
    (some (false, ())))
theorem run12  : runF (P := Try.prog) [c13, c15] Try.f12 ann12 [] [] .b [] () () = go12 := by kernel_rfl
def ann49 : Ann := (.seq .o (.seq .o .o))
def go49 (x0 : Int) : (Option (Bool × Unit)) :=
  (bif (decide ((0 : Int) ≤ (Sp.arity x0))) then
    (bif (!(decide (x0 = (26 : Int)))) then
      (some ((!(decide (x0 = (28 : Int)))), ()))
      else
      (some (false, ())))
    else
    (some (false, ())))
theorem run49 (x0 : Int) : runF (P := Try.prog) [c14] Try.f49 ann49 [(0, (.i .i64))] [] .b [] (x0, ()) () = go49 x0 := by kernel_rfl
def ann93 : Ann := (.seq .o (.seq .o .o))
def go93 (x0 : Int) (x1 : Int) : (Option (Int × Unit)) :=
  (callB (grd (okB ((Sp.bitsL x1 (Sp.width x0).toNat).length ≤ LEN))
      (some ((Sp.wd (Sp.bitsL x1 (Sp.width x0).toNat) (Sp.bitsL x1 (Sp.width x0).toNat).length), ())))
    (fun (r0 : (Int × Unit)) => (some (r0.1, ()))))
theorem run93 (x0 : Int) (x1 : Int) : runF (P := Try.prog) [c76, c79] Try.f93 ann93 [(0, (.i .i64)), (1, (.i .u64))] [] (.i .u64) [] (x0, (x1, ())) () = go93 x0 x1 := by kernel_rfl
def ann95 : Ann := (.seq .o (.join ⟨[(3, (.ptr 0 0)), (4, (.ptr 1 0))], [(.box 30 (.st 6)), (.box 51 (.st 1))]⟩ (.seq .o (.cond (.seq .o .o) .o)) (.seq .o (.join ⟨[(3, (.ptr 0 0)), (4, (.ptr 1 0)), (7, (.fz (.int .i64)))], [(.box 30 (.st 6)), (.box 51 (.st 1))]⟩ (.seq .o (.cond (.seq .o .o) .o)) (.join ⟨[], []⟩ (.seq .o (.block (.loop ⟨[(3, (.ptr 0 0)), (4, (.ptr 1 0)), (7, (.fz (.int .i64))), (8, (.i .i64))], [(.box 30 (.st 6)), (.box 51 (.st 1))]⟩ [((.exit 0), ⟨[], []⟩), (.ret, ⟨[(6, .b)], []⟩)] (.join ⟨[(3, (.ptr 0 0)), (4, (.ptr 1 0)), (7, (.fz (.int .i64))), (8, (.i .i64))], [(.box 30 (.st 6)), (.box 51 (.st 1))]⟩ (.seq .o (.cond .o .o)) (.join ⟨[(3, (.ptr 0 0)), (4, (.ptr 1 0)), (7, (.fz (.int .i64))), (8, (.i .i64))], [(.box 30 (.st 6)), (.box 51 (.st 1))]⟩ (.block (.seq .o (.cond (.seq .o .o) .o))) .o))))) (.seq .o .o))))))
def go95_l1 : ((Unit × (Unit × ((List Int) × (Int × Unit)))) × (Fn × (Edge × Unit))) → Option (((Unit × (Unit × ((List Int) × (Int × Unit)))) × (Fn × (Edge × Unit))) ⊕ ((Unit × Unit) ⊕ ((Bool × Unit) × Unit))) := (fun (r1 : ((Unit × (Unit × ((List Int) × (Int × Unit)))) × (Fn × (Edge × Unit)))) => (bif (decide (r1.1.2.2.2.1 < ((r1.1.2.2.1.length : Nat) : Int))) then
      (grd (okB (((0 : Int) ≤ r1.1.2.2.2.1) ∧ (r1.1.2.2.2.1 < ((r1.1.2.2.1.length : Nat) : Int))))
        (bif (!(Sp.within r1.2.1 (r1.1.2.2.1.getD r1.1.2.2.2.1.toNat (0 : Int)))) then
          (some (Sum.inr (Sum.inr ((false, ()), ()))))
          else
          (grd (okB (((0 : Int) ≤ r1.1.2.2.2.1) ∧ (r1.1.2.2.2.1 < ((r1.1.2.2.1.length : Nat) : Int))))
            (grd (okB (((0 : Int) ≤ (r1.1.2.2.1.getD r1.1.2.2.2.1.toNat (0 : Int))) ∧ ((r1.1.2.2.1.getD r1.1.2.2.2.1.toNat (0 : Int)) < ((r1.2.1.widths.length : Nat) : Int))))
              (grd (okB (((0 : Int) ≤ r1.1.2.2.2.1) ∧ (r1.1.2.2.2.1 < ((r1.2.2.1.args.length : Nat) : Int))))
                (grd (okB (((0 : Int) ≤ (r1.2.2.1.args.getD r1.1.2.2.2.1.toNat (0 : Int))) ∧ ((r1.2.2.1.args.getD r1.1.2.2.2.1.toNat (0 : Int)) < ((r1.2.1.widths.length : Nat) : Int))))
                  (bif (!(decide ((r1.2.1.widths.getD (r1.1.2.2.1.getD r1.1.2.2.2.1.toNat (0 : Int)).toNat (0 : Int)) = (r1.2.1.widths.getD (r1.2.2.1.args.getD r1.1.2.2.2.1.toNat (0 : Int)).toNat (0 : Int))))) then
                    (some (Sum.inr (Sum.inr ((false, ()), ()))))
                    else
                    (grd (okB (((-(9223372036854775808 : Int)) ≤ (r1.1.2.2.2.1 + (1 : Int))) ∧ ((r1.1.2.2.2.1 + (1 : Int)) ≤ (9223372036854775807 : Int))))
                      (some (Sum.inl (((), ((), (r1.1.2.2.1, ((r1.1.2.2.2.1 + (1 : Int)), ())))), (r1.2.1, (r1.2.2.1, ())))))))))))))
      else
      (some (Sum.inr (Sum.inl ((), ()))))))
def go95 (x0 : Fn) (x1 : Edge) (x2 : (List Bool)) : (Option (Bool × Unit)) :=
  (bif (decide (x1.block < (1 : Int))) then
    (some (false, ()))
    else
    (bif (decide (((x0.blocks.length : Nat) : Int) ≤ x1.block)) then
      (some (false, ()))
      else
      (callB (grd (okB ((x1.args.length ≤ LEN) ∧ (x2.length = x0.widths.length)))
          (some ((Sp.used x0 x1.args x2), ())))
        (fun (r0 : (Bool × Unit)) => (bif (!r0.1) then
            (some (false, ()))
            else
            (grd (okB (((0 : Int) ≤ x1.block) ∧ (x1.block < ((x0.blocks.length : Nat) : Int))))
              (bif (!(decide ((((x0.blocks.getD x1.block.toNat Block.z).params.length : Nat) : Int) = ((x1.args.length : Nat) : Int)))) then
                (some (false, ()))
                else
                (callB (whileO (go95_l1) (((), ((), ((x0.blocks.getD x1.block.toNat Block.z).params, ((0 : Int), ())))), (x0, (x1, ()))))
                  (fun (z0 : ((Unit × Unit) ⊕ ((Bool × Unit) × Unit))) => (sumO (fun (z1 : (Unit × Unit)) => (some (true, ())))
                      (fun (z1 : ((Bool × Unit) × Unit)) => (some (z1.1.1, ()))) z0))))))))))
theorem run95 (x0 : Fn) (x1 : Edge) (x2 : (List Bool)) : runF (P := Try.prog) [c47, c48] Try.f95 ann95 [(0, (.st 6)), (1, (.st 1)), (2, (.fz .bool))] [] .b [] (x0, (x1, (x2, ()))) () = go95 x0 x1 x2 := by kernel_rfl

theorem ok12 : go12 = some (true, ()) := by unfold go12; simp [Sp.arity, Sp.pureOp, Sp.isBinary]
def c12 : Ctr Try.prog := mkCtr 12 Try.f12 Try.func12 [c13, c15] ann12 [] [] .b [] (fun x _ => some (true, ())) (fun x _ r h => FE run12 ok12 h)
def Sp.result (op : Int) : Bool := decide (0 ≤ Sp.arity op) && !decide (op = 26) && !decide (op = 28)
theorem ok49 (op : Int) : go49 op = some (Sp.result op, ()) := by
  unfold go49 Sp.result
  by_cases h : 0 ≤ Sp.arity op <;> by_cases h2 : op = 26 <;> simp [h, h2]
def c49 : Ctr Try.prog := mkCtr 49 Try.f49 Try.func49 [c14] ann49 [(0, (.i .i64))] [] .b [] (fun x _ => some (Sp.result x.1, ())) (fun x _ r h => FE (run49 x.1) (ok49 x.1) h)
def Sp.fit (w x : Int) : Int := Sp.wd (Sp.bitsL x (Sp.width w).toNat) (Sp.bitsL x (Sp.width w).toNat).length
theorem ok93 (w x : Int) : go93 w x = some (Sp.fit w x, ()) := by
  have hw := width_le w
  have hlen : (Sp.bitsL x (Sp.width w).toNat).length ≤ LEN := by rw [bitsL_len]; simp only [LEN]; omega
  unfold go93
  rw [grd_ok hlen]; rfl
def c93 : Ctr Try.prog := mkCtr 93 Try.f93 Try.func93 [c76, c79] ann93 [(0, (.i .i64)), (1, (.i .u64))] [] (.i .u64) [] (fun x _ => some (Sp.fit x.1 x.2.1, ())) (fun x _ r h => FE (run93 x.1 x.2.1) (ok93 x.1 x.2.1) h)

def Sp.edgeP (f : Fn) (ps qs : List Int) (i : Nat) : Bool := Sp.within f (ps.getD i 0) && decide (f.widths.getD (ps.getD i 0).toNat 0 = f.widths.getD (qs.getD i 0).toNat 0)
def Sp.edgeOk (f : Fn) (e : Edge) (known : List Bool) : Bool :=
  (!decide (e.block < 1) && !decide ((f.blocks.length : Int) ≤ e.block) && Sp.used f e.args known) &&
  (decide (((f.blk e.block.toNat).params.length : Int) = e.args.length) && (List.range (f.blk e.block.toNat).params.length).all (Sp.edgeP f (f.blk e.block.toNat).params e.args))
theorem used_get {f : Fn} {l : List Int} {known : List Bool} (h : Sp.used f l known = true) {i : Nat} (hi : i < l.length) : 0 ≤ l.getD i 0 ∧ l.getD i 0 < f.widths.length ∧ known.getD (l.getD i 0).toNat false = true := by
  simp only [Sp.used, List.all_eq_true] at h
  have := h (l.getD i 0) (by simp [List.getD_eq_getElem?_getD, hi])
  simp only [Bool.and_eq_true] at this
  exact ⟨(within_iff.1 this.1).1, (within_iff.1 this.1).2, this.2⟩
theorem range_getD {n i : Nat} (h : i < n) : (List.range n).getD i 0 = i := by simp [List.getD_eq_getElem?_getD, h]
theorem ok95 (f : Fn) (e : Edge) (known : List Bool) (h : f.ok ∧ e.ok ∧ known.length = f.widths.length) : go95 f e known = some (Sp.edgeOk f e known, ()) := by
  obtain ⟨hf, he, hk⟩ := h
  have hea : e.args.length ≤ LEN := he.2.len
  unfold go95 go95_l1
  rw [grd_ok ⟨hea, hk⟩]
  by_cases h1 : e.block < 1
  · simp [Sp.edgeOk, h1]
  by_cases h2 : (f.blocks.length : Int) ≤ e.block
  · simp [Sp.edgeOk, h1, h2]
  simp (maxSteps := 1000000) (disch := ((try dsimp only); omega)) only [↓grd_dec, ↓grd_blt, ↓grd_true, ↓jpO_eq, ↓callB_some, ↓callB_grd, ↓bif_decide, ↓sumO_inl, ↓sumO_inr, ↓if_pos, ↓if_neg, ↓cond_true, ↓cond_false, ↓bif_not, Int.toNat_natCast, Bool.not_true, Bool.not_false, decide_true, decide_false, Bool.false_eq_true, ↓if_true, ↓if_false, Int.natCast_add, Int.cast_ofNat_Int, Bool.not_eq_true', decide_eq_false_iff_not, not_true_eq_false, not_false_eq_true]
  cases h3 : Sp.used f e.args known with
  | false => simp [Sp.edgeOk, h3]
  | true =>
    simp (maxSteps := 1000000) (disch := ((try dsimp only); omega)) only [↓grd_dec, ↓grd_blt, ↓grd_true, ↓jpO_eq, ↓callB_some, ↓callB_grd, ↓bif_decide, ↓sumO_inl, ↓sumO_inr, ↓if_pos, ↓if_neg, ↓cond_true, ↓cond_false, ↓bif_not, Int.toNat_natCast, Bool.not_true, Bool.not_false, decide_true, decide_false, Bool.false_eq_true, ↓if_true, ↓if_false, Int.natCast_add, Int.cast_ofNat_Int, Bool.not_eq_true', decide_eq_false_iff_not, not_true_eq_false, not_false_eq_true]
    by_cases h4 : (((f.blocks.getD e.block.toNat Block.z).params.length : Nat) : Int) = e.args.length
    rotate_left
    · rw [if_neg h4]
      simp only [Sp.edgeOk]
      rw [show decide (((f.blk e.block.toNat).params.length : Int) = e.args.length) = false from decide_eq_false h4]
      simp
    rw [if_pos h4]
    have hp : (f.blocks.getD e.block.toNat Block.z).params.length ≤ LEN := (Fn.ok_blk hf (by omega)).1.len
    rw [lenVal] at hp
    have hEnd : Sp.edgeOk f e known = (List.range (f.blk e.block.toNat).params.length).all (Sp.edgeP f (f.blk e.block.toNat).params e.args) := by
      simp only [Sp.edgeOk, h3]
      rw [decide_eq_false h1, decide_eq_false h2, decide_eq_true h4]; rfl
    rw [hEnd]
    show _ = some ((List.range (f.blocks.getD e.block.toNat Block.z).params.length).all (Sp.edgeP f (f.blocks.getD e.block.toNat Block.z).params e.args), ())
    generalize (f.blocks.getD e.block.toNat Block.z).params = ps at *
    refine callB_of (whileO_all (l := List.range ps.length) (st := fun i => (((), (), ps, (i : Int), ()), f, e, ())) rfl 0 (Sp.edgeP f ps e.args) (A := .inl ((), ())) (B := .inr ((false, ()), ())) (fun i hi hq => ?_) (fun i hi hq => ?_) (fun _ => ?_)) ?_
    · rw [List.length_range] at hi
      rw [range_getD hi] at hq
      simp only [Sp.edgeP, Bool.and_eq_true, decide_eq_true_eq] at hq
      obtain ⟨q1, q2⟩ := hq
      obtain ⟨q3, q4⟩ := within_iff.1 q1
      obtain ⟨g3, g4, -⟩ := used_get h3 (i := i) (by omega)
      simp (maxSteps := 1000000) (disch := ((try dsimp only); omega)) only [↓grd_dec, ↓grd_blt, ↓grd_true, ↓jpO_eq, ↓callB_some, ↓callB_grd, ↓bif_decide, ↓sumO_inl, ↓sumO_inr, ↓if_pos, ↓if_neg, ↓cond_true, ↓cond_false, ↓bif_not, Int.toNat_natCast, Bool.not_true, Bool.not_false, decide_true, decide_false, Bool.false_eq_true, ↓if_true, ↓if_false, Int.natCast_add, Int.cast_ofNat_Int, Bool.not_eq_true', decide_eq_false_iff_not, not_true_eq_false, not_false_eq_true]
      rw [q1]
      simp (maxSteps := 1000000) (disch := ((try dsimp only); omega)) only [↓grd_dec, ↓grd_blt, ↓grd_true, ↓jpO_eq, ↓callB_some, ↓callB_grd, ↓bif_decide, ↓sumO_inl, ↓sumO_inr, ↓if_pos, ↓if_neg, ↓cond_true, ↓cond_false, ↓bif_not, Int.toNat_natCast, Bool.not_true, Bool.not_false, decide_true, decide_false, Bool.false_eq_true, ↓if_true, ↓if_false, Int.natCast_add, Int.cast_ofNat_Int, Bool.not_eq_true', decide_eq_false_iff_not, not_true_eq_false, not_false_eq_true]
    · rw [List.length_range] at hi
      rw [range_getD hi] at hq
      simp only [Sp.edgeP, Bool.and_eq_false_iff, decide_eq_false_iff_not] at hq
      obtain ⟨g3, g4, -⟩ := used_get h3 (i := i) (by omega)
      simp (maxSteps := 1000000) (disch := ((try dsimp only); omega)) only [↓grd_dec, ↓grd_blt, ↓grd_true, ↓jpO_eq, ↓callB_some, ↓callB_grd, ↓bif_decide, ↓sumO_inl, ↓sumO_inr, ↓if_pos, ↓if_neg, ↓cond_true, ↓cond_false, ↓bif_not, Int.toNat_natCast, Bool.not_true, Bool.not_false, decide_true, decide_false, Bool.false_eq_true, ↓if_true, ↓if_false, Int.natCast_add, Int.cast_ofNat_Int, Bool.not_eq_true', decide_eq_false_iff_not, not_true_eq_false, not_false_eq_true]
      cases q1 : Sp.within f (ps.getD i 0) with
      | false => rfl
      | true =>
        obtain ⟨q3, q4⟩ := within_iff.1 q1
        rw [q1] at hq
        have hq := hq.resolve_left (by simp)
        simp (maxSteps := 1000000) (disch := ((try dsimp only); omega)) only [↓grd_dec, ↓grd_blt, ↓grd_true, ↓jpO_eq, ↓callB_some, ↓callB_grd, ↓bif_decide, ↓sumO_inl, ↓sumO_inr, ↓if_pos, ↓if_neg, ↓cond_true, ↓cond_false, ↓bif_not, Int.toNat_natCast, Bool.not_true, Bool.not_false, decide_true, decide_false, Bool.false_eq_true, ↓if_true, ↓if_false, Int.natCast_add, Int.cast_ofNat_Int, Bool.not_eq_true', decide_eq_false_iff_not, not_true_eq_false, not_false_eq_true]
    · rw [List.length_range]; simp (maxSteps := 1000000) (disch := ((try dsimp only); omega)) only [↓grd_dec, ↓grd_blt, ↓grd_true, ↓jpO_eq, ↓callB_some, ↓callB_grd, ↓bif_decide, ↓sumO_inl, ↓sumO_inr, ↓if_pos, ↓if_neg, ↓cond_true, ↓cond_false, ↓bif_not, Int.toNat_natCast, Bool.not_true, Bool.not_false, decide_true, decide_false, Bool.false_eq_true, ↓if_true, ↓if_false, Int.natCast_add, Int.cast_ofNat_Int, Bool.not_eq_true', decide_eq_false_iff_not, not_true_eq_false, not_false_eq_true]
    · cases (List.range ps.length).all (Sp.edgeP f ps e.args) <;> rfl
def c95 : Ctr Try.prog := mkCtr 95 Try.f95 Try.func95 [c47, c48] ann95 [(0, (.st 6)), (1, (.st 1)), (2, (.fz .bool))] [] .b [] (fun x _ => grd (okB (x.1.ok ∧ x.2.1.ok ∧ x.2.2.1.length = x.1.widths.length)) (some (Sp.edgeOk x.1 x.2.1 x.2.2.1, ()))) (fun x _ r h => FO (run95 x.1 x.2.1 x.2.2.1) (ok95 x.1 x.2.1 x.2.2.1) h)
end
end Go.Abs
