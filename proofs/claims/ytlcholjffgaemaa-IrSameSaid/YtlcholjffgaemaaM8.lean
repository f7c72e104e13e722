/-
Texts of the proof, part 8: V2 V3 V4 W4 Za Zb Zc Zd Ze.
No statement of the program is proved here.
-/
import Derived.Test.YtlcholjffgaemaaM7

set_option linter.unusedVariables false
set_option linter.unusedSectionVars false
set_option linter.unusedSimpArgs false
set_option maxHeartbeats 1000000
namespace Go.Abs
open Go Go.Proofs
noncomputable section
def ann13 : Ann := (.seq .o (.join ⟨[], []⟩ (.block (.seq .o (.cond (.seq .o .o) (.join ⟨[(0, (.i .i64)), (6, .b)], []⟩ (.seq .o (.cond .o (.seq .o (.cond .o .o)))) (.cond (.seq .o .o) (.join ⟨[(0, (.i .i64)), (13, .b)], []⟩ (.seq .o (.cond .o .o)) (.cond (.seq .o .o) (.join ⟨[(18, .b)], []⟩ (.seq .o (.cond .o (.seq .o (.cond .o (.seq .o (.cond .o .o)))))) (.cond (.seq .o .o) .o))))))))) (.seq .o .o)))
def go13_j3 : ((Bool × Unit) × Unit) → Option (Int × Unit) := (fun (z2 : ((Bool × Unit) × Unit)) => (bif z2.1.1 then
      (some ((1 : Int), ()))
      else
      (some ((-(1 : Int)), ()))))
def go13_j2 : ((Int × (Bool × Unit)) × Unit) → Option (Int × Unit) := (fun (z1 : ((Int × (Bool × Unit)) × Unit)) => (bif z1.1.2.1 then
      (some ((3 : Int), ()))
      else
      (jpO (go13_j3)
        (fun (j0 : (((Bool × Unit) × Unit) → (Option (Int × Unit)))) => (bif (decide (z1.1.1 = (22 : Int))) then
            (j0 ((true, ()), ()))
            else
            (bif (decide (z1.1.1 = (23 : Int))) then
              (j0 ((true, ()), ()))
              else
              (bif (decide (z1.1.1 = (24 : Int))) then
                (j0 ((true, ()), ()))
                else
                (j0 (((decide (z1.1.1 = (27 : Int))), ()), ())))))))))
def go13_j1 : ((Int × (Bool × Unit)) × Unit) → Option (Int × Unit) := (fun (z0 : ((Int × (Bool × Unit)) × Unit)) => (bif z0.1.2.1 then
      (some ((2 : Int), ()))
      else
      (jpO (go13_j2)
        (fun (j0 : (((Int × (Bool × Unit)) × Unit) → (Option (Int × Unit)))) => (bif (decide (z0.1.1 = (21 : Int))) then
            (j0 ((z0.1.1, (true, ())), ()))
            else
            (j0 ((z0.1.1, ((decide (z0.1.1 = (26 : Int))), ())), ())))))))
def go13 (x0 : Int) : (Option (Int × Unit)) :=
  (bif (decide (x0 = (1 : Int))) then
    (some ((0 : Int), ()))
    else
    (jpO (go13_j1)
      (fun (j0 : (((Int × (Bool × Unit)) × Unit) → (Option (Int × Unit)))) => (bif (Sp.isBinary x0) then
          (j0 ((x0, (true, ())), ()))
          else
          (bif (decide (x0 = (25 : Int))) then
            (j0 ((x0, (true, ())), ()))
            else
            (j0 ((x0, ((decide (x0 = (28 : Int))), ())), ())))))))
theorem run13 (x0 : Int) : runF (P := Try.prog) [c42] Try.f13 ann13 [(0, (.i .i64))] [] (.i .i64) [] (x0, ()) () = go13 x0 := by kernel_rfl
def Sp.arity (op : Int) : Int :=
  if op = 1 then 0 else if Sp.isBinary op || decide (op = 25) || decide (op = 28) then 2 else if op = 21 ∨ op = 26 then 3 else if op = 22 ∨ op = 23 ∨ op = 24 ∨ op = 27 then 1 else -1
theorem ok13 (op : Int) : go13 op = some (Sp.arity op, ()) := by
  unfold go13 go13_j1 go13_j2 go13_j3 Sp.arity
  simp only [jpO_eq, bif_decide]
  cases Sp.isBinary op <;> simp only [cond_true, cond_false] <;> repeat' split
  all_goals simp_all
def c13 : Ctr Try.prog := mkCtr 13 Try.f13 Try.func13 [c42] ann13 [(0, (.i .i64))] [] (.i .i64) [] (fun x _ => some (Sp.arity x.1, ())) (fun x _ r h => FE (run13 x.1) (ok13 x.1) h)
def Sp.widths (l : List Int) (most : Int) : Bool := l.all Sp.right && decide ((l.length : Int) ≤ most)
end
end Go.Abs


set_option linter.unusedVariables false
set_option linter.unusedSectionVars false
set_option linter.unusedSimpArgs false
set_option maxHeartbeats 1000000
namespace Go.Abs
open Go Go.Proofs
noncomputable section
def ann12 : Ann := (.seq .o (.seq .o .o))
def go12  : (Option (Bool × Unit)) :=
  (bif (decide ((Sp.arity (21 : Int)) = (3 : Int))) then
    (some ((Sp.pureOp (2 : Int)), ()))
    else
    (some (false, ())))
theorem run12  : runF (P := Try.prog) [c13, c15] Try.f12 ann12 [] [] .b [] () () = go12 := by kernel_rfl
theorem ok12 : go12 = some (true, ()) := by unfold go12; simp [Sp.arity, Sp.pureOp, Sp.isBinary]
def c12 : Ctr Try.prog := mkCtr 12 Try.f12 Try.func12 [c13, c15] ann12 [] [] .b [] (fun x _ => some (true, ())) (fun x _ r h => FE run12 ok12 h)
def Sp.result (op : Int) : Bool := decide (0 ≤ Sp.arity op) && !decide (op = 26) && !decide (op = 28)
theorem range_getD {n i : Nat} (h : i < n) : (List.range n).getD i 0 = i := by simp [List.getD_eq_getElem?_getD, h]
end
end Go.Abs


set_option linter.unusedVariables false
set_option linter.unusedSectionVars false
set_option linter.unusedSimpArgs false
set_option maxHeartbeats 1000000
namespace Go.Abs
open Go Go.Proofs
noncomputable section
def Fn.names (f : Fn) : List ByteArray := f.arrays.map Arr.name ++ f.streams.map Strm.name
end
end Go.Abs


set_option linter.unusedVariables false
set_option linter.unusedSectionVars false
set_option linter.unusedSimpArgs false
set_option maxHeartbeats 1000000
namespace Go.Abs
open Go Go.Proofs
noncomputable section
def ann54 : Ann := (.seq .o (.join ⟨[(0, (.fz (.int .i64))), (1, (.fz (.int .i64)))], []⟩ (.seq .o (.cond (.seq .o .o) .o)) (.join ⟨[], []⟩ (.seq .o (.block (.loop ⟨[(0, (.fz (.int .i64))), (1, (.fz (.int .i64))), (12, (.i .i64)), (13, (.i .i64))], []⟩ [((.exit 0), ⟨[], []⟩), (.ret, ⟨[(4, .b)], []⟩)] (.seq .o (.join ⟨[(0, (.fz (.int .i64))), (1, (.fz (.int .i64))), (12, (.i .i64)), (13, (.i .i64))], []⟩ (.cond .o .o) (.join ⟨[(0, (.fz (.int .i64))), (1, (.fz (.int .i64))), (12, (.i .i64)), (13, (.i .i64))], []⟩ (.block (.seq .o (.seq .o (.cond (.seq .o .o) .o)))) .o)))))) (.seq .o .o))))
def go54_l1 : (((List Int) × ((List Int) × (Int × (Int × Unit)))) × Unit) → Option ((((List Int) × ((List Int) × (Int × (Int × Unit)))) × Unit) ⊕ ((Unit × Unit) ⊕ ((Bool × Unit) × Unit))) := (fun (r0 : (((List Int) × ((List Int) × (Int × (Int × Unit)))) × Unit)) => (bif (decide (r0.1.2.2.2.1 < r0.1.2.2.1)) then
      (grd (okB (((0 : Int) ≤ r0.1.2.2.2.1) ∧ (r0.1.2.2.2.1 < ((r0.1.1.length : Nat) : Int))))
        (grd (okB (((0 : Int) ≤ r0.1.2.2.2.1) ∧ (r0.1.2.2.2.1 < ((r0.1.2.1.length : Nat) : Int))))
          (bif (!(decide ((r0.1.1.getD r0.1.2.2.2.1.toNat (0 : Int)) = (r0.1.2.1.getD r0.1.2.2.2.1.toNat (0 : Int))))) then
            (some (Sum.inr (Sum.inr ((false, ()), ()))))
            else
            (grd (okB (((-(9223372036854775808 : Int)) ≤ (r0.1.2.2.2.1 + (1 : Int))) ∧ ((r0.1.2.2.2.1 + (1 : Int)) ≤ (9223372036854775807 : Int))))
              (some (Sum.inl ((r0.1.1, (r0.1.2.1, (r0.1.2.2.1, ((r0.1.2.2.2.1 + (1 : Int)), ())))), ())))))))
      else
      (some (Sum.inr (Sum.inl ((), ()))))))
def go54 (x0 : (List Int)) (x1 : (List Int)) : (Option (Bool × Unit)) :=
  (bif (!(decide (((x0.length : Nat) : Int) = ((x1.length : Nat) : Int)))) then
    (some (false, ()))
    else
    (callB (whileO (go54_l1) ((x0, (x1, (((x0.length : Nat) : Int), ((0 : Int), ())))), ()))
      (fun (z0 : ((Unit × Unit) ⊕ ((Bool × Unit) × Unit))) => (sumO (fun (z1 : (Unit × Unit)) => (some (true, ())))
          (fun (z1 : ((Bool × Unit) × Unit)) => (some (z1.1.1, ()))) z0))))
theorem run54 (x0 : (List Int)) (x1 : (List Int)) : runF (P := Try.prog) [] Try.f54 ann54 [(0, (.fz (.int .i64))), (1, (.fz (.int .i64)))] [] .b [] (x0, (x1, ())) () = go54 x0 x1 := by kernel_rfl
def ann39 : Ann := (.seq .o (.join ⟨[(0, (.fz (.int .i64))), (1, (.fz (.int .i64)))], []⟩ (.seq .o (.cond (.seq .o .o) .o)) (.join ⟨[], []⟩ (.seq .o (.block (.loop ⟨[(0, (.fz (.int .i64))), (1, (.fz (.int .i64))), (5, (.i .i64))], []⟩ [((.exit 0), ⟨[], []⟩), (.ret, ⟨[(4, .b)], []⟩)] (.join ⟨[(0, (.fz (.int .i64))), (1, (.fz (.int .i64))), (5, (.i .i64))], []⟩ (.seq .o (.cond .o .o)) (.join ⟨[(0, (.fz (.int .i64))), (1, (.fz (.int .i64))), (5, (.i .i64))], []⟩ (.block (.seq .o (.cond (.seq .o .o) .o))) .o))))) (.seq .o .o))))
def go39_l1 : (((List Int) × ((List Int) × (Int × Unit))) × Unit) → Option ((((List Int) × ((List Int) × (Int × Unit))) × Unit) ⊕ ((Unit × Unit) ⊕ ((Bool × Unit) × Unit))) := (fun (r0 : (((List Int) × ((List Int) × (Int × Unit))) × Unit)) => (bif (decide (r0.1.2.2.1 < ((r0.1.1.length : Nat) : Int))) then
      (grd (okB (((0 : Int) ≤ r0.1.2.2.1) ∧ (r0.1.2.2.1 < ((r0.1.1.length : Nat) : Int))))
        (grd (okB (((0 : Int) ≤ r0.1.2.2.1) ∧ (r0.1.2.2.1 < ((r0.1.2.1.length : Nat) : Int))))
          (bif (!(decide ((r0.1.1.getD r0.1.2.2.1.toNat (0 : Int)) = (r0.1.2.1.getD r0.1.2.2.1.toNat (0 : Int))))) then
            (some (Sum.inr (Sum.inr ((false, ()), ()))))
            else
            (grd (okB (((-(9223372036854775808 : Int)) ≤ (r0.1.2.2.1 + (1 : Int))) ∧ ((r0.1.2.2.1 + (1 : Int)) ≤ (9223372036854775807 : Int))))
              (some (Sum.inl ((r0.1.1, (r0.1.2.1, ((r0.1.2.2.1 + (1 : Int)), ()))), ())))))))
      else
      (some (Sum.inr (Sum.inl ((), ()))))))
def go39 (x0 : (List Int)) (x1 : (List Int)) : (Option (Bool × Unit)) :=
  (bif (!(decide (((x0.length : Nat) : Int) = ((x1.length : Nat) : Int)))) then
    (some (false, ()))
    else
    (callB (whileO (go39_l1) ((x0, (x1, ((0 : Int), ()))), ()))
      (fun (z0 : ((Unit × Unit) ⊕ ((Bool × Unit) × Unit))) => (sumO (fun (z1 : (Unit × Unit)) => (some (true, ())))
          (fun (z1 : ((Bool × Unit) × Unit)) => (some (z1.1.1, ()))) z0))))
theorem run39 (x0 : (List Int)) (x1 : (List Int)) : runF (P := Try.prog) [] Try.f39 ann39 [(0, (.fz (.int .i64))), (1, (.fz (.int .i64)))] [] .b [] (x0, (x1, ())) () = go39 x0 x1 := by kernel_rfl
theorem all_eq {x y : List Int} (h : x.length = y.length) : (List.range x.length).all (fun i => decide (x.getD i 0 = y.getD i 0)) = decide (x = y) := by
  rw [Bool.eq_iff_iff]
  simp only [List.all_eq_true, List.mem_range, decide_eq_true_eq]
  constructor
  · intro k
    refine List.ext_getElem h fun i h1 h2 => ?_
    have := k i h1
    simpa [List.getD_eq_getElem?_getD, h1, h2] using this
  · rintro rfl i _; rfl
theorem ok54 (x y : List Int) (hx : x.length ≤ LEN) : go54 x y = some (decide (x = y), ()) := by
  rw [lenVal] at hx
  unfold go54 go54_l1
  by_cases h : (x.length : Int) = y.length
  · have h' : x.length = y.length := by omega
    simp (maxSteps := 1000000) (disch := ((try dsimp only); omega)) only [↓grd_dec, ↓grd_blt, ↓grd_true, ↓jpO_eq, ↓callB_some, ↓callB_grd, ↓bif_decide, ↓sumO_inl, ↓sumO_inr, ↓if_pos, ↓if_neg, ↓cond_true, ↓cond_false, ↓bif_not, Int.toNat_natCast, Bool.not_true, Bool.not_false, decide_true, decide_false, Bool.false_eq_true, ↓if_true, ↓if_false, Int.natCast_add, Int.cast_ofNat_Int, Bool.not_eq_true', decide_eq_false_iff_not, not_true_eq_false, not_false_eq_true]
    refine callB_of (whileO_all (l := List.range x.length) (st := fun i => ((x, y, ((x.length : Nat) : Int), (i : Int), ()), ())) rfl 0 (fun i => decide (x.getD i 0 = y.getD i 0)) (A := .inl ((), ())) (B := .inr ((false, ()), ())) (fun i hi hp => ?_) (fun i hi hp => ?_) (fun _ => ?_)) ?_
    · rw [List.length_range] at hi
      rw [range_getD hi] at hp
      have hp := of_decide_eq_true hp
      simp (maxSteps := 1000000) (disch := ((try dsimp only); omega)) only [↓grd_dec, ↓grd_blt, ↓grd_true, ↓jpO_eq, ↓callB_some, ↓callB_grd, ↓bif_decide, ↓sumO_inl, ↓sumO_inr, ↓if_pos, ↓if_neg, ↓cond_true, ↓cond_false, ↓bif_not, Int.toNat_natCast, Bool.not_true, Bool.not_false, decide_true, decide_false, Bool.false_eq_true, ↓if_true, ↓if_false, Int.natCast_add, Int.cast_ofNat_Int, Bool.not_eq_true', decide_eq_false_iff_not, not_true_eq_false, not_false_eq_true]
    · rw [List.length_range] at hi
      rw [range_getD hi] at hp
      have hp := of_decide_eq_false hp
      simp (maxSteps := 1000000) (disch := ((try dsimp only); omega)) only [↓grd_dec, ↓grd_blt, ↓grd_true, ↓jpO_eq, ↓callB_some, ↓callB_grd, ↓bif_decide, ↓sumO_inl, ↓sumO_inr, ↓if_pos, ↓if_neg, ↓cond_true, ↓cond_false, ↓bif_not, Int.toNat_natCast, Bool.not_true, Bool.not_false, decide_true, decide_false, Bool.false_eq_true, ↓if_true, ↓if_false, Int.natCast_add, Int.cast_ofNat_Int, Bool.not_eq_true', decide_eq_false_iff_not, not_true_eq_false, not_false_eq_true]
    · rw [List.length_range]; simp (maxSteps := 1000000) (disch := ((try dsimp only); omega)) only [↓grd_dec, ↓grd_blt, ↓grd_true, ↓jpO_eq, ↓callB_some, ↓callB_grd, ↓bif_decide, ↓sumO_inl, ↓sumO_inr, ↓if_pos, ↓if_neg, ↓cond_true, ↓cond_false, ↓bif_not, Int.toNat_natCast, Bool.not_true, Bool.not_false, decide_true, decide_false, Bool.false_eq_true, ↓if_true, ↓if_false, Int.natCast_add, Int.cast_ofNat_Int, Bool.not_eq_true', decide_eq_false_iff_not, not_true_eq_false, not_false_eq_true]
    · rw [all_eq h']
      by_cases e : x = y
      · rw [decide_eq_true e]; rfl
      · rw [decide_eq_false e]; rfl
  · have e : x ≠ y := fun e => h (by rw [e])
    rw [decide_eq_false e]
    simp (maxSteps := 1000000) (disch := ((try dsimp only); omega)) only [↓grd_dec, ↓grd_blt, ↓grd_true, ↓jpO_eq, ↓callB_some, ↓callB_grd, ↓bif_decide, ↓sumO_inl, ↓sumO_inr, ↓if_pos, ↓if_neg, ↓cond_true, ↓cond_false, ↓bif_not, Int.toNat_natCast, Bool.not_true, Bool.not_false, decide_true, decide_false, Bool.false_eq_true, ↓if_true, ↓if_false, Int.natCast_add, Int.cast_ofNat_Int, Bool.not_eq_true', decide_eq_false_iff_not, not_true_eq_false, not_false_eq_true]
def c54 : Ctr Try.prog := mkCtr 54 Try.f54 Try.func54 [] ann54 [(0, (.fz (.int .i64))), (1, (.fz (.int .i64)))] [] .b [] (fun x _ => grd (okB (x.1.length ≤ LEN)) (some (decide (x.1 = x.2.1), ()))) (fun x _ r h => FO (run54 x.1 x.2.1) (ok54 x.1 x.2.1) h)
theorem ok39 (x y : List Int) (hx : x.length ≤ LEN) : go39 x y = some (decide (x = y), ()) := by
  rw [lenVal] at hx
  unfold go39 go39_l1
  by_cases h : (x.length : Int) = y.length
  · have h' : x.length = y.length := by omega
    simp (maxSteps := 1000000) (disch := ((try dsimp only); omega)) only [↓grd_dec, ↓grd_blt, ↓grd_true, ↓jpO_eq, ↓callB_some, ↓callB_grd, ↓bif_decide, ↓sumO_inl, ↓sumO_inr, ↓if_pos, ↓if_neg, ↓cond_true, ↓cond_false, ↓bif_not, Int.toNat_natCast, Bool.not_true, Bool.not_false, decide_true, decide_false, Bool.false_eq_true, ↓if_true, ↓if_false, Int.natCast_add, Int.cast_ofNat_Int, Bool.not_eq_true', decide_eq_false_iff_not, not_true_eq_false, not_false_eq_true]
    refine callB_of (whileO_all (l := List.range x.length) (st := fun i => ((x, y, (i : Int), ()), ())) rfl 0 (fun i => decide (x.getD i 0 = y.getD i 0)) (A := .inl ((), ())) (B := .inr ((false, ()), ())) (fun i hi hp => ?_) (fun i hi hp => ?_) (fun _ => ?_)) ?_
    · rw [List.length_range] at hi
      rw [range_getD hi] at hp
      have hp := of_decide_eq_true hp
      simp (maxSteps := 1000000) (disch := ((try dsimp only); omega)) only [↓grd_dec, ↓grd_blt, ↓grd_true, ↓jpO_eq, ↓callB_some, ↓callB_grd, ↓bif_decide, ↓sumO_inl, ↓sumO_inr, ↓if_pos, ↓if_neg, ↓cond_true, ↓cond_false, ↓bif_not, Int.toNat_natCast, Bool.not_true, Bool.not_false, decide_true, decide_false, Bool.false_eq_true, ↓if_true, ↓if_false, Int.natCast_add, Int.cast_ofNat_Int, Bool.not_eq_true', decide_eq_false_iff_not, not_true_eq_false, not_false_eq_true]
    · rw [List.length_range] at hi
      rw [range_getD hi] at hp
      have hp := of_decide_eq_false hp
      simp (maxSteps := 1000000) (disch := ((try dsimp only); omega)) only [↓grd_dec, ↓grd_blt, ↓grd_true, ↓jpO_eq, ↓callB_some, ↓callB_grd, ↓bif_decide, ↓sumO_inl, ↓sumO_inr, ↓if_pos, ↓if_neg, ↓cond_true, ↓cond_false, ↓bif_not, Int.toNat_natCast, Bool.not_true, Bool.not_false, decide_true, decide_false, Bool.false_eq_true, ↓if_true, ↓if_false, Int.natCast_add, Int.cast_ofNat_Int, Bool.not_eq_true', decide_eq_false_iff_not, not_true_eq_false, not_false_eq_true]
    · rw [List.length_range]; simp (maxSteps := 1000000) (disch := ((try dsimp only); omega)) only [↓grd_dec, ↓grd_blt, ↓grd_true, ↓jpO_eq, ↓callB_some, ↓callB_grd, ↓bif_decide, ↓sumO_inl, ↓sumO_inr, ↓if_pos, ↓if_neg, ↓cond_true, ↓cond_false, ↓bif_not, Int.toNat_natCast, Bool.not_true, Bool.not_false, decide_true, decide_false, Bool.false_eq_true, ↓if_true, ↓if_false, Int.natCast_add, Int.cast_ofNat_Int, Bool.not_eq_true', decide_eq_false_iff_not, not_true_eq_false, not_false_eq_true]
    · rw [all_eq h']
      by_cases e : x = y
      · rw [decide_eq_true e]; rfl
      · rw [decide_eq_false e]; rfl
  · have e : x ≠ y := fun e => h (by rw [e])
    rw [decide_eq_false e]
    simp (maxSteps := 1000000) (disch := ((try dsimp only); omega)) only [↓grd_dec, ↓grd_blt, ↓grd_true, ↓jpO_eq, ↓callB_some, ↓callB_grd, ↓bif_decide, ↓sumO_inl, ↓sumO_inr, ↓if_pos, ↓if_neg, ↓cond_true, ↓cond_false, ↓bif_not, Int.toNat_natCast, Bool.not_true, Bool.not_false, decide_true, decide_false, Bool.false_eq_true, ↓if_true, ↓if_false, Int.natCast_add, Int.cast_ofNat_Int, Bool.not_eq_true', decide_eq_false_iff_not, not_true_eq_false, not_false_eq_true]
def c39 : Ctr Try.prog := mkCtr 39 Try.f39 Try.func39 [] ann39 [(0, (.fz (.int .i64))), (1, (.fz (.int .i64)))] [] .b [] (fun x _ => grd (okB (x.1.length ≤ LEN)) (some (decide (x.1 = x.2.1), ()))) (fun x _ r h => FO (run39 x.1 x.2.1) (ok39 x.1 x.2.1) h)
end
end Go.Abs


set_option linter.unusedVariables false
set_option linter.unusedSectionVars false
set_option linter.unusedSimpArgs false
set_option maxHeartbeats 1000000
namespace Go.Abs
open Go Go.Proofs
noncomputable section
def ann55 : Ann := (.seq .o (.join ⟨[(0, (.fz (.st 4))), (1, (.fz (.st 4)))], []⟩ (.seq .o (.cond (.seq .o .o) .o)) (.join ⟨[], []⟩ (.seq .o (.block (.loop ⟨[(0, (.fz (.st 4))), (1, (.fz (.st 4))), (12, (.i .i64)), (13, (.i .i64))], []⟩ [((.exit 0), ⟨[], []⟩), (.ret, ⟨[(4, .b)], []⟩)] (.seq .o (.join ⟨[(0, (.fz (.st 4))), (1, (.fz (.st 4))), (12, (.i .i64)), (13, (.i .i64))], []⟩ (.cond .o .o) (.join ⟨[(0, (.fz (.st 4))), (1, (.fz (.st 4))), (12, (.i .i64)), (13, (.i .i64))], []⟩ (.block (.seq .o (.seq .o (.cond (.seq .o .o) .o)))) .o)))))) (.seq .o .o))))
def go55_l1 : (((List Arr) × ((List Arr) × (Int × (Int × Unit)))) × Unit) → Option ((((List Arr) × ((List Arr) × (Int × (Int × Unit)))) × Unit) ⊕ ((Unit × Unit) ⊕ ((Bool × Unit) × Unit))) := (fun (r0 : (((List Arr) × ((List Arr) × (Int × (Int × Unit)))) × Unit)) => (bif (decide (r0.1.2.2.2.1 < r0.1.2.2.1)) then
      (grd (okB (((0 : Int) ≤ r0.1.2.2.2.1) ∧ (r0.1.2.2.2.1 < ((r0.1.1.length : Nat) : Int))))
        (grd (okB (((0 : Int) ≤ r0.1.2.2.2.1) ∧ (r0.1.2.2.2.1 < ((r0.1.2.1.length : Nat) : Int))))
          (bif (bif true then
              (!(((ByteArray.toList (r0.1.1.getD r0.1.2.2.2.1.toNat Arr.z).name) == (ByteArray.toList (r0.1.2.1.getD r0.1.2.2.2.1.toNat Arr.z).name)) && ((decide ((r0.1.1.getD r0.1.2.2.2.1.toNat Arr.z).width = (r0.1.2.1.getD r0.1.2.2.2.1.toNat Arr.z).width)) && ((decide ((r0.1.1.getD r0.1.2.2.2.1.toNat Arr.z).len = (r0.1.2.1.getD r0.1.2.2.2.1.toNat Arr.z).len)) && ((decide ((r0.1.1.getD r0.1.2.2.2.1.toNat Arr.z).kind = (r0.1.2.1.getD r0.1.2.2.2.1.toNat Arr.z).kind)) && (decide ((r0.1.1.getD r0.1.2.2.2.1.toNat Arr.z).factor = (r0.1.2.1.getD r0.1.2.2.2.1.toNat Arr.z).factor)))))))
              else
              (((ByteArray.toList (r0.1.1.getD r0.1.2.2.2.1.toNat Arr.z).name) == (ByteArray.toList (r0.1.2.1.getD r0.1.2.2.2.1.toNat Arr.z).name)) && ((decide ((r0.1.1.getD r0.1.2.2.2.1.toNat Arr.z).width = (r0.1.2.1.getD r0.1.2.2.2.1.toNat Arr.z).width)) && ((decide ((r0.1.1.getD r0.1.2.2.2.1.toNat Arr.z).len = (r0.1.2.1.getD r0.1.2.2.2.1.toNat Arr.z).len)) && ((decide ((r0.1.1.getD r0.1.2.2.2.1.toNat Arr.z).kind = (r0.1.2.1.getD r0.1.2.2.2.1.toNat Arr.z).kind)) && (decide ((r0.1.1.getD r0.1.2.2.2.1.toNat Arr.z).factor = (r0.1.2.1.getD r0.1.2.2.2.1.toNat Arr.z).factor))))))) then
            (some (Sum.inr (Sum.inr ((false, ()), ()))))
            else
            (grd (okB (((-(9223372036854775808 : Int)) ≤ (r0.1.2.2.2.1 + (1 : Int))) ∧ ((r0.1.2.2.2.1 + (1 : Int)) ≤ (9223372036854775807 : Int))))
              (some (Sum.inl ((r0.1.1, (r0.1.2.1, (r0.1.2.2.1, ((r0.1.2.2.2.1 + (1 : Int)), ())))), ())))))))
      else
      (some (Sum.inr (Sum.inl ((), ()))))))
def go55 (x0 : (List Arr)) (x1 : (List Arr)) : (Option (Bool × Unit)) :=
  (bif (!(decide (((x0.length : Nat) : Int) = ((x1.length : Nat) : Int)))) then
    (some (false, ()))
    else
    (callB (whileO (go55_l1) ((x0, (x1, (((x0.length : Nat) : Int), ((0 : Int), ())))), ()))
      (fun (z0 : ((Unit × Unit) ⊕ ((Bool × Unit) × Unit))) => (sumO (fun (z1 : (Unit × Unit)) => (some (true, ())))
          (fun (z1 : ((Bool × Unit) × Unit)) => (some (z1.1.1, ()))) z0))))
theorem run55 (x0 : (List Arr)) (x1 : (List Arr)) : runF (P := Try.prog) [] Try.f55 ann55 [(0, (.fz (.st 4))), (1, (.fz (.st 4)))] [] .b [] (x0, (x1, ())) () = go55 x0 x1 := by kernel_rfl
def ann56 : Ann := (.seq .o (.join ⟨[(0, (.fz (.st 5))), (1, (.fz (.st 5)))], []⟩ (.seq .o (.cond (.seq .o .o) .o)) (.join ⟨[], []⟩ (.seq .o (.block (.loop ⟨[(0, (.fz (.st 5))), (1, (.fz (.st 5))), (12, (.i .i64)), (13, (.i .i64))], []⟩ [((.exit 0), ⟨[], []⟩), (.ret, ⟨[(4, .b)], []⟩)] (.seq .o (.join ⟨[(0, (.fz (.st 5))), (1, (.fz (.st 5))), (12, (.i .i64)), (13, (.i .i64))], []⟩ (.cond .o .o) (.join ⟨[(0, (.fz (.st 5))), (1, (.fz (.st 5))), (12, (.i .i64)), (13, (.i .i64))], []⟩ (.block (.seq .o (.seq .o (.cond (.seq .o .o) .o)))) .o)))))) (.seq .o .o))))
def go56_l1 : (((List Strm) × ((List Strm) × (Int × (Int × Unit)))) × Unit) → Option ((((List Strm) × ((List Strm) × (Int × (Int × Unit)))) × Unit) ⊕ ((Unit × Unit) ⊕ ((Bool × Unit) × Unit))) := (fun (r0 : (((List Strm) × ((List Strm) × (Int × (Int × Unit)))) × Unit)) => (bif (decide (r0.1.2.2.2.1 < r0.1.2.2.1)) then
      (grd (okB (((0 : Int) ≤ r0.1.2.2.2.1) ∧ (r0.1.2.2.2.1 < ((r0.1.1.length : Nat) : Int))))
        (grd (okB (((0 : Int) ≤ r0.1.2.2.2.1) ∧ (r0.1.2.2.2.1 < ((r0.1.2.1.length : Nat) : Int))))
          (bif (bif true then
              (!(((ByteArray.toList (r0.1.1.getD r0.1.2.2.2.1.toNat Strm.z).name) == (ByteArray.toList (r0.1.2.1.getD r0.1.2.2.2.1.toNat Strm.z).name)) && ((decide ((r0.1.1.getD r0.1.2.2.2.1.toNat Strm.z).width = (r0.1.2.1.getD r0.1.2.2.2.1.toNat Strm.z).width)) && ((r0.1.1.getD r0.1.2.2.2.1.toNat Strm.z).out == (r0.1.2.1.getD r0.1.2.2.2.1.toNat Strm.z).out))))
              else
              (((ByteArray.toList (r0.1.1.getD r0.1.2.2.2.1.toNat Strm.z).name) == (ByteArray.toList (r0.1.2.1.getD r0.1.2.2.2.1.toNat Strm.z).name)) && ((decide ((r0.1.1.getD r0.1.2.2.2.1.toNat Strm.z).width = (r0.1.2.1.getD r0.1.2.2.2.1.toNat Strm.z).width)) && ((r0.1.1.getD r0.1.2.2.2.1.toNat Strm.z).out == (r0.1.2.1.getD r0.1.2.2.2.1.toNat Strm.z).out)))) then
            (some (Sum.inr (Sum.inr ((false, ()), ()))))
            else
            (grd (okB (((-(9223372036854775808 : Int)) ≤ (r0.1.2.2.2.1 + (1 : Int))) ∧ ((r0.1.2.2.2.1 + (1 : Int)) ≤ (9223372036854775807 : Int))))
              (some (Sum.inl ((r0.1.1, (r0.1.2.1, (r0.1.2.2.1, ((r0.1.2.2.2.1 + (1 : Int)), ())))), ())))))))
      else
      (some (Sum.inr (Sum.inl ((), ()))))))
def go56 (x0 : (List Strm)) (x1 : (List Strm)) : (Option (Bool × Unit)) :=
  (bif (!(decide (((x0.length : Nat) : Int) = ((x1.length : Nat) : Int)))) then
    (some (false, ()))
    else
    (callB (whileO (go56_l1) ((x0, (x1, (((x0.length : Nat) : Int), ((0 : Int), ())))), ()))
      (fun (z0 : ((Unit × Unit) ⊕ ((Bool × Unit) × Unit))) => (sumO (fun (z1 : (Unit × Unit)) => (some (true, ())))
          (fun (z1 : ((Bool × Unit) × Unit)) => (some (z1.1.1, ()))) z0))))
theorem run56 (x0 : (List Strm)) (x1 : (List Strm)) : runF (P := Try.prog) [] Try.f56 ann56 [(0, (.fz (.st 5))), (1, (.fz (.st 5)))] [] .b [] (x0, (x1, ())) () = go56 x0 x1 := by kernel_rfl
def ann99 : Ann := (.seq .o (.seq .o .o))
def go99 (x0 : Edge) (x1 : Edge) : (Option (Bool × Unit)) :=
  (bif (decide (x0.block = x1.block)) then
    (callB (grd (okB (x0.args.length ≤ LEN))
        (some ((decide (x0.args = x1.args)), ())))
      (fun (r0 : (Bool × Unit)) => (some (r0.1, ()))))
    else
    (some (false, ())))
theorem run99 (x0 : Edge) (x1 : Edge) : runF (P := Try.prog) [c54] Try.f99 ann99 [(0, (.st 1)), (1, (.st 1))] [] .b [] (x0, (x1, ())) () = go99 x0 x1 := by kernel_rfl
def ann97 : Ann := (.seq .o (.seq .o .o))
def go97 (x0 : Inst) (x1 : Inst) : (Option (Bool × Unit)) :=
  (bif (decide (x0.op = x1.op)) then
    (bif (decide (x0.dest = x1.dest)) then
      (bif (decide (x0.num = x1.num)) then
        (bif (decide (x0.mem = x1.mem)) then
          (callB (grd (okB (x0.args.length ≤ LEN))
              (some ((decide (x0.args = x1.args)), ())))
            (fun (r0 : (Bool × Unit)) => (some (r0.1, ()))))
          else
          (some (false, ())))
        else
        (some (false, ())))
      else
      (some (false, ())))
    else
    (some (false, ())))
theorem run97 (x0 : Inst) (x1 : Inst) : runF (P := Try.prog) [c54] Try.f97 ann97 [(0, (.st 0)), (1, (.st 0))] [] .b [] (x0, (x1, ())) () = go97 x0 x1 := by kernel_rfl
def ann100 : Ann := (.seq .o (.seq .o .o))
def go100 (x0 : Inst) (x1 : Inst) : (Option (Bool × Unit)) :=
  (bif (decide (x0.op = x1.op)) then
    (bif (decide (x0.dest = x1.dest)) then
      (callB (grd (okB (x0.args.length ≤ LEN))
          (some ((decide (x0.args = x1.args)), ())))
        (fun (r0 : (Bool × Unit)) => (bif r0.1 then
            (bif (decide (x0.num = x1.num)) then
              (some ((decide (x0.mem = x1.mem)), ()))
              else
              (some (false, ())))
            else
            (some (false, ())))))
      else
      (some (false, ())))
    else
    (some (false, ())))
theorem run100 (x0 : Inst) (x1 : Inst) : runF (P := Try.prog) [c39] Try.f100 ann100 [(0, (.st 0)), (1, (.st 0))] [] .b [] (x0, (x1, ())) () = go100 x0 x1 := by kernel_rfl
theorem bytes_loop (b : ByteArray) : ∀ (k i : Nat) (r : List UInt8), i + k = b.size → ByteArray.toList.loop b i r = r.reverse ++ b.data.toList.drop i
  | 0, i, r, h => by
    unfold ByteArray.toList.loop
    rw [if_neg (by omega)]
    have : b.data.toList.length = b.size := Array.length_toList
    rw [List.drop_eq_nil_of_le (by omega), List.append_nil]
  | k + 1, i, r, h => by
    unfold ByteArray.toList.loop
    rw [if_pos (by omega), bytes_loop b k (i + 1) _ (by omega)]
    have hi : i < b.data.size := by have : b.data.size = b.size := rfl; omega
    have hl : i < b.data.toList.length := by rw [Array.length_toList]; exact hi
    rw [List.drop_eq_getElem_cons hl]
    have : b.get! i = b.data.toList[i] := by
      have hi' : i < b.size := hi
      simp [ByteArray.get!, hi']
    rw [this]
    simp
theorem bytes_list (b : ByteArray) : b.toList = b.data.toList := by
  unfold ByteArray.toList
  rw [bytes_loop b b.size 0 [] (by omega)]
  simp
theorem bytes_beq (a b : ByteArray) : (a.toList == b.toList) = decide (a = b) := by
  rw [bytes_list, bytes_list]
  by_cases h : a = b
  · subst h; simp
  · rw [decide_eq_false h]
    have : a.data.toList ≠ b.data.toList := fun e => h (ByteArray.ext_iff.2 (Array.toList_inj.1 e))
    simpa using this
theorem all_eqG {α : Type} [DecidableEq α] (z : α) {x y : List α} (h : x.length = y.length) : ((List.range x.length).all fun i => decide (x.getD i z = y.getD i z)) = decide (x = y) := by
  by_cases e : x = y
  · subst e; simp
  · rw [decide_eq_false e]
    have : ¬ ∀ i, i < x.length → x.getD i z = y.getD i z := fun hall => e (List.ext_getElem h fun i h1 h2 => by
      have := hall i h1
      simpa [List.getD_eq_getElem?_getD, h1, h2] using this)
    simp only [Bool.eq_false_iff, ne_eq, List.all_eq_true, List.mem_range, decide_eq_true_eq]
    exact this
theorem arr_beq (a b : Arr) : ((a.name.toList == b.name.toList) && ((decide (a.width = b.width)) && ((decide (a.len = b.len)) && ((decide (a.kind = b.kind)) && (decide (a.factor = b.factor)))))) = decide (a = b) := by
  rw [bytes_beq]
  cases a; cases b
  simp only [Arr.mk.injEq, Bool.decide_and]
theorem strm_beq (a b : Strm) : ((a.name.toList == b.name.toList) && ((decide (a.width = b.width)) && (a.out == b.out))) = decide (a = b) := by
  rw [bytes_beq]
  cases a with
  | mk n1 w1 o1 =>
    cases b with
    | mk n2 w2 o2 =>
      simp only [Strm.mk.injEq, Bool.decide_and]
      cases o1 <;> cases o2 <;> rfl
def Sp.sameArrs (x y : List Arr) : Bool := decide (x = y)
def Sp.sameStrms (x y : List Strm) : Bool := decide (x = y)
def Sp.sameEdge (x y : Edge) : Bool := decide (x = y)
def Sp.sameInst (x y : Inst) : Bool := decide (x = y)
theorem ok55 (x y : List Arr) (hx : x.length ≤ LEN) : go55 x y = some (decide (x = y), ()) := by
  rw [lenVal] at hx
  unfold go55 go55_l1
  simp only [arr_beq]
  by_cases h : (x.length : Int) = y.length
  · have h' : x.length = y.length := by omega
    simp (maxSteps := 1000000) (disch := ((try dsimp only); omega)) only [↓grd_dec, ↓grd_blt, ↓grd_true, ↓jpO_eq, ↓callB_some, ↓callB_grd, ↓bif_decide, ↓sumO_inl, ↓sumO_inr, ↓if_pos, ↓if_neg, ↓cond_true, ↓cond_false, ↓bif_not, Int.toNat_natCast, Bool.not_true, Bool.not_false, decide_true, decide_false, Bool.false_eq_true, ↓if_true, ↓if_false, Int.natCast_add, Int.cast_ofNat_Int, Bool.not_eq_true', decide_eq_false_iff_not, not_true_eq_false, not_false_eq_true]
    refine callB_of (whileO_all (l := List.range x.length) (st := fun i => ((x, y, ((x.length : Nat) : Int), (i : Int), ()), ())) rfl 0 (fun i => decide (x.getD i Arr.z = y.getD i Arr.z)) (A := .inl ((), ())) (B := .inr ((false, ()), ())) (fun i hi hp => ?_) (fun i hi hp => ?_) (fun _ => ?_)) ?_
    · rw [List.length_range] at hi
      rw [range_getD hi] at hp
      have hp := of_decide_eq_true hp
      simp (maxSteps := 1000000) (disch := ((try dsimp only); omega)) only [↓grd_dec, ↓grd_blt, ↓grd_true, ↓jpO_eq, ↓callB_some, ↓callB_grd, ↓bif_decide, ↓sumO_inl, ↓sumO_inr, ↓if_pos, ↓if_neg, ↓cond_true, ↓cond_false, ↓bif_not, Int.toNat_natCast, Bool.not_true, Bool.not_false, decide_true, decide_false, Bool.false_eq_true, ↓if_true, ↓if_false, Int.natCast_add, Int.cast_ofNat_Int, Bool.not_eq_true', decide_eq_false_iff_not, not_true_eq_false, not_false_eq_true]
    · rw [List.length_range] at hi
      rw [range_getD hi] at hp
      have hp := of_decide_eq_false hp
      simp (maxSteps := 1000000) (disch := ((try dsimp only); omega)) only [↓grd_dec, ↓grd_blt, ↓grd_true, ↓jpO_eq, ↓callB_some, ↓callB_grd, ↓bif_decide, ↓sumO_inl, ↓sumO_inr, ↓if_pos, ↓if_neg, ↓cond_true, ↓cond_false, ↓bif_not, Int.toNat_natCast, Bool.not_true, Bool.not_false, decide_true, decide_false, Bool.false_eq_true, ↓if_true, ↓if_false, Int.natCast_add, Int.cast_ofNat_Int, Bool.not_eq_true', decide_eq_false_iff_not, not_true_eq_false, not_false_eq_true]
    · rw [List.length_range]; simp (maxSteps := 1000000) (disch := ((try dsimp only); omega)) only [↓grd_dec, ↓grd_blt, ↓grd_true, ↓jpO_eq, ↓callB_some, ↓callB_grd, ↓bif_decide, ↓sumO_inl, ↓sumO_inr, ↓if_pos, ↓if_neg, ↓cond_true, ↓cond_false, ↓bif_not, Int.toNat_natCast, Bool.not_true, Bool.not_false, decide_true, decide_false, Bool.false_eq_true, ↓if_true, ↓if_false, Int.natCast_add, Int.cast_ofNat_Int, Bool.not_eq_true', decide_eq_false_iff_not, not_true_eq_false, not_false_eq_true]
    · rw [all_eqG Arr.z h']
      by_cases e : x = y
      · rw [decide_eq_true e]; rfl
      · rw [decide_eq_false e]; rfl
  · have e : x ≠ y := fun e => h (by rw [e])
    rw [decide_eq_false e]
    simp (maxSteps := 1000000) (disch := ((try dsimp only); omega)) only [↓grd_dec, ↓grd_blt, ↓grd_true, ↓jpO_eq, ↓callB_some, ↓callB_grd, ↓bif_decide, ↓sumO_inl, ↓sumO_inr, ↓if_pos, ↓if_neg, ↓cond_true, ↓cond_false, ↓bif_not, Int.toNat_natCast, Bool.not_true, Bool.not_false, decide_true, decide_false, Bool.false_eq_true, ↓if_true, ↓if_false, Int.natCast_add, Int.cast_ofNat_Int, Bool.not_eq_true', decide_eq_false_iff_not, not_true_eq_false, not_false_eq_true]
def c55 : Ctr Try.prog := mkCtr 55 Try.f55 Try.func55 [] ann55 [(0, (.fz (.st 4))), (1, (.fz (.st 4)))] [] .b [] (fun x _ => grd (okB (x.1.length ≤ LEN)) (some (Sp.sameArrs x.1 x.2.1, ()))) (fun x _ r h => FO (run55 x.1 x.2.1) (ok55 x.1 x.2.1) h)
theorem ok56 (x y : List Strm) (hx : x.length ≤ LEN) : go56 x y = some (decide (x = y), ()) := by
  rw [lenVal] at hx
  unfold go56 go56_l1
  simp only [strm_beq]
  by_cases h : (x.length : Int) = y.length
  · have h' : x.length = y.length := by omega
    simp (maxSteps := 1000000) (disch := ((try dsimp only); omega)) only [↓grd_dec, ↓grd_blt, ↓grd_true, ↓jpO_eq, ↓callB_some, ↓callB_grd, ↓bif_decide, ↓sumO_inl, ↓sumO_inr, ↓if_pos, ↓if_neg, ↓cond_true, ↓cond_false, ↓bif_not, Int.toNat_natCast, Bool.not_true, Bool.not_false, decide_true, decide_false, Bool.false_eq_true, ↓if_true, ↓if_false, Int.natCast_add, Int.cast_ofNat_Int, Bool.not_eq_true', decide_eq_false_iff_not, not_true_eq_false, not_false_eq_true]
    refine callB_of (whileO_all (l := List.range x.length) (st := fun i => ((x, y, ((x.length : Nat) : Int), (i : Int), ()), ())) rfl 0 (fun i => decide (x.getD i Strm.z = y.getD i Strm.z)) (A := .inl ((), ())) (B := .inr ((false, ()), ())) (fun i hi hp => ?_) (fun i hi hp => ?_) (fun _ => ?_)) ?_
    · rw [List.length_range] at hi
      rw [range_getD hi] at hp
      have hp := of_decide_eq_true hp
      simp (maxSteps := 1000000) (disch := ((try dsimp only); omega)) only [↓grd_dec, ↓grd_blt, ↓grd_true, ↓jpO_eq, ↓callB_some, ↓callB_grd, ↓bif_decide, ↓sumO_inl, ↓sumO_inr, ↓if_pos, ↓if_neg, ↓cond_true, ↓cond_false, ↓bif_not, Int.toNat_natCast, Bool.not_true, Bool.not_false, decide_true, decide_false, Bool.false_eq_true, ↓if_true, ↓if_false, Int.natCast_add, Int.cast_ofNat_Int, Bool.not_eq_true', decide_eq_false_iff_not, not_true_eq_false, not_false_eq_true]
    · rw [List.length_range] at hi
      rw [range_getD hi] at hp
      have hp := of_decide_eq_false hp
      simp (maxSteps := 1000000) (disch := ((try dsimp only); omega)) only [↓grd_dec, ↓grd_blt, ↓grd_true, ↓jpO_eq, ↓callB_some, ↓callB_grd, ↓bif_decide, ↓sumO_inl, ↓sumO_inr, ↓if_pos, ↓if_neg, ↓cond_true, ↓cond_false, ↓bif_not, Int.toNat_natCast, Bool.not_true, Bool.not_false, decide_true, decide_false, Bool.false_eq_true, ↓if_true, ↓if_false, Int.natCast_add, Int.cast_ofNat_Int, Bool.not_eq_true', decide_eq_false_iff_not, not_true_eq_false, not_false_eq_true]
    · rw [List.length_range]; simp (maxSteps := 1000000) (disch := ((try dsimp only); omega)) only [↓grd_dec, ↓grd_blt, ↓grd_true, ↓jpO_eq, ↓callB_some, ↓callB_grd, ↓bif_decide, ↓sumO_inl, ↓sumO_inr, ↓if_pos, ↓if_neg, ↓cond_true, ↓cond_false, ↓bif_not, Int.toNat_natCast, Bool.not_true, Bool.not_false, decide_true, decide_false, Bool.false_eq_true, ↓if_true, ↓if_false, Int.natCast_add, Int.cast_ofNat_Int, Bool.not_eq_true', decide_eq_false_iff_not, not_true_eq_false, not_false_eq_true]
    · rw [all_eqG Strm.z h']
      by_cases e : x = y
      · rw [decide_eq_true e]; rfl
      · rw [decide_eq_false e]; rfl
  · have e : x ≠ y := fun e => h (by rw [e])
    rw [decide_eq_false e]
    simp (maxSteps := 1000000) (disch := ((try dsimp only); omega)) only [↓grd_dec, ↓grd_blt, ↓grd_true, ↓jpO_eq, ↓callB_some, ↓callB_grd, ↓bif_decide, ↓sumO_inl, ↓sumO_inr, ↓if_pos, ↓if_neg, ↓cond_true, ↓cond_false, ↓bif_not, Int.toNat_natCast, Bool.not_true, Bool.not_false, decide_true, decide_false, Bool.false_eq_true, ↓if_true, ↓if_false, Int.natCast_add, Int.cast_ofNat_Int, Bool.not_eq_true', decide_eq_false_iff_not, not_true_eq_false, not_false_eq_true]
def c56 : Ctr Try.prog := mkCtr 56 Try.f56 Try.func56 [] ann56 [(0, (.fz (.st 5))), (1, (.fz (.st 5)))] [] .b [] (fun x _ => grd (okB (x.1.length ≤ LEN)) (some (Sp.sameStrms x.1 x.2.1, ()))) (fun x _ r h => FO (run56 x.1 x.2.1) (ok56 x.1 x.2.1) h)
theorem ok99 (a b : Edge) (h : a.args.length ≤ LEN) : go99 a b = some (decide (a = b), ()) := by
  unfold go99
  rw [grd_ok h]
  cases a; cases b
  simp only [Edge.mk.injEq, Bool.decide_and, callB_some]
  rename_i b1 a1 b2 a2
  cases decide (b1 = b2) <;> rfl
def c99 : Ctr Try.prog := mkCtr 99 Try.f99 Try.func99 [c54] ann99 [(0, (.st 1)), (1, (.st 1))] [] .b [] (fun x _ => grd (okB (x.1.args.length ≤ LEN)) (some (Sp.sameEdge x.1 x.2.1, ()))) (fun x _ r h => FO (run99 x.1 x.2.1) (ok99 x.1 x.2.1) h)
theorem inst_eq (a b : Inst) : decide (a = b) = (decide (a.op = b.op) && (decide (a.dest = b.dest) && (decide (a.args = b.args) && (decide (a.num = b.num) && decide (a.mem = b.mem))))) := by
  cases a; cases b
  simp only [Inst.mk.injEq, Bool.decide_and]
theorem ok97 (a b : Inst) (h : a.args.length ≤ LEN) : go97 a b = some (decide (a = b), ()) := by
  unfold go97
  rw [grd_ok h, inst_eq]
  simp only [callB_some]
  cases decide (a.op = b.op) <;> cases decide (a.dest = b.dest) <;> cases decide (a.num = b.num) <;> cases decide (a.mem = b.mem) <;> cases decide (a.args = b.args) <;> rfl
def c97 : Ctr Try.prog := mkCtr 97 Try.f97 Try.func97 [c54] ann97 [(0, (.st 0)), (1, (.st 0))] [] .b [] (fun x _ => grd (okB (x.1.args.length ≤ LEN)) (some (Sp.sameInst x.1 x.2.1, ()))) (fun x _ r h => FO (run97 x.1 x.2.1) (ok97 x.1 x.2.1) h)
theorem ok100 (a b : Inst) (h : a.args.length ≤ LEN) : go100 a b = some (decide (a = b), ()) := by
  unfold go100
  rw [grd_ok h, inst_eq]
  simp only [callB_some]
  cases decide (a.op = b.op) <;> cases decide (a.dest = b.dest) <;> cases decide (a.num = b.num) <;> cases decide (a.mem = b.mem) <;> cases decide (a.args = b.args) <;> rfl
def c100 : Ctr Try.prog := mkCtr 100 Try.f100 Try.func100 [c39] ann100 [(0, (.st 0)), (1, (.st 0))] [] .b [] (fun x _ => grd (okB (x.1.args.length ≤ LEN)) (some (Sp.sameInst x.1 x.2.1, ()))) (fun x _ r h => FO (run100 x.1 x.2.1) (ok100 x.1 x.2.1) h)
end
end Go.Abs


set_option linter.unusedVariables false
set_option linter.unusedSectionVars false
set_option linter.unusedSimpArgs false
set_option maxHeartbeats 1000000
namespace Go.Abs
open Go Go.Proofs
noncomputable section
def ann98 : Ann := (.seq .o (.join ⟨[(0, (.fz (.st 1))), (1, (.fz (.st 1))), (2, (.fn 99 []))], []⟩ (.seq .o (.cond (.seq .o .o) .o)) (.join ⟨[], []⟩ (.seq .o (.block (.loop ⟨[(1, (.fz (.st 1))), (2, (.fn 99 [])), (15, (.fz (.st 1))), (16, (.i .i64)), (17, (.i .i64))], []⟩ [((.exit 0), ⟨[], []⟩), (.ret, ⟨[(6, .b)], []⟩)] (.seq .o (.join ⟨[(1, (.fz (.st 1))), (2, (.fn 99 [])), (15, (.fz (.st 1))), (16, (.i .i64)), (17, (.i .i64))], []⟩ (.cond .o .o) (.join ⟨[(1, (.fz (.st 1))), (2, (.fn 99 [])), (15, (.fz (.st 1))), (16, (.i .i64)), (17, (.i .i64))], []⟩ (.block (.seq .o (.seq .o (.seq .o (.cond (.seq .o .o) .o))))) .o)))))) (.seq .o .o))))
def go98_l1 : (((List Edge) × (Unit × ((List Edge) × (Int × (Int × Unit))))) × Unit) → Option ((((List Edge) × (Unit × ((List Edge) × (Int × (Int × Unit))))) × Unit) ⊕ ((Unit × Unit) ⊕ ((Bool × Unit) × Unit))) := (fun (r0 : (((List Edge) × (Unit × ((List Edge) × (Int × (Int × Unit))))) × Unit)) => (bif (decide (r0.1.2.2.2.2.1 < r0.1.2.2.2.1)) then
      (grd (okB (((0 : Int) ≤ r0.1.2.2.2.2.1) ∧ (r0.1.2.2.2.2.1 < ((r0.1.2.2.1.length : Nat) : Int))))
        (grd (okB (((0 : Int) ≤ r0.1.2.2.2.2.1) ∧ (r0.1.2.2.2.2.1 < ((r0.1.1.length : Nat) : Int))))
          (callB (grd (okB ((r0.1.2.2.1.getD r0.1.2.2.2.2.1.toNat Edge.z).args.length ≤ LEN))
              (some ((Sp.sameEdge (r0.1.2.2.1.getD r0.1.2.2.2.2.1.toNat Edge.z) (r0.1.1.getD r0.1.2.2.2.2.1.toNat Edge.z)), ())))
            (fun (r1 : (Bool × Unit)) => (bif (!r1.1) then
                (some (Sum.inr (Sum.inr ((false, ()), ()))))
                else
                (grd (okB (((-(9223372036854775808 : Int)) ≤ (r0.1.2.2.2.2.1 + (1 : Int))) ∧ ((r0.1.2.2.2.2.1 + (1 : Int)) ≤ (9223372036854775807 : Int))))
                  (some (Sum.inl ((r0.1.1, ((), (r0.1.2.2.1, (r0.1.2.2.2.1, ((r0.1.2.2.2.2.1 + (1 : Int)), ()))))), ())))))))))
      else
      (some (Sum.inr (Sum.inl ((), ()))))))
def go98 (x0 : (List Edge)) (x1 : (List Edge)) (x2 : Unit) : (Option (Bool × Unit)) :=
  (bif (!(decide (((x0.length : Nat) : Int) = ((x1.length : Nat) : Int)))) then
    (some (false, ()))
    else
    (callB (whileO (go98_l1) ((x1, ((), (x0, (((x0.length : Nat) : Int), ((0 : Int), ()))))), ()))
      (fun (z0 : ((Unit × Unit) ⊕ ((Bool × Unit) × Unit))) => (sumO (fun (z1 : (Unit × Unit)) => (some (true, ())))
          (fun (z1 : ((Bool × Unit) × Unit)) => (some (z1.1.1, ()))) z0))))
theorem run98 (x0 : (List Edge)) (x1 : (List Edge)) (x2 : Unit) : runF (P := Try.prog) [c99] Try.f98 ann98 [(0, (.fz (.st 1))), (1, (.fz (.st 1))), (2, (.fn 99 []))] [] .b [] (x0, (x1, (x2, ()))) () = go98 x0 x1 x2 := by kernel_rfl
def ann96 : Ann := (.seq .o (.join ⟨[(0, (.fz (.st 0))), (1, (.fz (.st 0))), (2, (.fn 97 []))], []⟩ (.seq .o (.cond (.seq .o .o) .o)) (.join ⟨[], []⟩ (.seq .o (.block (.loop ⟨[(1, (.fz (.st 0))), (2, (.fn 97 [])), (15, (.fz (.st 0))), (16, (.i .i64)), (17, (.i .i64))], []⟩ [((.exit 0), ⟨[], []⟩), (.ret, ⟨[(6, .b)], []⟩)] (.seq .o (.join ⟨[(1, (.fz (.st 0))), (2, (.fn 97 [])), (15, (.fz (.st 0))), (16, (.i .i64)), (17, (.i .i64))], []⟩ (.cond .o .o) (.join ⟨[(1, (.fz (.st 0))), (2, (.fn 97 [])), (15, (.fz (.st 0))), (16, (.i .i64)), (17, (.i .i64))], []⟩ (.block (.seq .o (.seq .o (.seq .o (.cond (.seq .o .o) .o))))) .o)))))) (.seq .o .o))))
def go96_l1 : (((List Inst) × (Unit × ((List Inst) × (Int × (Int × Unit))))) × Unit) → Option ((((List Inst) × (Unit × ((List Inst) × (Int × (Int × Unit))))) × Unit) ⊕ ((Unit × Unit) ⊕ ((Bool × Unit) × Unit))) := (fun (r0 : (((List Inst) × (Unit × ((List Inst) × (Int × (Int × Unit))))) × Unit)) => (bif (decide (r0.1.2.2.2.2.1 < r0.1.2.2.2.1)) then
      (grd (okB (((0 : Int) ≤ r0.1.2.2.2.2.1) ∧ (r0.1.2.2.2.2.1 < ((r0.1.2.2.1.length : Nat) : Int))))
        (grd (okB (((0 : Int) ≤ r0.1.2.2.2.2.1) ∧ (r0.1.2.2.2.2.1 < ((r0.1.1.length : Nat) : Int))))
          (callB (grd (okB ((r0.1.2.2.1.getD r0.1.2.2.2.2.1.toNat Inst.z).args.length ≤ LEN))
              (some ((Sp.sameInst (r0.1.2.2.1.getD r0.1.2.2.2.2.1.toNat Inst.z) (r0.1.1.getD r0.1.2.2.2.2.1.toNat Inst.z)), ())))
            (fun (r1 : (Bool × Unit)) => (bif (!r1.1) then
                (some (Sum.inr (Sum.inr ((false, ()), ()))))
                else
                (grd (okB (((-(9223372036854775808 : Int)) ≤ (r0.1.2.2.2.2.1 + (1 : Int))) ∧ ((r0.1.2.2.2.2.1 + (1 : Int)) ≤ (9223372036854775807 : Int))))
                  (some (Sum.inl ((r0.1.1, ((), (r0.1.2.2.1, (r0.1.2.2.2.1, ((r0.1.2.2.2.2.1 + (1 : Int)), ()))))), ())))))))))
      else
      (some (Sum.inr (Sum.inl ((), ()))))))
def go96 (x0 : (List Inst)) (x1 : (List Inst)) (x2 : Unit) : (Option (Bool × Unit)) :=
  (bif (!(decide (((x0.length : Nat) : Int) = ((x1.length : Nat) : Int)))) then
    (some (false, ()))
    else
    (callB (whileO (go96_l1) ((x1, ((), (x0, (((x0.length : Nat) : Int), ((0 : Int), ()))))), ()))
      (fun (z0 : ((Unit × Unit) ⊕ ((Bool × Unit) × Unit))) => (sumO (fun (z1 : (Unit × Unit)) => (some (true, ())))
          (fun (z1 : ((Bool × Unit) × Unit)) => (some (z1.1.1, ()))) z0))))
theorem run96 (x0 : (List Inst)) (x1 : (List Inst)) (x2 : Unit) : runF (P := Try.prog) [c97] Try.f96 ann96 [(0, (.fz (.st 0))), (1, (.fz (.st 0))), (2, (.fn 97 []))] [] .b [] (x0, (x1, (x2, ()))) () = go96 x0 x1 x2 := by kernel_rfl
def ann59 : Ann := (.seq .o (.join ⟨[(2, (.ptr 0 0)), (3, (.ptr 1 0))], [(.box 41 (.st 3)), (.box 41 (.st 3))]⟩ (.seq .o (.cond (.seq .o .o) .o)) (.join ⟨[(2, (.ptr 0 0)), (3, (.ptr 1 0))], [(.box 41 (.st 3)), (.box 41 (.st 3))]⟩ (.seq .o (.block (.loop ⟨[(2, (.ptr 0 0)), (3, (.ptr 1 0)), (5, (.i .i64))], [(.box 41 (.st 3)), (.box 41 (.st 3))]⟩ [((.exit 0), ⟨[(2, (.ptr 0 0)), (3, (.ptr 1 0))], [(.box 41 (.st 3)), (.box 41 (.st 3))]⟩), (.ret, ⟨[(4, .b)], []⟩)] (.join ⟨[(2, (.ptr 0 0)), (3, (.ptr 1 0)), (5, (.i .i64))], [(.box 41 (.st 3)), (.box 41 (.st 3))]⟩ (.seq .o (.cond .o .o)) (.join ⟨[(2, (.ptr 0 0)), (3, (.ptr 1 0)), (5, (.i .i64))], [(.box 41 (.st 3)), (.box 41 (.st 3))]⟩ (.block (.seq .o (.cond (.seq .o .o) .o))) .o))))) (.join ⟨[], []⟩ (.seq .o (.block (.loop ⟨[(2, (.ptr 0 0)), (3, (.ptr 1 0)), (6, (.i .i64))], [(.box 41 (.st 3)), (.box 41 (.st 3))]⟩ [((.exit 2), ⟨[], []⟩), (.ret, ⟨[(4, .b)], []⟩)] (.join ⟨[(2, (.ptr 0 0)), (3, (.ptr 1 0)), (6, (.i .i64))], [(.box 41 (.st 3)), (.box 41 (.st 3))]⟩ (.seq .o (.cond .o .o)) (.join ⟨[(2, (.ptr 0 0)), (3, (.ptr 1 0)), (6, (.i .i64))], [(.box 41 (.st 3)), (.box 41 (.st 3))]⟩ (.block (.seq .o (.cond (.seq .o .o) .o))) .o))))) (.seq .o .o)))))
def go59_l2 : ((Unit × (Unit × (Int × Unit))) × (Block × (Block × Unit))) → Option (((Unit × (Unit × (Int × Unit))) × (Block × (Block × Unit))) ⊕ ((Unit × Unit) ⊕ ((Bool × Unit) × Unit))) := (fun (r2 : ((Unit × (Unit × (Int × Unit))) × (Block × (Block × Unit)))) => (bif (decide (r2.1.2.2.1 < ((r2.2.1.term.to.length : Nat) : Int))) then
      (grd (okB (((0 : Int) ≤ r2.1.2.2.1) ∧ (r2.1.2.2.1 < ((r2.2.1.term.to.length : Nat) : Int))))
        (grd (okB (((0 : Int) ≤ r2.1.2.2.1) ∧ (r2.1.2.2.1 < ((r2.2.2.1.term.to.length : Nat) : Int))))
          (bif (!(decide ((r2.2.1.term.to.getD r2.1.2.2.1.toNat Edge.z).block = (r2.2.2.1.term.to.getD r2.1.2.2.1.toNat Edge.z).block))) then
            (some (Sum.inr (Sum.inr ((false, ()), ()))))
            else
            (grd (okB (((0 : Int) ≤ r2.1.2.2.1) ∧ (r2.1.2.2.1 < ((r2.2.1.term.to.length : Nat) : Int))))
              (grd (okB (((0 : Int) ≤ r2.1.2.2.1) ∧ (r2.1.2.2.1 < ((r2.2.2.1.term.to.length : Nat) : Int))))
                (callB (grd (okB ((r2.2.1.term.to.getD r2.1.2.2.1.toNat Edge.z).args.length ≤ LEN))
                    (some ((decide ((r2.2.1.term.to.getD r2.1.2.2.1.toNat Edge.z).args = (r2.2.2.1.term.to.getD r2.1.2.2.1.toNat Edge.z).args)), ())))
                  (fun (r3 : (Bool × Unit)) => (bif (!r3.1) then
                      (some (Sum.inr (Sum.inr ((false, ()), ()))))
                      else
                      (grd (okB (((-(9223372036854775808 : Int)) ≤ (r2.1.2.2.1 + (1 : Int))) ∧ ((r2.1.2.2.1 + (1 : Int)) ≤ (9223372036854775807 : Int))))
                        (some (Sum.inl (((), ((), ((r2.1.2.2.1 + (1 : Int)), ()))), (r2.2.1, (r2.2.2.1, ()))))))))))))))
      else
      (some (Sum.inr (Sum.inl ((), ()))))))
def go59_l1 : ((Unit × (Unit × (Int × Unit))) × (Block × (Block × Unit))) → Option (((Unit × (Unit × (Int × Unit))) × (Block × (Block × Unit))) ⊕ (((Unit × (Unit × Unit)) × (Block × (Block × Unit))) ⊕ ((Bool × Unit) × Unit))) := (fun (r2 : ((Unit × (Unit × (Int × Unit))) × (Block × (Block × Unit)))) => (bif (decide (r2.1.2.2.1 < ((r2.2.1.insts.length : Nat) : Int))) then
      (grd (okB (((0 : Int) ≤ r2.1.2.2.1) ∧ (r2.1.2.2.1 < ((r2.2.1.insts.length : Nat) : Int))))
        (grd (okB (((0 : Int) ≤ r2.1.2.2.1) ∧ (r2.1.2.2.1 < ((r2.2.2.1.insts.length : Nat) : Int))))
          (callB (grd (okB ((r2.2.1.insts.getD r2.1.2.2.1.toNat Inst.z).args.length ≤ LEN))
              (some ((Sp.sameInst (r2.2.1.insts.getD r2.1.2.2.1.toNat Inst.z) (r2.2.2.1.insts.getD r2.1.2.2.1.toNat Inst.z)), ())))
            (fun (r3 : (Bool × Unit)) => (bif (!r3.1) then
                (some (Sum.inr (Sum.inr ((false, ()), ()))))
                else
                (grd (okB (((-(9223372036854775808 : Int)) ≤ (r2.1.2.2.1 + (1 : Int))) ∧ ((r2.1.2.2.1 + (1 : Int)) ≤ (9223372036854775807 : Int))))
                  (some (Sum.inl (((), ((), ((r2.1.2.2.1 + (1 : Int)), ()))), (r2.2.1, (r2.2.2.1, ())))))))))))
      else
      (some (Sum.inr (Sum.inl (((), ((), ())), (r2.2.1, (r2.2.2.1, ()))))))))
def go59 (x0 : Block) (x1 : Block) : (Option (Bool × Unit)) :=
  (callB (grd (okB (x0.params.length ≤ LEN))
      (some ((decide (x0.params = x1.params)), ())))
    (fun (r0 : (Bool × Unit)) => (bif (!r0.1) then
        (some (false, ()))
        else
        (bif (!(decide (((x0.insts.length : Nat) : Int) = ((x1.insts.length : Nat) : Int)))) then
          (some (false, ()))
          else
          (bif (!(decide (x0.pipeline = x1.pipeline))) then
            (some (false, ()))
            else
            (bif (!(decide (x0.unroll = x1.unroll))) then
              (some (false, ()))
              else
              (bif (!(decide (x0.line = x1.line))) then
                (some (false, ()))
                else
                (bif (!(decide (x0.term.kind = x1.term.kind))) then
                  (some (false, ()))
                  else
                  (bif (!(decide (x0.term.cond = x1.term.cond))) then
                    (some (false, ()))
                    else
                    (callB (grd (okB (x0.term.rets.length ≤ LEN))
                        (some ((decide (x0.term.rets = x1.term.rets)), ())))
                      (fun (r1 : (Bool × Unit)) => (bif (!r1.1) then
                          (some (false, ()))
                          else
                          (bif (!(decide (((x0.term.to.length : Nat) : Int) = ((x1.term.to.length : Nat) : Int)))) then
                            (some (false, ()))
                            else
                            (callB (whileO (go59_l1) (((), ((), ((0 : Int), ()))), (x0, (x1, ()))))
                              (fun (z0 : (((Unit × (Unit × Unit)) × (Block × (Block × Unit))) ⊕ ((Bool × Unit) × Unit))) => (sumO (fun (z1 : ((Unit × (Unit × Unit)) × (Block × (Block × Unit)))) => (callB (whileO (go59_l2) (((), ((), ((0 : Int), ()))), (z1.2.1, (z1.2.2.1, ()))))
                                      (fun (z2 : ((Unit × Unit) ⊕ ((Bool × Unit) × Unit))) => (sumO (fun (z3 : (Unit × Unit)) => (some (true, ())))
                                          (fun (z3 : ((Bool × Unit) × Unit)) => (some (z3.1.1, ()))) z2))))
                                  (fun (z1 : ((Bool × Unit) × Unit)) => (some (z1.1.1, ()))) z0))))))))))))))))
theorem run59 (x0 : Block) (x1 : Block) : runF (P := Try.prog) [c39, c100] Try.f59 ann59 [(0, (.st 3)), (1, (.st 3))] [] .b [] (x0, (x1, ())) () = go59 x0 x1 := by kernel_rfl
theorem all_at {α : Type} {b i : Nat} {ok : α → Prop} {l : List α} {z : α} (h : All b ok l) (hi : i < l.length) : ok (l.getD i z) := by
  refine h.2 _ ?_
  rw [List.getD_eq_getElem?_getD, List.getElem?_eq_getElem hi, Option.getD_some]
  exact List.getElem_mem hi
def Sp.sameEdges (x y : List Edge) : Bool := decide (x = y)
def Sp.sameInsts (x y : List Inst) : Bool := decide (x = y)
def Sp.sameBlock (x y : Block) : Bool := decide (x = y)
theorem ok98 (x y : List Edge) (h : All 32 Edge.ok x) : go98 x y () = some (decide (x = y), ()) := by
  have hx := h.len
  rw [lenVal] at hx
  unfold go98 go98_l1
  by_cases hl : (x.length : Int) = y.length
  · have h' : x.length = y.length := by omega
    have hg : ∀ i, i < x.length → (x.getD i Edge.z).args.length ≤ LEN := fun i hi => (all_at (z := Edge.z) h hi).2.len
    simp (maxSteps := 1000000) (disch := ((try dsimp only); omega)) only [↓grd_dec, ↓grd_blt, ↓grd_true, ↓jpO_eq, ↓callB_some, ↓callB_grd, ↓bif_decide, ↓sumO_inl, ↓sumO_inr, ↓if_pos, ↓if_neg, ↓cond_true, ↓cond_false, ↓bif_not, Int.toNat_natCast, Bool.not_true, Bool.not_false, decide_true, decide_false, Bool.false_eq_true, ↓if_true, ↓if_false, Int.natCast_add, Int.cast_ofNat_Int, Bool.not_eq_true', decide_eq_false_iff_not, not_true_eq_false, not_false_eq_true]
    refine callB_of (whileO_all (l := List.range x.length) (st := fun i => ((y, (), x, ((x.length : Nat) : Int), (i : Int), ()), ())) rfl 0 (fun i => decide (x.getD i Edge.z = y.getD i Edge.z)) (A := .inl ((), ())) (B := .inr ((false, ()), ())) (fun i hi hp => ?_) (fun i hi hp => ?_) (fun _ => ?_)) ?_
    · rw [List.length_range] at hi
      rw [range_getD hi] at hp
      have hgi := hg i hi
      simp only [Int.toNat_natCast, grd_ok hgi, Sp.sameEdge, hp]
      simp (maxSteps := 1000000) (disch := ((try dsimp only); omega)) only [↓grd_dec, ↓grd_blt, ↓grd_true, ↓jpO_eq, ↓callB_some, ↓callB_grd, ↓bif_decide, ↓sumO_inl, ↓sumO_inr, ↓if_pos, ↓if_neg, ↓cond_true, ↓cond_false, ↓bif_not, Int.toNat_natCast, Bool.not_true, Bool.not_false, decide_true, decide_false, Bool.false_eq_true, ↓if_true, ↓if_false, Int.natCast_add, Int.cast_ofNat_Int, Bool.not_eq_true', decide_eq_false_iff_not, not_true_eq_false, not_false_eq_true]
    · rw [List.length_range] at hi
      rw [range_getD hi] at hp
      have hgi := hg i hi
      simp only [Int.toNat_natCast, grd_ok hgi, Sp.sameEdge, hp]
      simp (maxSteps := 1000000) (disch := ((try dsimp only); omega)) only [↓grd_dec, ↓grd_blt, ↓grd_true, ↓jpO_eq, ↓callB_some, ↓callB_grd, ↓bif_decide, ↓sumO_inl, ↓sumO_inr, ↓if_pos, ↓if_neg, ↓cond_true, ↓cond_false, ↓bif_not, Int.toNat_natCast, Bool.not_true, Bool.not_false, decide_true, decide_false, Bool.false_eq_true, ↓if_true, ↓if_false, Int.natCast_add, Int.cast_ofNat_Int, Bool.not_eq_true', decide_eq_false_iff_not, not_true_eq_false, not_false_eq_true]
    · rw [List.length_range]; simp (maxSteps := 1000000) (disch := ((try dsimp only); omega)) only [↓grd_dec, ↓grd_blt, ↓grd_true, ↓jpO_eq, ↓callB_some, ↓callB_grd, ↓bif_decide, ↓sumO_inl, ↓sumO_inr, ↓if_pos, ↓if_neg, ↓cond_true, ↓cond_false, ↓bif_not, Int.toNat_natCast, Bool.not_true, Bool.not_false, decide_true, decide_false, Bool.false_eq_true, ↓if_true, ↓if_false, Int.natCast_add, Int.cast_ofNat_Int, Bool.not_eq_true', decide_eq_false_iff_not, not_true_eq_false, not_false_eq_true]
    · rw [all_eqG Edge.z h']
      by_cases e : x = y
      · rw [decide_eq_true e]; rfl
      · rw [decide_eq_false e]; rfl
  · have e : x ≠ y := fun e => hl (by rw [e])
    rw [decide_eq_false e]
    simp (maxSteps := 1000000) (disch := ((try dsimp only); omega)) only [↓grd_dec, ↓grd_blt, ↓grd_true, ↓jpO_eq, ↓callB_some, ↓callB_grd, ↓bif_decide, ↓sumO_inl, ↓sumO_inr, ↓if_pos, ↓if_neg, ↓cond_true, ↓cond_false, ↓bif_not, Int.toNat_natCast, Bool.not_true, Bool.not_false, decide_true, decide_false, Bool.false_eq_true, ↓if_true, ↓if_false, Int.natCast_add, Int.cast_ofNat_Int, Bool.not_eq_true', decide_eq_false_iff_not, not_true_eq_false, not_false_eq_true]
def c98 : Ctr Try.prog := mkCtr 98 Try.f98 Try.func98 [c99] ann98 [(0, (.fz (.st 1))), (1, (.fz (.st 1))), (2, (.fn 99 []))] [] .b [] (fun x _ => grd (okB (All 32 Edge.ok x.1)) (some (Sp.sameEdges x.1 x.2.1, ()))) (fun x _ r h => FO (run98 x.1 x.2.1 ()) (ok98 x.1 x.2.1) h)
theorem ok96 (x y : List Inst) (h : All 56 Inst.ok x) : go96 x y () = some (decide (x = y), ()) := by
  have hx := h.len
  rw [lenVal] at hx
  unfold go96 go96_l1
  by_cases hl : (x.length : Int) = y.length
  · have h' : x.length = y.length := by omega
    have hg : ∀ i, i < x.length → (x.getD i Inst.z).args.length ≤ LEN := fun i hi => (all_at (z := Inst.z) h hi).2.2.1.len
    simp (maxSteps := 1000000) (disch := ((try dsimp only); omega)) only [↓grd_dec, ↓grd_blt, ↓grd_true, ↓jpO_eq, ↓callB_some, ↓callB_grd, ↓bif_decide, ↓sumO_inl, ↓sumO_inr, ↓if_pos, ↓if_neg, ↓cond_true, ↓cond_false, ↓bif_not, Int.toNat_natCast, Bool.not_true, Bool.not_false, decide_true, decide_false, Bool.false_eq_true, ↓if_true, ↓if_false, Int.natCast_add, Int.cast_ofNat_Int, Bool.not_eq_true', decide_eq_false_iff_not, not_true_eq_false, not_false_eq_true]
    refine callB_of (whileO_all (l := List.range x.length) (st := fun i => ((y, (), x, ((x.length : Nat) : Int), (i : Int), ()), ())) rfl 0 (fun i => decide (x.getD i Inst.z = y.getD i Inst.z)) (A := .inl ((), ())) (B := .inr ((false, ()), ())) (fun i hi hp => ?_) (fun i hi hp => ?_) (fun _ => ?_)) ?_
    · rw [List.length_range] at hi
      rw [range_getD hi] at hp
      have hgi := hg i hi
      simp only [Int.toNat_natCast, grd_ok hgi, Sp.sameInst, hp]
      simp (maxSteps := 1000000) (disch := ((try dsimp only); omega)) only [↓grd_dec, ↓grd_blt, ↓grd_true, ↓jpO_eq, ↓callB_some, ↓callB_grd, ↓bif_decide, ↓sumO_inl, ↓sumO_inr, ↓if_pos, ↓if_neg, ↓cond_true, ↓cond_false, ↓bif_not, Int.toNat_natCast, Bool.not_true, Bool.not_false, decide_true, decide_false, Bool.false_eq_true, ↓if_true, ↓if_false, Int.natCast_add, Int.cast_ofNat_Int, Bool.not_eq_true', decide_eq_false_iff_not, not_true_eq_false, not_false_eq_true]
    · rw [List.length_range] at hi
      rw [range_getD hi] at hp
      have hgi := hg i hi
      simp only [Int.toNat_natCast, grd_ok hgi, Sp.sameInst, hp]
      simp (maxSteps := 1000000) (disch := ((try dsimp only); omega)) only [↓grd_dec, ↓grd_blt, ↓grd_true, ↓jpO_eq, ↓callB_some, ↓callB_grd, ↓bif_decide, ↓sumO_inl, ↓sumO_inr, ↓if_pos, ↓if_neg, ↓cond_true, ↓cond_false, ↓bif_not, Int.toNat_natCast, Bool.not_true, Bool.not_false, decide_true, decide_false, Bool.false_eq_true, ↓if_true, ↓if_false, Int.natCast_add, Int.cast_ofNat_Int, Bool.not_eq_true', decide_eq_false_iff_not, not_true_eq_false, not_false_eq_true]
    · rw [List.length_range]; simp (maxSteps := 1000000) (disch := ((try dsimp only); omega)) only [↓grd_dec, ↓grd_blt, ↓grd_true, ↓jpO_eq, ↓callB_some, ↓callB_grd, ↓bif_decide, ↓sumO_inl, ↓sumO_inr, ↓if_pos, ↓if_neg, ↓cond_true, ↓cond_false, ↓bif_not, Int.toNat_natCast, Bool.not_true, Bool.not_false, decide_true, decide_false, Bool.false_eq_true, ↓if_true, ↓if_false, Int.natCast_add, Int.cast_ofNat_Int, Bool.not_eq_true', decide_eq_false_iff_not, not_true_eq_false, not_false_eq_true]
    · rw [all_eqG Inst.z h']
      by_cases e : x = y
      · rw [decide_eq_true e]; rfl
      · rw [decide_eq_false e]; rfl
  · have e : x ≠ y := fun e => hl (by rw [e])
    rw [decide_eq_false e]
    simp (maxSteps := 1000000) (disch := ((try dsimp only); omega)) only [↓grd_dec, ↓grd_blt, ↓grd_true, ↓jpO_eq, ↓callB_some, ↓callB_grd, ↓bif_decide, ↓sumO_inl, ↓sumO_inr, ↓if_pos, ↓if_neg, ↓cond_true, ↓cond_false, ↓bif_not, Int.toNat_natCast, Bool.not_true, Bool.not_false, decide_true, decide_false, Bool.false_eq_true, ↓if_true, ↓if_false, Int.natCast_add, Int.cast_ofNat_Int, Bool.not_eq_true', decide_eq_false_iff_not, not_true_eq_false, not_false_eq_true]
def c96 : Ctr Try.prog := mkCtr 96 Try.f96 Try.func96 [c97] ann96 [(0, (.fz (.st 0))), (1, (.fz (.st 0))), (2, (.fn 97 []))] [] .b [] (fun x _ => grd (okB (All 56 Inst.ok x.1)) (some (Sp.sameInsts x.1 x.2.1, ()))) (fun x _ r h => FO (run96 x.1 x.2.1 ()) (ok96 x.1 x.2.1) h)
theorem term_eq (a b : Term) : a = b ↔ a.kind = b.kind ∧ a.cond = b.cond ∧ a.to = b.to ∧ a.rets = b.rets := by cases a; cases b; simp only [Term.mk.injEq]
theorem block_eq (a b : Block) : a = b ↔ a.params = b.params ∧ a.insts = b.insts ∧ a.term = b.term ∧ a.pipeline = b.pipeline ∧ a.unroll = b.unroll ∧ a.line = b.line := by cases a; cases b; simp only [Block.mk.injEq]
theorem same_no {α : Type} (g : Block → α) {a b : Block} (h : g a ≠ g b) : Sp.sameBlock a b = false := decide_eq_false fun e => h (by rw [e])
theorem loop59a (a b : Block) (h : a.ok) (hl : a.insts.length = b.insts.length) : whileO go59_l1 (((), (), (0 : Int), ()), a, b, ()) = some (if (List.range a.insts.length).all (fun i => decide (a.insts.getD i Inst.z = b.insts.getD i Inst.z)) then .inl (((), (), ()), a, b, ()) else .inr ((false, ()), ())) := by
  have hx := h.2.1.len
  rw [lenVal] at hx
  have hg : ∀ i, i < a.insts.length → (a.insts.getD i Inst.z).args.length ≤ LEN := fun i hi => (all_at (z := Inst.z) h.2.1 hi).2.2.1.len
  unfold go59_l1
  refine whileO_all (l := List.range a.insts.length) (st := fun i => (((), (), (i : Int), ()), a, b, ())) rfl 0 (fun i => decide (a.insts.getD i Inst.z = b.insts.getD i Inst.z)) (fun i hi hp => ?_) (fun i hi hp => ?_) (fun _ => ?_)
  · rw [List.length_range] at hi
    rw [range_getD hi] at hp
    have hgi := hg i hi
    simp only [Int.toNat_natCast, grd_ok hgi, Sp.sameInst, hp]
    simp (maxSteps := 1000000) (disch := ((try dsimp only); omega)) only [↓grd_dec, ↓grd_blt, ↓grd_true, ↓jpO_eq, ↓callB_some, ↓callB_grd, ↓bif_decide, ↓sumO_inl, ↓sumO_inr, ↓if_pos, ↓if_neg, ↓cond_true, ↓cond_false, ↓bif_not, Int.toNat_natCast, Bool.not_true, Bool.not_false, decide_true, decide_false, Bool.false_eq_true, ↓if_true, ↓if_false, Int.natCast_add, Int.cast_ofNat_Int, Bool.not_eq_true', decide_eq_false_iff_not, not_true_eq_false, not_false_eq_true]
  · rw [List.length_range] at hi
    rw [range_getD hi] at hp
    have hgi := hg i hi
    simp only [Int.toNat_natCast, grd_ok hgi, Sp.sameInst, hp]
    simp (maxSteps := 1000000) (disch := ((try dsimp only); omega)) only [↓grd_dec, ↓grd_blt, ↓grd_true, ↓jpO_eq, ↓callB_some, ↓callB_grd, ↓bif_decide, ↓sumO_inl, ↓sumO_inr, ↓if_pos, ↓if_neg, ↓cond_true, ↓cond_false, ↓bif_not, Int.toNat_natCast, Bool.not_true, Bool.not_false, decide_true, decide_false, Bool.false_eq_true, ↓if_true, ↓if_false, Int.natCast_add, Int.cast_ofNat_Int, Bool.not_eq_true', decide_eq_false_iff_not, not_true_eq_false, not_false_eq_true]
  · rw [List.length_range]; simp (maxSteps := 1000000) (disch := ((try dsimp only); omega)) only [↓grd_dec, ↓grd_blt, ↓grd_true, ↓jpO_eq, ↓callB_some, ↓callB_grd, ↓bif_decide, ↓sumO_inl, ↓sumO_inr, ↓if_pos, ↓if_neg, ↓cond_true, ↓cond_false, ↓bif_not, Int.toNat_natCast, Bool.not_true, Bool.not_false, decide_true, decide_false, Bool.false_eq_true, ↓if_true, ↓if_false, Int.natCast_add, Int.cast_ofNat_Int, Bool.not_eq_true', decide_eq_false_iff_not, not_true_eq_false, not_false_eq_true]
theorem edge_eq (a b : Edge) : a = b ↔ a.block = b.block ∧ a.args = b.args := by cases a; cases b; simp only [Edge.mk.injEq]
theorem loop59b (a b : Block) (h : a.ok) (hl : a.term.to.length = b.term.to.length) : whileO go59_l2 (((), (), (0 : Int), ()), a, b, ()) = some (if (List.range a.term.to.length).all (fun i => decide (a.term.to.getD i Edge.z = b.term.to.getD i Edge.z)) then .inl ((), ()) else .inr ((false, ()), ())) := by
  have hx := h.2.2.1.2.2.1.len
  rw [lenVal] at hx
  have hg : ∀ i, i < a.term.to.length → (a.term.to.getD i Edge.z).args.length ≤ LEN := fun i hi => (all_at (z := Edge.z) h.2.2.1.2.2.1 hi).2.len
  unfold go59_l2
  refine whileO_all (l := List.range a.term.to.length) (st := fun i => (((), (), (i : Int), ()), a, b, ())) rfl 0 (fun i => decide (a.term.to.getD i Edge.z = b.term.to.getD i Edge.z)) (fun i hi hp => ?_) (fun i hi hp => ?_) (fun _ => ?_)
  · rw [List.length_range] at hi
    rw [range_getD hi] at hp
    have hgi := hg i hi
    have hp := (edge_eq _ _).1 (of_decide_eq_true hp)
    simp only [Int.toNat_natCast, grd_ok hgi, decide_eq_true hp.1, decide_eq_true hp.2]
    simp (maxSteps := 1000000) (disch := ((try dsimp only); omega)) only [↓grd_dec, ↓grd_blt, ↓grd_true, ↓jpO_eq, ↓callB_some, ↓callB_grd, ↓bif_decide, ↓sumO_inl, ↓sumO_inr, ↓if_pos, ↓if_neg, ↓cond_true, ↓cond_false, ↓bif_not, Int.toNat_natCast, Bool.not_true, Bool.not_false, decide_true, decide_false, Bool.false_eq_true, ↓if_true, ↓if_false, Int.natCast_add, Int.cast_ofNat_Int, Bool.not_eq_true', decide_eq_false_iff_not, not_true_eq_false, not_false_eq_true]
  · rw [List.length_range] at hi
    rw [range_getD hi] at hp
    have hgi := hg i hi
    have hp : ¬ (_ ∧ _) := fun e => of_decide_eq_false hp ((edge_eq _ _).2 e)
    simp only [Int.toNat_natCast, grd_ok hgi]
    by_cases hb : (a.term.to.getD i Edge.z).block = (b.term.to.getD i Edge.z).block
    · have ha : ¬ (a.term.to.getD i Edge.z).args = (b.term.to.getD i Edge.z).args := fun e => hp ⟨hb, e⟩
      simp only [decide_eq_true hb, decide_eq_false ha]
      simp (maxSteps := 1000000) (disch := ((try dsimp only); omega)) only [↓grd_dec, ↓grd_blt, ↓grd_true, ↓jpO_eq, ↓callB_some, ↓callB_grd, ↓bif_decide, ↓sumO_inl, ↓sumO_inr, ↓if_pos, ↓if_neg, ↓cond_true, ↓cond_false, ↓bif_not, Int.toNat_natCast, Bool.not_true, Bool.not_false, decide_true, decide_false, Bool.false_eq_true, ↓if_true, ↓if_false, Int.natCast_add, Int.cast_ofNat_Int, Bool.not_eq_true', decide_eq_false_iff_not, not_true_eq_false, not_false_eq_true]
    · simp only [decide_eq_false hb]
      simp (maxSteps := 1000000) (disch := ((try dsimp only); omega)) only [↓grd_dec, ↓grd_blt, ↓grd_true, ↓jpO_eq, ↓callB_some, ↓callB_grd, ↓bif_decide, ↓sumO_inl, ↓sumO_inr, ↓if_pos, ↓if_neg, ↓cond_true, ↓cond_false, ↓bif_not, Int.toNat_natCast, Bool.not_true, Bool.not_false, decide_true, decide_false, Bool.false_eq_true, ↓if_true, ↓if_false, Int.natCast_add, Int.cast_ofNat_Int, Bool.not_eq_true', decide_eq_false_iff_not, not_true_eq_false, not_false_eq_true]
  · rw [List.length_range]; simp (maxSteps := 1000000) (disch := ((try dsimp only); omega)) only [↓grd_dec, ↓grd_blt, ↓grd_true, ↓jpO_eq, ↓callB_some, ↓callB_grd, ↓bif_decide, ↓sumO_inl, ↓sumO_inr, ↓if_pos, ↓if_neg, ↓cond_true, ↓cond_false, ↓bif_not, Int.toNat_natCast, Bool.not_true, Bool.not_false, decide_true, decide_false, Bool.false_eq_true, ↓if_true, ↓if_false, Int.natCast_add, Int.cast_ofNat_Int, Bool.not_eq_true', decide_eq_false_iff_not, not_true_eq_false, not_false_eq_true]
theorem ok59 (a b : Block) (h : a.ok) : go59 a b = some (Sp.sameBlock a b, ()) := by
  have hp := h.1.len
  have hr := h.2.2.1.2.2.2.len
  unfold go59
  rw [grd_ok hp, callB_some]
  by_cases e1 : a.params = b.params
  · by_cases e2 : (a.insts.length : Int) = b.insts.length
    · by_cases e3 : a.pipeline = b.pipeline
      · by_cases e4 : a.unroll = b.unroll
        · by_cases e5 : a.line = b.line
          · by_cases e6 : a.term.kind = b.term.kind
            · by_cases e7 : a.term.cond = b.term.cond
              · by_cases e8 : a.term.rets = b.term.rets
                · by_cases e9 : (a.term.to.length : Int) = b.term.to.length
                  · have e2' : a.insts.length = b.insts.length := by omega
                    have e9' : a.term.to.length = b.term.to.length := by omega
                    simp only [decide_eq_true e1, decide_eq_true e2, decide_eq_true e3, decide_eq_true e4, decide_eq_true e5, decide_eq_true e6, decide_eq_true e7, decide_eq_true e8, decide_eq_true e9, Bool.not_true, cond_false, grd_ok hr, callB_some, loop59a a b h e2', all_eqG Inst.z e2']
                    by_cases ei : a.insts = b.insts
                    · simp only [decide_eq_true ei, if_true, sumO_inl, loop59b a b h e9', all_eqG Edge.z e9', callB_some]
                      by_cases et : a.term.to = b.term.to
                      · have : Sp.sameBlock a b = true := decide_eq_true ((block_eq a b).2 ⟨e1, ei, (term_eq _ _).2 ⟨e6, e7, et, e8⟩, e3, e4, e5⟩)
                        rw [this]
                        simp only [decide_eq_true et, if_true, sumO_inl]
                      · rw [same_no (fun x => x.term.to) et]
                        simp only [decide_eq_false et, Bool.false_eq_true, if_false, sumO_inr]
                    · rw [same_no (fun x => x.insts) ei]
                      simp only [decide_eq_false ei, Bool.false_eq_true, if_false, sumO_inr]
                  · rw [same_no (fun x => (x.term.to.length : Int)) e9]; simp only [decide_eq_true e1, decide_eq_true e2, decide_eq_true e3, decide_eq_true e4, decide_eq_true e5, decide_eq_true e6, decide_eq_true e7, decide_eq_true e8, decide_eq_false e9, Bool.not_true, Bool.not_false, cond_false, cond_true, grd_ok hr, callB_some]
                · rw [same_no (fun x => x.term.rets) e8]; simp only [decide_eq_true e1, decide_eq_true e2, decide_eq_true e3, decide_eq_true e4, decide_eq_true e5, decide_eq_true e6, decide_eq_true e7, decide_eq_false e8, Bool.not_true, Bool.not_false, cond_false, cond_true, grd_ok hr, callB_some]
              · rw [same_no (fun x => x.term.cond) e7]; simp only [decide_eq_true e1, decide_eq_true e2, decide_eq_true e3, decide_eq_true e4, decide_eq_true e5, decide_eq_true e6, decide_eq_false e7, Bool.not_true, Bool.not_false, cond_false, cond_true]
            · rw [same_no (fun x => x.term.kind) e6]; simp only [decide_eq_true e1, decide_eq_true e2, decide_eq_true e3, decide_eq_true e4, decide_eq_true e5, decide_eq_false e6, Bool.not_true, Bool.not_false, cond_false, cond_true]
          · rw [same_no (fun x => x.line) e5]; simp only [decide_eq_true e1, decide_eq_true e2, decide_eq_true e3, decide_eq_true e4, decide_eq_false e5, Bool.not_true, Bool.not_false, cond_false, cond_true]
        · rw [same_no (fun x => x.unroll) e4]; simp only [decide_eq_true e1, decide_eq_true e2, decide_eq_true e3, decide_eq_false e4, Bool.not_true, Bool.not_false, cond_false, cond_true]
      · rw [same_no (fun x => x.pipeline) e3]; simp only [decide_eq_true e1, decide_eq_true e2, decide_eq_false e3, Bool.not_true, Bool.not_false, cond_false, cond_true]
    · rw [same_no (fun x => (x.insts.length : Int)) e2]; simp only [decide_eq_true e1, decide_eq_false e2, Bool.not_true, Bool.not_false, cond_false, cond_true]
  · rw [same_no (fun x => x.params) e1]; simp only [decide_eq_false e1, Bool.not_false, cond_true]
def c59 : Ctr Try.prog := mkCtr 59 Try.f59 Try.func59 [c39, c100] ann59 [(0, (.st 3)), (1, (.st 3))] [] .b [] (fun x _ => grd (okB (Block.ok x.1)) (some (Sp.sameBlock x.1 x.2.1, ()))) (fun x _ r h => FO (run59 x.1 x.2.1) (ok59 x.1 x.2.1) h)
end
end Go.Abs


set_option linter.unusedVariables false
set_option linter.unusedSectionVars false
set_option linter.unusedSimpArgs false
set_option maxHeartbeats 1000000
namespace Go.Abs
open Go Go.Proofs
noncomputable section
def ann58 : Ann := (.seq .o (.seq .o .o))
def go58 (x0 : Block) (x1 : Block) : (Option (Bool × Unit)) :=
  (callB (grd (okB (x0.params.length ≤ LEN))
      (some ((decide (x0.params = x1.params)), ())))
    (fun (r0 : (Bool × Unit)) => (bif r0.1 then
        (callB (grd (okB (@All Inst (56 : Nat) Inst.ok x0.insts))
            (some ((Sp.sameInsts x0.insts x1.insts), ())))
          (fun (r1 : (Bool × Unit)) => (bif r1.1 then
              (bif (decide (x0.term.kind = x1.term.kind)) then
                (bif (decide (x0.term.cond = x1.term.cond)) then
                  (callB (grd (okB (@All Edge (32 : Nat) Edge.ok x0.term.to))
                      (some ((Sp.sameEdges x0.term.to x1.term.to), ())))
                    (fun (r2 : (Bool × Unit)) => (bif r2.1 then
                        (callB (grd (okB (x0.term.rets.length ≤ LEN))
                            (some ((decide (x0.term.rets = x1.term.rets)), ())))
                          (fun (r3 : (Bool × Unit)) => (bif r3.1 then
                              (bif (decide (x0.pipeline = x1.pipeline)) then
                                (bif (decide (x0.unroll = x1.unroll)) then
                                  (some ((decide (x0.line = x1.line)), ()))
                                  else
                                  (some (false, ())))
                                else
                                (some (false, ())))
                              else
                              (some (false, ())))))
                        else
                        (some (false, ())))))
                  else
                  (some (false, ())))
                else
                (some (false, ())))
              else
              (some (false, ())))))
        else
        (some (false, ())))))
theorem run58 (x0 : Block) (x1 : Block) : runF (P := Try.prog) [c54, c96, c98] Try.f58 ann58 [(0, (.st 3)), (1, (.st 3))] [] .b [] (x0, (x1, ())) () = go58 x0 x1 := by kernel_rfl
theorem bif_sm (c d : Bool) : (bif c then (some (d, ()) : Option (Bool × Unit)) else some (false, ())) = some (c && d, ()) := by cases c <;> rfl
theorem block_dec (a b : Block) : Sp.sameBlock a b = (decide (a.params = b.params) && (decide (a.insts = b.insts) && (decide (a.term.kind = b.term.kind) && (decide (a.term.cond = b.term.cond) && (decide (a.term.to = b.term.to) && (decide (a.term.rets = b.term.rets) && (decide (a.pipeline = b.pipeline) && (decide (a.unroll = b.unroll) && decide (a.line = b.line))))))))) := by
  unfold Sp.sameBlock
  rw [Bool.eq_iff_iff]
  simp only [Bool.and_eq_true, decide_eq_true_eq, block_eq, term_eq, and_assoc]
theorem ok58 (a b : Block) (h : a.ok) : go58 a b = some (Sp.sameBlock a b, ()) := by
  have hp := h.1.len
  have hr := h.2.2.1.2.2.2.len
  unfold go58 Sp.sameInsts Sp.sameEdges
  simp only [grd_ok hp, grd_ok hr, grd_ok h.2.1, grd_ok h.2.2.1.2.2.1, callB_some, bif_sm, block_dec]
def c58 : Ctr Try.prog := mkCtr 58 Try.f58 Try.func58 [c54, c96, c98] ann58 [(0, (.st 3)), (1, (.st 3))] [] .b [] (fun x _ => grd (okB (Block.ok x.1)) (some (Sp.sameBlock x.1 x.2.1, ()))) (fun x _ r h => FO (run58 x.1 x.2.1) (ok58 x.1 x.2.1) h)
end
end Go.Abs


set_option linter.unusedVariables false
set_option linter.unusedSectionVars false
set_option linter.unusedSimpArgs false
set_option maxHeartbeats 1000000
namespace Go.Abs
open Go Go.Proofs
noncomputable section
def ann57 : Ann := (.seq .o (.join ⟨[(0, (.fz (.st 3))), (1, (.fz (.st 3))), (2, (.fn 58 []))], []⟩ (.seq .o (.cond (.seq .o .o) .o)) (.join ⟨[], []⟩ (.seq .o (.block (.loop ⟨[(1, (.fz (.st 3))), (2, (.fn 58 [])), (15, (.fz (.st 3))), (16, (.i .i64)), (17, (.i .i64))], []⟩ [((.exit 0), ⟨[], []⟩), (.ret, ⟨[(6, .b)], []⟩)] (.seq .o (.join ⟨[(1, (.fz (.st 3))), (2, (.fn 58 [])), (15, (.fz (.st 3))), (16, (.i .i64)), (17, (.i .i64))], []⟩ (.cond .o .o) (.join ⟨[(1, (.fz (.st 3))), (2, (.fn 58 [])), (15, (.fz (.st 3))), (16, (.i .i64)), (17, (.i .i64))], []⟩ (.block (.seq .o (.seq .o (.seq .o (.cond (.seq .o .o) .o))))) .o)))))) (.seq .o .o))))
def go57_l1 : (((List Block) × (Unit × ((List Block) × (Int × (Int × Unit))))) × Unit) → Option ((((List Block) × (Unit × ((List Block) × (Int × (Int × Unit))))) × Unit) ⊕ ((Unit × Unit) ⊕ ((Bool × Unit) × Unit))) := (fun (r0 : (((List Block) × (Unit × ((List Block) × (Int × (Int × Unit))))) × Unit)) => (bif (decide (r0.1.2.2.2.2.1 < r0.1.2.2.2.1)) then
      (grd (okB (((0 : Int) ≤ r0.1.2.2.2.2.1) ∧ (r0.1.2.2.2.2.1 < ((r0.1.2.2.1.length : Nat) : Int))))
        (grd (okB (((0 : Int) ≤ r0.1.2.2.2.2.1) ∧ (r0.1.2.2.2.2.1 < ((r0.1.1.length : Nat) : Int))))
          (callB (grd (okB (Block.ok (r0.1.2.2.1.getD r0.1.2.2.2.2.1.toNat Block.z)))
              (some ((Sp.sameBlock (r0.1.2.2.1.getD r0.1.2.2.2.2.1.toNat Block.z) (r0.1.1.getD r0.1.2.2.2.2.1.toNat Block.z)), ())))
            (fun (r1 : (Bool × Unit)) => (bif (!r1.1) then
                (some (Sum.inr (Sum.inr ((false, ()), ()))))
                else
                (grd (okB (((-(9223372036854775808 : Int)) ≤ (r0.1.2.2.2.2.1 + (1 : Int))) ∧ ((r0.1.2.2.2.2.1 + (1 : Int)) ≤ (9223372036854775807 : Int))))
                  (some (Sum.inl ((r0.1.1, ((), (r0.1.2.2.1, (r0.1.2.2.2.1, ((r0.1.2.2.2.2.1 + (1 : Int)), ()))))), ())))))))))
      else
      (some (Sum.inr (Sum.inl ((), ()))))))
def go57 (x0 : (List Block)) (x1 : (List Block)) (x2 : Unit) : (Option (Bool × Unit)) :=
  (bif (!(decide (((x0.length : Nat) : Int) = ((x1.length : Nat) : Int)))) then
    (some (false, ()))
    else
    (callB (whileO (go57_l1) ((x1, ((), (x0, (((x0.length : Nat) : Int), ((0 : Int), ()))))), ()))
      (fun (z0 : ((Unit × Unit) ⊕ ((Bool × Unit) × Unit))) => (sumO (fun (z1 : (Unit × Unit)) => (some (true, ())))
          (fun (z1 : ((Bool × Unit) × Unit)) => (some (z1.1.1, ()))) z0))))
theorem run57 (x0 : (List Block)) (x1 : (List Block)) (x2 : Unit) : runF (P := Try.prog) [c58] Try.f57 ann57 [(0, (.fz (.st 3))), (1, (.fz (.st 3))), (2, (.fn 58 []))] [] .b [] (x0, (x1, (x2, ()))) () = go57 x0 x1 x2 := by kernel_rfl
def Sp.sameBlocks (x y : List Block) : Bool := decide (x = y)
theorem ok57 (x y : List Block) (h : All 136 Block.ok x) : go57 x y () = some (decide (x = y), ()) := by
  have hx := h.len
  rw [lenVal] at hx
  unfold go57 go57_l1
  by_cases hl : (x.length : Int) = y.length
  · have h' : x.length = y.length := by omega
    have hg : ∀ i, i < x.length → (x.getD i Block.z).ok := fun i hi => all_at (z := Block.z) h hi
    simp (maxSteps := 1000000) (disch := ((try dsimp only); omega)) only [↓grd_dec, ↓grd_blt, ↓grd_true, ↓jpO_eq, ↓callB_some, ↓callB_grd, ↓bif_decide, ↓sumO_inl, ↓sumO_inr, ↓if_pos, ↓if_neg, ↓cond_true, ↓cond_false, ↓bif_not, Int.toNat_natCast, Bool.not_true, Bool.not_false, decide_true, decide_false, Bool.false_eq_true, ↓if_true, ↓if_false, Int.natCast_add, Int.cast_ofNat_Int, Bool.not_eq_true', decide_eq_false_iff_not, not_true_eq_false, not_false_eq_true]
    refine callB_of (whileO_all (l := List.range x.length) (st := fun i => ((y, (), x, ((x.length : Nat) : Int), (i : Int), ()), ())) rfl 0 (fun i => decide (x.getD i Block.z = y.getD i Block.z)) (A := .inl ((), ())) (B := .inr ((false, ()), ())) (fun i hi hp => ?_) (fun i hi hp => ?_) (fun _ => ?_)) ?_
    · rw [List.length_range] at hi
      rw [range_getD hi] at hp
      have hgi := hg i hi
      simp only [Int.toNat_natCast, grd_ok hgi, Sp.sameBlock, hp]
      simp (maxSteps := 1000000) (disch := ((try dsimp only); omega)) only [↓grd_dec, ↓grd_blt, ↓grd_true, ↓jpO_eq, ↓callB_some, ↓callB_grd, ↓bif_decide, ↓sumO_inl, ↓sumO_inr, ↓if_pos, ↓if_neg, ↓cond_true, ↓cond_false, ↓bif_not, Int.toNat_natCast, Bool.not_true, Bool.not_false, decide_true, decide_false, Bool.false_eq_true, ↓if_true, ↓if_false, Int.natCast_add, Int.cast_ofNat_Int, Bool.not_eq_true', decide_eq_false_iff_not, not_true_eq_false, not_false_eq_true]
    · rw [List.length_range] at hi
      rw [range_getD hi] at hp
      have hgi := hg i hi
      simp only [Int.toNat_natCast, grd_ok hgi, Sp.sameBlock, hp]
      simp (maxSteps := 1000000) (disch := ((try dsimp only); omega)) only [↓grd_dec, ↓grd_blt, ↓grd_true, ↓jpO_eq, ↓callB_some, ↓callB_grd, ↓bif_decide, ↓sumO_inl, ↓sumO_inr, ↓if_pos, ↓if_neg, ↓cond_true, ↓cond_false, ↓bif_not, Int.toNat_natCast, Bool.not_true, Bool.not_false, decide_true, decide_false, Bool.false_eq_true, ↓if_true, ↓if_false, Int.natCast_add, Int.cast_ofNat_Int, Bool.not_eq_true', decide_eq_false_iff_not, not_true_eq_false, not_false_eq_true]
    · rw [List.length_range]; simp (maxSteps := 1000000) (disch := ((try dsimp only); omega)) only [↓grd_dec, ↓grd_blt, ↓grd_true, ↓jpO_eq, ↓callB_some, ↓callB_grd, ↓bif_decide, ↓sumO_inl, ↓sumO_inr, ↓if_pos, ↓if_neg, ↓cond_true, ↓cond_false, ↓bif_not, Int.toNat_natCast, Bool.not_true, Bool.not_false, decide_true, decide_false, Bool.false_eq_true, ↓if_true, ↓if_false, Int.natCast_add, Int.cast_ofNat_Int, Bool.not_eq_true', decide_eq_false_iff_not, not_true_eq_false, not_false_eq_true]
    · rw [all_eqG Block.z h']
      by_cases e : x = y
      · rw [decide_eq_true e]; rfl
      · rw [decide_eq_false e]; rfl
  · have e : x ≠ y := fun e => hl (by rw [e])
    rw [decide_eq_false e]
    simp (maxSteps := 1000000) (disch := ((try dsimp only); omega)) only [↓grd_dec, ↓grd_blt, ↓grd_true, ↓jpO_eq, ↓callB_some, ↓callB_grd, ↓bif_decide, ↓sumO_inl, ↓sumO_inr, ↓if_pos, ↓if_neg, ↓cond_true, ↓cond_false, ↓bif_not, Int.toNat_natCast, Bool.not_true, Bool.not_false, decide_true, decide_false, Bool.false_eq_true, ↓if_true, ↓if_false, Int.natCast_add, Int.cast_ofNat_Int, Bool.not_eq_true', decide_eq_false_iff_not, not_true_eq_false, not_false_eq_true]
def c57 : Ctr Try.prog := mkCtr 57 Try.f57 Try.func57 [c58] ann57 [(0, (.fz (.st 3))), (1, (.fz (.st 3))), (2, (.fn 58 []))] [] .b [] (fun x _ => grd (okB (All 136 Block.ok x.1)) (some (Sp.sameBlocks x.1 x.2.1, ()))) (fun x _ r h => FO (run57 x.1 x.2.1 ()) (ok57 x.1 x.2.1) h)
end
end Go.Abs


set_option linter.unusedVariables false
set_option linter.unusedSectionVars false
set_option linter.unusedSimpArgs false
set_option maxHeartbeats 1000000
namespace Go.Abs
open Go Go.Proofs
noncomputable section
def ann23 : Ann := (.seq .o (.seq .o .o))
def go23 (x0 : Fn) (x1 : Fn) : (Option (Bool × Unit)) :=
  (bif ((ByteArray.toList x0.name) == (ByteArray.toList x1.name)) then
    (callB (grd (okB (x0.widths.length ≤ LEN))
        (some ((decide (x0.widths = x1.widths)), ())))
      (fun (r0 : (Bool × Unit)) => (bif r0.1 then
          (callB (grd (okB (x0.arrays.length ≤ LEN))
              (some ((Sp.sameArrs x0.arrays x1.arrays), ())))
            (fun (r1 : (Bool × Unit)) => (bif r1.1 then
                (callB (grd (okB (x0.streams.length ≤ LEN))
                    (some ((Sp.sameStrms x0.streams x1.streams), ())))
                  (fun (r2 : (Bool × Unit)) => (bif r2.1 then
                      (callB (grd (okB (x0.rets.length ≤ LEN))
                          (some ((decide (x0.rets = x1.rets)), ())))
                        (fun (r3 : (Bool × Unit)) => (bif r3.1 then
                            (callB (grd (okB (@All Block (136 : Nat) Block.ok x0.blocks))
                                (some ((Sp.sameBlocks x0.blocks x1.blocks), ())))
                              (fun (r4 : (Bool × Unit)) => (some (r4.1, ()))))
                            else
                            (some (false, ())))))
                      else
                      (some (false, ())))))
                else
                (some (false, ())))))
          else
          (some (false, ())))))
    else
    (some (false, ())))
theorem run23 (x0 : Fn) (x1 : Fn) : runF (P := Try.prog) [c54, c55, c56, c57] Try.f23 ann23 [(0, (.st 6)), (1, (.st 6))] [] .b [] (x0, (x1, ())) () = go23 x0 x1 := by kernel_rfl
def Sp.sameFn (x y : Fn) : Bool := decide (x = y)
theorem fn_dec (a b : Fn) : Sp.sameFn a b = (decide (a.name = b.name) && (decide (a.widths = b.widths) && (decide (a.arrays = b.arrays) && (decide (a.streams = b.streams) && (decide (a.rets = b.rets) && decide (a.blocks = b.blocks)))))) := by
  unfold Sp.sameFn
  rw [Bool.eq_iff_iff]
  simp only [Bool.and_eq_true, decide_eq_true_eq]
  cases a; cases b; simp only [Fn.mk.injEq]
theorem ok23 (a b : Fn) (h : a.ok) : go23 a b = some (Sp.sameFn a b, ()) := by
  have h1 := h.2.1.len
  have h2 := h.2.2.1.len
  have h3 := h.2.2.2.1.len
  have h4 := h.2.2.2.2.1.len
  have h5 := h.2.2.2.2.2
  unfold go23 Sp.sameArrs Sp.sameStrms Sp.sameBlocks
  simp only [grd_ok h1, grd_ok h2, grd_ok h3, grd_ok h4, grd_ok h5, callB_some, bif_sm, bytes_beq, fn_dec]
def c23 : Ctr Try.prog := mkCtr 23 Try.f23 Try.func23 [c54, c55, c56, c57] ann23 [(0, (.st 6)), (1, (.st 6))] [] .b [] (fun x _ => grd (okB (Fn.ok x.1)) (some (Sp.sameFn x.1 x.2.1, ()))) (fun x _ r h => FO (run23 x.1 x.2.1) (ok23 x.1 x.2.1) h)
def ann24 : Ann := (.seq .o (.join ⟨[(2, (.ptr 0 0)), (3, (.ptr 1 0))], [(.box 30 (.st 6)), (.box 30 (.st 6))]⟩ (.seq .o (.cond (.seq .o .o) .o)) (.join ⟨[(2, (.ptr 0 0)), (3, (.ptr 1 0))], [(.box 30 (.st 6)), (.box 30 (.st 6))]⟩ (.seq .o (.block (.loop ⟨[(2, (.ptr 0 0)), (3, (.ptr 1 0)), (5, (.i .i64))], [(.box 30 (.st 6)), (.box 30 (.st 6))]⟩ [((.exit 0), ⟨[(2, (.ptr 0 0)), (3, (.ptr 1 0))], [(.box 30 (.st 6)), (.box 30 (.st 6))]⟩), (.ret, ⟨[(4, .b)], []⟩)] (.join ⟨[(2, (.ptr 0 0)), (3, (.ptr 1 0)), (5, (.i .i64))], [(.box 30 (.st 6)), (.box 30 (.st 6))]⟩ (.seq .o (.cond .o .o)) (.join ⟨[(2, (.ptr 0 0)), (3, (.ptr 1 0)), (5, (.i .i64))], [(.box 30 (.st 6)), (.box 30 (.st 6))]⟩ (.block (.seq .o (.cond (.seq .o .o) .o))) .o))))) (.join ⟨[(2, (.ptr 0 0)), (3, (.ptr 1 0))], [(.box 30 (.st 6)), (.box 30 (.st 6))]⟩ (.seq .o (.block (.loop ⟨[(2, (.ptr 0 0)), (3, (.ptr 1 0)), (6, (.i .i64))], [(.box 30 (.st 6)), (.box 30 (.st 6))]⟩ [((.exit 2), ⟨[(2, (.ptr 0 0)), (3, (.ptr 1 0))], [(.box 30 (.st 6)), (.box 30 (.st 6))]⟩), (.ret, ⟨[(4, .b)], []⟩)] (.join ⟨[(2, (.ptr 0 0)), (3, (.ptr 1 0)), (6, (.i .i64))], [(.box 30 (.st 6)), (.box 30 (.st 6))]⟩ (.seq .o (.cond .o .o)) (.join ⟨[(2, (.ptr 0 0)), (3, (.ptr 1 0)), (6, (.i .i64))], [(.box 30 (.st 6)), (.box 30 (.st 6))]⟩ (.block (.seq .o (.cond (.seq .o .o) .o))) .o))))) (.join ⟨[], []⟩ (.seq .o (.block (.loop ⟨[(2, (.ptr 0 0)), (3, (.ptr 1 0)), (7, (.i .i64))], [(.box 30 (.st 6)), (.box 30 (.st 6))]⟩ [((.exit 4), ⟨[], []⟩), (.ret, ⟨[(4, .b)], []⟩)] (.join ⟨[(2, (.ptr 0 0)), (3, (.ptr 1 0)), (7, (.i .i64))], [(.box 30 (.st 6)), (.box 30 (.st 6))]⟩ (.seq .o (.cond .o .o)) (.join ⟨[(2, (.ptr 0 0)), (3, (.ptr 1 0)), (7, (.i .i64))], [(.box 30 (.st 6)), (.box 30 (.st 6))]⟩ (.block (.seq .o (.cond (.seq .o .o) .o))) .o))))) (.seq .o .o))))))
def go24_l3 : ((Unit × (Unit × (Int × Unit))) × (Fn × (Fn × Unit))) → Option (((Unit × (Unit × (Int × Unit))) × (Fn × (Fn × Unit))) ⊕ ((Unit × Unit) ⊕ ((Bool × Unit) × Unit))) := (fun (r2 : ((Unit × (Unit × (Int × Unit))) × (Fn × (Fn × Unit)))) => (bif (decide (r2.1.2.2.1 < ((r2.2.1.blocks.length : Nat) : Int))) then
      (grd (okB (((0 : Int) ≤ r2.1.2.2.1) ∧ (r2.1.2.2.1 < ((r2.2.1.blocks.length : Nat) : Int))))
        (grd (okB (((0 : Int) ≤ r2.1.2.2.1) ∧ (r2.1.2.2.1 < ((r2.2.2.1.blocks.length : Nat) : Int))))
          (callB (grd (okB (Block.ok (r2.2.1.blocks.getD r2.1.2.2.1.toNat Block.z)))
              (some ((Sp.sameBlock (r2.2.1.blocks.getD r2.1.2.2.1.toNat Block.z) (r2.2.2.1.blocks.getD r2.1.2.2.1.toNat Block.z)), ())))
            (fun (r3 : (Bool × Unit)) => (bif (!r3.1) then
                (some (Sum.inr (Sum.inr ((false, ()), ()))))
                else
                (grd (okB (((-(9223372036854775808 : Int)) ≤ (r2.1.2.2.1 + (1 : Int))) ∧ ((r2.1.2.2.1 + (1 : Int)) ≤ (9223372036854775807 : Int))))
                  (some (Sum.inl (((), ((), ((r2.1.2.2.1 + (1 : Int)), ()))), (r2.2.1, (r2.2.2.1, ())))))))))))
      else
      (some (Sum.inr (Sum.inl ((), ()))))))
def go24_l2 : ((Unit × (Unit × (Int × Unit))) × (Fn × (Fn × Unit))) → Option (((Unit × (Unit × (Int × Unit))) × (Fn × (Fn × Unit))) ⊕ (((Unit × (Unit × Unit)) × (Fn × (Fn × Unit))) ⊕ ((Bool × Unit) × Unit))) := (fun (r2 : ((Unit × (Unit × (Int × Unit))) × (Fn × (Fn × Unit)))) => (bif (decide (r2.1.2.2.1 < ((r2.2.1.streams.length : Nat) : Int))) then
      (grd (okB (((0 : Int) ≤ r2.1.2.2.1) ∧ (r2.1.2.2.1 < ((r2.2.1.streams.length : Nat) : Int))))
        (grd (okB (((0 : Int) ≤ r2.1.2.2.1) ∧ (r2.1.2.2.1 < ((r2.2.2.1.streams.length : Nat) : Int))))
          (bif (bif true then
              (!(((ByteArray.toList (r2.2.1.streams.getD r2.1.2.2.1.toNat Strm.z).name) == (ByteArray.toList (r2.2.2.1.streams.getD r2.1.2.2.1.toNat Strm.z).name)) && ((decide ((r2.2.1.streams.getD r2.1.2.2.1.toNat Strm.z).width = (r2.2.2.1.streams.getD r2.1.2.2.1.toNat Strm.z).width)) && ((r2.2.1.streams.getD r2.1.2.2.1.toNat Strm.z).out == (r2.2.2.1.streams.getD r2.1.2.2.1.toNat Strm.z).out))))
              else
              (((ByteArray.toList (r2.2.1.streams.getD r2.1.2.2.1.toNat Strm.z).name) == (ByteArray.toList (r2.2.2.1.streams.getD r2.1.2.2.1.toNat Strm.z).name)) && ((decide ((r2.2.1.streams.getD r2.1.2.2.1.toNat Strm.z).width = (r2.2.2.1.streams.getD r2.1.2.2.1.toNat Strm.z).width)) && ((r2.2.1.streams.getD r2.1.2.2.1.toNat Strm.z).out == (r2.2.2.1.streams.getD r2.1.2.2.1.toNat Strm.z).out)))) then
            (some (Sum.inr (Sum.inr ((false, ()), ()))))
            else
            (grd (okB (((-(9223372036854775808 : Int)) ≤ (r2.1.2.2.1 + (1 : Int))) ∧ ((r2.1.2.2.1 + (1 : Int)) ≤ (9223372036854775807 : Int))))
              (some (Sum.inl (((), ((), ((r2.1.2.2.1 + (1 : Int)), ()))), (r2.2.1, (r2.2.2.1, ())))))))))
      else
      (some (Sum.inr (Sum.inl (((), ((), ())), (r2.2.1, (r2.2.2.1, ()))))))))
def go24_l1 : ((Unit × (Unit × (Int × Unit))) × (Fn × (Fn × Unit))) → Option (((Unit × (Unit × (Int × Unit))) × (Fn × (Fn × Unit))) ⊕ (((Unit × (Unit × Unit)) × (Fn × (Fn × Unit))) ⊕ ((Bool × Unit) × Unit))) := (fun (r2 : ((Unit × (Unit × (Int × Unit))) × (Fn × (Fn × Unit)))) => (bif (decide (r2.1.2.2.1 < ((r2.2.1.arrays.length : Nat) : Int))) then
      (grd (okB (((0 : Int) ≤ r2.1.2.2.1) ∧ (r2.1.2.2.1 < ((r2.2.1.arrays.length : Nat) : Int))))
        (grd (okB (((0 : Int) ≤ r2.1.2.2.1) ∧ (r2.1.2.2.1 < ((r2.2.2.1.arrays.length : Nat) : Int))))
          (bif (bif true then
              (!(((ByteArray.toList (r2.2.1.arrays.getD r2.1.2.2.1.toNat Arr.z).name) == (ByteArray.toList (r2.2.2.1.arrays.getD r2.1.2.2.1.toNat Arr.z).name)) && ((decide ((r2.2.1.arrays.getD r2.1.2.2.1.toNat Arr.z).width = (r2.2.2.1.arrays.getD r2.1.2.2.1.toNat Arr.z).width)) && ((decide ((r2.2.1.arrays.getD r2.1.2.2.1.toNat Arr.z).len = (r2.2.2.1.arrays.getD r2.1.2.2.1.toNat Arr.z).len)) && ((decide ((r2.2.1.arrays.getD r2.1.2.2.1.toNat Arr.z).kind = (r2.2.2.1.arrays.getD r2.1.2.2.1.toNat Arr.z).kind)) && (decide ((r2.2.1.arrays.getD r2.1.2.2.1.toNat Arr.z).factor = (r2.2.2.1.arrays.getD r2.1.2.2.1.toNat Arr.z).factor)))))))
              else
              (((ByteArray.toList (r2.2.1.arrays.getD r2.1.2.2.1.toNat Arr.z).name) == (ByteArray.toList (r2.2.2.1.arrays.getD r2.1.2.2.1.toNat Arr.z).name)) && ((decide ((r2.2.1.arrays.getD r2.1.2.2.1.toNat Arr.z).width = (r2.2.2.1.arrays.getD r2.1.2.2.1.toNat Arr.z).width)) && ((decide ((r2.2.1.arrays.getD r2.1.2.2.1.toNat Arr.z).len = (r2.2.2.1.arrays.getD r2.1.2.2.1.toNat Arr.z).len)) && ((decide ((r2.2.1.arrays.getD r2.1.2.2.1.toNat Arr.z).kind = (r2.2.2.1.arrays.getD r2.1.2.2.1.toNat Arr.z).kind)) && (decide ((r2.2.1.arrays.getD r2.1.2.2.1.toNat Arr.z).factor = (r2.2.2.1.arrays.getD r2.1.2.2.1.toNat Arr.z).factor))))))) then
            (some (Sum.inr (Sum.inr ((false, ()), ()))))
            else
            (grd (okB (((-(9223372036854775808 : Int)) ≤ (r2.1.2.2.1 + (1 : Int))) ∧ ((r2.1.2.2.1 + (1 : Int)) ≤ (9223372036854775807 : Int))))
              (some (Sum.inl (((), ((), ((r2.1.2.2.1 + (1 : Int)), ()))), (r2.2.1, (r2.2.2.1, ())))))))))
      else
      (some (Sum.inr (Sum.inl (((), ((), ())), (r2.2.1, (r2.2.2.1, ()))))))))
def go24 (x0 : Fn) (x1 : Fn) : (Option (Bool × Unit)) :=
  (bif (!((ByteArray.toList x0.name) == (ByteArray.toList x1.name))) then
    (some (false, ()))
    else
    (callB (grd (okB (x0.widths.length ≤ LEN))
        (some ((decide (x0.widths = x1.widths)), ())))
      (fun (r0 : (Bool × Unit)) => (bif (!r0.1) then
          (some (false, ()))
          else
          (callB (grd (okB (x0.rets.length ≤ LEN))
              (some ((decide (x0.rets = x1.rets)), ())))
            (fun (r1 : (Bool × Unit)) => (bif (!r1.1) then
                (some (false, ()))
                else
                (bif (!(decide (((x0.arrays.length : Nat) : Int) = ((x1.arrays.length : Nat) : Int)))) then
                  (some (false, ()))
                  else
                  (bif (!(decide (((x0.streams.length : Nat) : Int) = ((x1.streams.length : Nat) : Int)))) then
                    (some (false, ()))
                    else
                    (bif (!(decide (((x0.blocks.length : Nat) : Int) = ((x1.blocks.length : Nat) : Int)))) then
                      (some (false, ()))
                      else
                      (callB (whileO (go24_l1) (((), ((), ((0 : Int), ()))), (x0, (x1, ()))))
                        (fun (z0 : (((Unit × (Unit × Unit)) × (Fn × (Fn × Unit))) ⊕ ((Bool × Unit) × Unit))) => (sumO (fun (z1 : ((Unit × (Unit × Unit)) × (Fn × (Fn × Unit)))) => (callB (whileO (go24_l2) (((), ((), ((0 : Int), ()))), (z1.2.1, (z1.2.2.1, ()))))
                                (fun (z2 : (((Unit × (Unit × Unit)) × (Fn × (Fn × Unit))) ⊕ ((Bool × Unit) × Unit))) => (sumO (fun (z3 : ((Unit × (Unit × Unit)) × (Fn × (Fn × Unit)))) => (callB (whileO (go24_l3) (((), ((), ((0 : Int), ()))), (z3.2.1, (z3.2.2.1, ()))))
                                        (fun (z4 : ((Unit × Unit) ⊕ ((Bool × Unit) × Unit))) => (sumO (fun (z5 : (Unit × Unit)) => (some (true, ())))
                                            (fun (z5 : ((Bool × Unit) × Unit)) => (some (z5.1.1, ()))) z4))))
                                    (fun (z3 : ((Bool × Unit) × Unit)) => (some (z3.1.1, ()))) z2))))
                            (fun (z1 : ((Bool × Unit) × Unit)) => (some (z1.1.1, ()))) z0)))))))))))))
theorem run24 (x0 : Fn) (x1 : Fn) : runF (P := Try.prog) [c39, c59] Try.f24 ann24 [(0, (.st 6)), (1, (.st 6))] [] .b [] (x0, (x1, ())) () = go24 x0 x1 := by kernel_rfl
theorem loop241 (a b : Fn) (h : a.ok) (hl : a.arrays.length = b.arrays.length) : whileO go24_l1 (((), (), (0 : Int), ()), a, b, ()) = some (if (List.range a.arrays.length).all (fun i => decide (a.arrays.getD i Arr.z = b.arrays.getD i Arr.z)) then .inl (((), (), ()), a, b, ()) else .inr ((false, ()), ())) := by
  have hx := h.2.2.1.len
  rw [lenVal] at hx
  unfold go24_l1
  refine whileO_all (l := List.range a.arrays.length) (st := fun i => (((), (), (i : Int), ()), a, b, ())) rfl 0 (fun i => decide (a.arrays.getD i Arr.z = b.arrays.getD i Arr.z)) (fun i hi hp => ?_) (fun i hi hp => ?_) (fun _ => ?_)
  · rw [List.length_range] at hi
    rw [range_getD hi] at hp
    simp only [Int.toNat_natCast, arr_beq, hp]
    simp (maxSteps := 1000000) (disch := ((try dsimp only); omega)) only [↓grd_dec, ↓grd_blt, ↓grd_true, ↓jpO_eq, ↓callB_some, ↓callB_grd, ↓bif_decide, ↓sumO_inl, ↓sumO_inr, ↓if_pos, ↓if_neg, ↓cond_true, ↓cond_false, ↓bif_not, Int.toNat_natCast, Bool.not_true, Bool.not_false, decide_true, decide_false, Bool.false_eq_true, ↓if_true, ↓if_false, Int.natCast_add, Int.cast_ofNat_Int, Bool.not_eq_true', decide_eq_false_iff_not, not_true_eq_false, not_false_eq_true]
  · rw [List.length_range] at hi
    rw [range_getD hi] at hp
    simp only [Int.toNat_natCast, arr_beq, hp]
    simp (maxSteps := 1000000) (disch := ((try dsimp only); omega)) only [↓grd_dec, ↓grd_blt, ↓grd_true, ↓jpO_eq, ↓callB_some, ↓callB_grd, ↓bif_decide, ↓sumO_inl, ↓sumO_inr, ↓if_pos, ↓if_neg, ↓cond_true, ↓cond_false, ↓bif_not, Int.toNat_natCast, Bool.not_true, Bool.not_false, decide_true, decide_false, Bool.false_eq_true, ↓if_true, ↓if_false, Int.natCast_add, Int.cast_ofNat_Int, Bool.not_eq_true', decide_eq_false_iff_not, not_true_eq_false, not_false_eq_true]
  · rw [List.length_range]; simp (maxSteps := 1000000) (disch := ((try dsimp only); omega)) only [↓grd_dec, ↓grd_blt, ↓grd_true, ↓jpO_eq, ↓callB_some, ↓callB_grd, ↓bif_decide, ↓sumO_inl, ↓sumO_inr, ↓if_pos, ↓if_neg, ↓cond_true, ↓cond_false, ↓bif_not, Int.toNat_natCast, Bool.not_true, Bool.not_false, decide_true, decide_false, Bool.false_eq_true, ↓if_true, ↓if_false, Int.natCast_add, Int.cast_ofNat_Int, Bool.not_eq_true', decide_eq_false_iff_not, not_true_eq_false, not_false_eq_true]
theorem loop242 (a b : Fn) (h : a.ok) (hl : a.streams.length = b.streams.length) : whileO go24_l2 (((), (), (0 : Int), ()), a, b, ()) = some (if (List.range a.streams.length).all (fun i => decide (a.streams.getD i Strm.z = b.streams.getD i Strm.z)) then .inl (((), (), ()), a, b, ()) else .inr ((false, ()), ())) := by
  have hx := h.2.2.2.1.len
  rw [lenVal] at hx
  unfold go24_l2
  refine whileO_all (l := List.range a.streams.length) (st := fun i => (((), (), (i : Int), ()), a, b, ())) rfl 0 (fun i => decide (a.streams.getD i Strm.z = b.streams.getD i Strm.z)) (fun i hi hp => ?_) (fun i hi hp => ?_) (fun _ => ?_)
  · rw [List.length_range] at hi
    rw [range_getD hi] at hp
    simp only [Int.toNat_natCast, strm_beq, hp]
    simp (maxSteps := 1000000) (disch := ((try dsimp only); omega)) only [↓grd_dec, ↓grd_blt, ↓grd_true, ↓jpO_eq, ↓callB_some, ↓callB_grd, ↓bif_decide, ↓sumO_inl, ↓sumO_inr, ↓if_pos, ↓if_neg, ↓cond_true, ↓cond_false, ↓bif_not, Int.toNat_natCast, Bool.not_true, Bool.not_false, decide_true, decide_false, Bool.false_eq_true, ↓if_true, ↓if_false, Int.natCast_add, Int.cast_ofNat_Int, Bool.not_eq_true', decide_eq_false_iff_not, not_true_eq_false, not_false_eq_true]
  · rw [List.length_range] at hi
    rw [range_getD hi] at hp
    simp only [Int.toNat_natCast, strm_beq, hp]
    simp (maxSteps := 1000000) (disch := ((try dsimp only); omega)) only [↓grd_dec, ↓grd_blt, ↓grd_true, ↓jpO_eq, ↓callB_some, ↓callB_grd, ↓bif_decide, ↓sumO_inl, ↓sumO_inr, ↓if_pos, ↓if_neg, ↓cond_true, ↓cond_false, ↓bif_not, Int.toNat_natCast, Bool.not_true, Bool.not_false, decide_true, decide_false, Bool.false_eq_true, ↓if_true, ↓if_false, Int.natCast_add, Int.cast_ofNat_Int, Bool.not_eq_true', decide_eq_false_iff_not, not_true_eq_false, not_false_eq_true]
  · rw [List.length_range]; simp (maxSteps := 1000000) (disch := ((try dsimp only); omega)) only [↓grd_dec, ↓grd_blt, ↓grd_true, ↓jpO_eq, ↓callB_some, ↓callB_grd, ↓bif_decide, ↓sumO_inl, ↓sumO_inr, ↓if_pos, ↓if_neg, ↓cond_true, ↓cond_false, ↓bif_not, Int.toNat_natCast, Bool.not_true, Bool.not_false, decide_true, decide_false, Bool.false_eq_true, ↓if_true, ↓if_false, Int.natCast_add, Int.cast_ofNat_Int, Bool.not_eq_true', decide_eq_false_iff_not, not_true_eq_false, not_false_eq_true]
theorem loop243 (a b : Fn) (h : a.ok) (hl : a.blocks.length = b.blocks.length) : whileO go24_l3 (((), (), (0 : Int), ()), a, b, ()) = some (if (List.range a.blocks.length).all (fun i => decide (a.blocks.getD i Block.z = b.blocks.getD i Block.z)) then .inl ((), ()) else .inr ((false, ()), ())) := by
  have hx := h.2.2.2.2.2.len
  rw [lenVal] at hx
  have hg : ∀ i, i < a.blocks.length → (a.blocks.getD i Block.z).ok := fun i hi => all_at (z := Block.z) h.2.2.2.2.2 hi
  unfold go24_l3
  refine whileO_all (l := List.range a.blocks.length) (st := fun i => (((), (), (i : Int), ()), a, b, ())) rfl 0 (fun i => decide (a.blocks.getD i Block.z = b.blocks.getD i Block.z)) (fun i hi hp => ?_) (fun i hi hp => ?_) (fun _ => ?_)
  · rw [List.length_range] at hi
    rw [range_getD hi] at hp
    simp only [Int.toNat_natCast, grd_ok (hg i hi), Sp.sameBlock, hp]
    simp (maxSteps := 1000000) (disch := ((try dsimp only); omega)) only [↓grd_dec, ↓grd_blt, ↓grd_true, ↓jpO_eq, ↓callB_some, ↓callB_grd, ↓bif_decide, ↓sumO_inl, ↓sumO_inr, ↓if_pos, ↓if_neg, ↓cond_true, ↓cond_false, ↓bif_not, Int.toNat_natCast, Bool.not_true, Bool.not_false, decide_true, decide_false, Bool.false_eq_true, ↓if_true, ↓if_false, Int.natCast_add, Int.cast_ofNat_Int, Bool.not_eq_true', decide_eq_false_iff_not, not_true_eq_false, not_false_eq_true]
  · rw [List.length_range] at hi
    rw [range_getD hi] at hp
    simp only [Int.toNat_natCast, grd_ok (hg i hi), Sp.sameBlock, hp]
    simp (maxSteps := 1000000) (disch := ((try dsimp only); omega)) only [↓grd_dec, ↓grd_blt, ↓grd_true, ↓jpO_eq, ↓callB_some, ↓callB_grd, ↓bif_decide, ↓sumO_inl, ↓sumO_inr, ↓if_pos, ↓if_neg, ↓cond_true, ↓cond_false, ↓bif_not, Int.toNat_natCast, Bool.not_true, Bool.not_false, decide_true, decide_false, Bool.false_eq_true, ↓if_true, ↓if_false, Int.natCast_add, Int.cast_ofNat_Int, Bool.not_eq_true', decide_eq_false_iff_not, not_true_eq_false, not_false_eq_true]
  · rw [List.length_range]; simp (maxSteps := 1000000) (disch := ((try dsimp only); omega)) only [↓grd_dec, ↓grd_blt, ↓grd_true, ↓jpO_eq, ↓callB_some, ↓callB_grd, ↓bif_decide, ↓sumO_inl, ↓sumO_inr, ↓if_pos, ↓if_neg, ↓cond_true, ↓cond_false, ↓bif_not, Int.toNat_natCast, Bool.not_true, Bool.not_false, decide_true, decide_false, Bool.false_eq_true, ↓if_true, ↓if_false, Int.natCast_add, Int.cast_ofNat_Int, Bool.not_eq_true', decide_eq_false_iff_not, not_true_eq_false, not_false_eq_true]
theorem fn_no {α : Type} (g : Fn → α) {a b : Fn} (h : g a ≠ g b) : Sp.sameFn a b = false := decide_eq_false fun e => h (by rw [e])
theorem ok24 (a b : Fn) (h : a.ok) : go24 a b = some (Sp.sameFn a b, ()) := by
  have h1 := h.2.1.len
  have h4 := h.2.2.2.2.1.len
  unfold go24
  by_cases e1 : a.name = b.name
  rotate_left
  · rw [fn_no (fun x => x.name) e1]; simp only [bytes_beq, decide_eq_false e1, grd_ok h1, grd_ok h4, callB_some, Bool.not_true, Bool.not_false, cond_false, cond_true]
  by_cases e2 : a.widths = b.widths
  rotate_left
  · rw [fn_no (fun x => x.widths) e2]; simp only [bytes_beq, decide_eq_true e1, decide_eq_false e2, grd_ok h1, grd_ok h4, callB_some, Bool.not_true, Bool.not_false, cond_false, cond_true]
  by_cases e3 : a.rets = b.rets
  rotate_left
  · rw [fn_no (fun x => x.rets) e3]; simp only [bytes_beq, decide_eq_true e1, decide_eq_true e2, decide_eq_false e3, grd_ok h1, grd_ok h4, callB_some, Bool.not_true, Bool.not_false, cond_false, cond_true]
  by_cases e4 : (a.arrays.length : Int) = b.arrays.length
  rotate_left
  · rw [fn_no (fun x => (x.arrays.length : Int)) e4]; simp only [bytes_beq, decide_eq_true e1, decide_eq_true e2, decide_eq_true e3, decide_eq_false e4, grd_ok h1, grd_ok h4, callB_some, Bool.not_true, Bool.not_false, cond_false, cond_true]
  by_cases e5 : (a.streams.length : Int) = b.streams.length
  rotate_left
  · rw [fn_no (fun x => (x.streams.length : Int)) e5]; simp only [bytes_beq, decide_eq_true e1, decide_eq_true e2, decide_eq_true e3, decide_eq_true e4, decide_eq_false e5, grd_ok h1, grd_ok h4, callB_some, Bool.not_true, Bool.not_false, cond_false, cond_true]
  by_cases e6 : (a.blocks.length : Int) = b.blocks.length
  rotate_left
  · rw [fn_no (fun x => (x.blocks.length : Int)) e6]; simp only [bytes_beq, decide_eq_true e1, decide_eq_true e2, decide_eq_true e3, decide_eq_true e4, decide_eq_true e5, decide_eq_false e6, grd_ok h1, grd_ok h4, callB_some, Bool.not_true, Bool.not_false, cond_false, cond_true]
  have f4 : a.arrays.length = b.arrays.length := by omega
  have f5 : a.streams.length = b.streams.length := by omega
  have f6 : a.blocks.length = b.blocks.length := by omega
  simp only [bytes_beq, decide_eq_true e1, decide_eq_true e2, decide_eq_true e3, decide_eq_true e4, decide_eq_true e5, decide_eq_true e6, grd_ok h1, grd_ok h4, callB_some, Bool.not_true, cond_false, loop241 a b h f4, all_eqG Arr.z f4]
  by_cases g4 : a.arrays = b.arrays
  rotate_left
  · rw [fn_no (fun x => x.arrays) g4]
    simp only [decide_eq_false g4, Bool.false_eq_true, if_false, sumO_inr]
  simp only [decide_eq_true g4, if_true, sumO_inl, loop242 a b h f5, all_eqG Strm.z f5, callB_some]
  by_cases g5 : a.streams = b.streams
  rotate_left
  · rw [fn_no (fun x => x.streams) g5]
    simp only [decide_eq_false g5, Bool.false_eq_true, if_false, sumO_inr]
  simp only [decide_eq_true g5, if_true, sumO_inl, loop243 a b h f6, all_eqG Block.z f6, callB_some]
  by_cases g6 : a.blocks = b.blocks
  rotate_left
  · rw [fn_no (fun x => x.blocks) g6]
    simp only [decide_eq_false g6, Bool.false_eq_true, if_false, sumO_inr]
  have : Sp.sameFn a b = true := by
    rw [fn_dec]
    simp only [decide_eq_true e1, decide_eq_true e2, decide_eq_true e3, decide_eq_true g4, decide_eq_true g5, decide_eq_true g6, Bool.and_true]
  rw [this]
  simp only [decide_eq_true g6, if_true, sumO_inl]
def c24 : Ctr Try.prog := mkCtr 24 Try.f24 Try.func24 [c39, c59] ann24 [(0, (.st 6)), (1, (.st 6))] [] .b [] (fun x _ => grd (okB (Fn.ok x.1)) (some (Sp.sameFn x.1 x.2.1, ()))) (fun x _ r h => FO (run24 x.1 x.2.1) (ok24 x.1 x.2.1) h)
end
end Go.Abs

