/-
Texts of the proof, part 10: Zx.
No statement of the program is proved here.
-/
import Derived.Test.YtlcholjffgaemaaM9
set_option linter.unusedVariables false
set_option linter.unusedSectionVars false
set_option linter.unusedSimpArgs false
set_option maxHeartbeats 1000000
namespace Go.Abs
open Go Go.Proofs
noncomputable section
def ann11 : Ann := (.seq .o (.join ⟨[(1, (.i .i64)), (2, (.ptr 0 0))], [(.box 30 (.st 6))]⟩ (.seq .o (.cond (.seq .o .o) .o)) (.seq (.x ⟨false, false, false, false, [], [], [0, 1, 0, 7, 0, 31, 63, 127, 255], (.rd 0 (.rd 2 (.rd 4 (.on 1 (.on 3 (.on 5 (.qu [6, 7, 8] .nil)))))))⟩) (.join ⟨[(2, (.ptr 0 0)), (5, (.full 1)), (6, (.full 2)), (7, (.full 3))], [(.box 30 (.st 6)), (.lst 25 (.st 12)), (.lst 4 .bool), (.lst 4 .bool)]⟩ (.seq .o (.cond (.seq .o .o) .o)) (.join ⟨[], []⟩ (.seq .o (.block (.loop ⟨[(2, (.ptr 0 0)), (5, (.full 1)), (6, (.full 2)), (7, (.full 3)), (8, (.i .i64))], [(.box 30 (.st 6)), (.lst 25 (.st 12)), (.lst 4 .bool), (.lst 4 .bool)]⟩ [((.exit 0), ⟨[], []⟩), (.ret, ⟨[(4, .b)], []⟩)] (.join ⟨[(2, (.ptr 0 0)), (5, (.full 1)), (6, (.full 2)), (7, (.full 3)), (8, (.i .i64))], [(.box 30 (.st 6)), (.lst 25 (.st 12)), (.lst 4 .bool), (.lst 4 .bool)]⟩ (.seq .o (.cond .o .o)) (.join ⟨[(2, (.ptr 0 0)), (5, (.full 1)), (6, (.full 2)), (7, (.full 3)), (8, (.i .i64))], [(.box 30 (.st 6)), (.lst 25 (.st 12)), (.lst 4 .bool), (.lst 4 .bool)]⟩ (.block (.seq .o (.join ⟨[(2, (.ptr 0 0)), (5, (.full 1)), (6, (.full 2)), (7, (.full 3)), (8, (.i .i64)), (9, (.full 4))], [(.box 30 (.st 6)), (.lst 25 (.st 12)), (.lst 4 .bool), (.lst 4 .bool), (.lst 3 (.int .i64))]⟩ (.seq .o (.block (.loop ⟨[(2, (.ptr 0 0)), (5, (.full 1)), (6, (.full 2)), (7, (.full 3)), (8, (.i .i64)), (9, (.full 4)), (10, (.i .i64))], [(.box 30 (.st 6)), (.lst 25 (.st 12)), (.lst 4 .bool), (.lst 4 .bool), (.lst 3 (.int .i64))]⟩ [((.exit 2), ⟨[(2, (.ptr 0 0)), (5, (.full 1)), (6, (.full 2)), (7, (.full 3)), (8, (.i .i64)), (9, (.full 4))], [(.box 30 (.st 6)), (.lst 25 (.st 12)), (.lst 4 .bool), (.lst 4 .bool), (.lst 3 (.int .i64))]⟩)] (.join ⟨[(2, (.ptr 0 0)), (5, (.full 1)), (6, (.full 2)), (7, (.full 3)), (8, (.i .i64)), (9, (.full 4)), (10, (.i .i64))], [(.box 30 (.st 6)), (.lst 25 (.st 12)), (.lst 4 .bool), (.lst 4 .bool), (.lst 3 (.int .i64))]⟩ (.seq .o (.cond .o .o)) (.join ⟨[(2, (.ptr 0 0)), (5, (.full 1)), (6, (.full 2)), (7, (.full 3)), (8, (.i .i64)), (9, (.full 4)), (10, (.i .i64))], [(.box 30 (.st 6)), (.lst 25 (.st 12)), (.lst 4 .bool), (.lst 4 .bool), (.lst 3 (.int .i64))]⟩ (.block (.seq .o (.cond .o .o))) .o))))) (.seq (.x ⟨false, false, false, false, [25], [], [], .no⟩) (.cond (.seq .o .o) .o))))) .o))))) (.seq .o .o))))))
def go11_j1 : ((Unit × (Unit × (Unit × (Unit × (Int × (Unit × (Int × Unit))))))) × (Fn × ((List LsI) × ((List Bool) × ((List Bool) × ((List Int) × Unit)))))) -> Option (((Unit × (Unit × (Unit × (Unit × (Int × (Unit × (Int × Unit))))))) × (Fn × ((List LsI) × ((List Bool) × ((List Bool) × ((List Int) × Unit)))))) ⊕ ((Unit × (Unit × (Unit × (Unit × (Int × (Unit × Unit)))))) × (Fn × ((List LsI) × ((List Bool) × ((List Bool) × ((List Int) × Unit))))))) := (fun (z0 : ((Unit × (Unit × (Unit × (Unit × (Int × (Unit × (Int × Unit))))))) × (Fn × ((List LsI) × ((List Bool) × ((List Bool) × ((List Int) × Unit))))))) => (grd (okB (((-(9223372036854775808 : Int)) <= (z0.1.2.2.2.2.2.2.1 + (1 : Int))) /\ ((z0.1.2.2.2.2.2.2.1 + (1 : Int)) <= (9223372036854775807 : Int))))
   (some (Sum.inl (((), ((), ((), ((), (z0.1.2.2.2.2.1, ((), ((z0.1.2.2.2.2.2.2.1 + (1 : Int)), ()))))))), (z0.2.1, (z0.2.2.1, (z0.2.2.2.1, (z0.2.2.2.2.1, (z0.2.2.2.2.2.1, ()))))))))))
def go11_l2 : ((Unit × (Unit × (Unit × (Unit × (Int × (Unit × (Int × Unit))))))) × (Fn × ((List LsI) × ((List Bool) × ((List Bool) × ((List Int) × Unit)))))) -> Option (((Unit × (Unit × (Unit × (Unit × (Int × (Unit × (Int × Unit))))))) × (Fn × ((List LsI) × ((List Bool) × ((List Bool) × ((List Int) × Unit)))))) ⊕ ((Unit × (Unit × (Unit × (Unit × (Int × (Unit × Unit)))))) × (Fn × ((List LsI) × ((List Bool) × ((List Bool) × ((List Int) × Unit))))))) := (fun (r11 : ((Unit × (Unit × (Unit × (Unit × (Int × (Unit × (Int × Unit))))))) × (Fn × ((List LsI) × ((List Bool) × ((List Bool) × ((List Int) × Unit))))))) => (bif (decide (r11.1.2.2.2.2.2.2.1 < ((r11.2.1.blocks.length : Nat) : Int))) then
   (jpO (go11_j1)
    (fun (j0 : (((Unit × (Unit × (Unit × (Unit × (Int × (Unit × (Int × Unit))))))) × (Fn × ((List LsI) × ((List Bool) × ((List Bool) × ((List Int) × Unit)))))) -> (Option (((Unit × (Unit × (Unit × (Unit × (Int × (Unit × (Int × Unit))))))) × (Fn × ((List LsI) × ((List Bool) × ((List Bool) × ((List Int) × Unit)))))) ⊕ ((Unit × (Unit × (Unit × (Unit × (Int × (Unit × Unit)))))) × (Fn × ((List LsI) × ((List Bool) × ((List Bool) × ((List Int) × Unit)))))))))) => (callB (grd (okB (Fn.ok r11.2.1))
       (some ((), ((Sp.succs r11.2.1 r11.1.2.2.2.2.2.2.1), ()))))
      (fun (r12 : (Unit × ((List Int) × Unit))) => (callB (grd (okB (r12.2.1.length <= LEN))
         (some ((!(@List.all Int r12.2.1 (fun (r13 : Int) => (!(decide (r13 = r11.1.2.2.2.2.1)))))), ())))
        (fun (r13 : (Bool × Unit)) => (bif r13.1 then
          (grd (okB ((((r11.2.2.2.2.2.1.length + 1) * (8 : Nat)) <= (140737488355328 : Nat)) /\ ((r11.2.2.2.2.2.1.length + 1) <= (281474976710656 : Nat))))
           (j0 (((), ((), ((), ((), (r11.1.2.2.2.2.1, ((), (r11.1.2.2.2.2.2.2.1, ()))))))), (r11.2.1, (r11.2.2.1, (r11.2.2.2.1, (r11.2.2.2.2.1, ((r11.2.2.2.2.2.1 ++ (r11.1.2.2.2.2.2.2.1 :: ([] : List Int))), ()))))))))
          else
          (j0 (((), ((), ((), ((), (r11.1.2.2.2.2.1, ((), (r11.1.2.2.2.2.2.2.1, ()))))))), (r11.2.1, (r11.2.2.1, (r11.2.2.2.1, (r11.2.2.2.2.1, (r11.2.2.2.2.2.1, ()))))))))))))))
   else
   (some (Sum.inr (((), ((), ((), ((), (r11.1.2.2.2.2.1, ((), ())))))), (r11.2.1, (r11.2.2.1, (r11.2.2.2.1, (r11.2.2.2.2.1, (r11.2.2.2.2.2.1, ()))))))))))
def go11_l1 : ((Unit × (Unit × (Unit × (Unit × (Int × Unit))))) × (Fn × ((List LsI) × ((List Bool) × ((List Bool) × Unit))))) -> Option (((Unit × (Unit × (Unit × (Unit × (Int × Unit))))) × (Fn × ((List LsI) × ((List Bool) × ((List Bool) × Unit))))) ⊕ ((Unit × Unit) ⊕ ((Bool × Unit) × Unit))) := (fun (r10 : ((Unit × (Unit × (Unit × (Unit × (Int × Unit))))) × (Fn × ((List LsI) × ((List Bool) × ((List Bool) × Unit)))))) => (bif (decide (r10.1.2.2.2.2.1 < ((r10.2.1.blocks.length : Nat) : Int))) then
   (callB (whileO (go11_l2) (((), ((), ((), ((), (r10.1.2.2.2.2.1, ((), ((0 : Int), ()))))))), (r10.2.1, (r10.2.2.1, (r10.2.2.2.1, (r10.2.2.2.2.1, (([] : List Int), ())))))))
    (fun (z0 : ((Unit × (Unit × (Unit × (Unit × (Int × (Unit × Unit)))))) × (Fn × ((List LsI) × ((List Bool) × ((List Bool) × ((List Int) × Unit))))))) => (grd (okB (((0 : Int) <= z0.1.2.2.2.2.1) /\ (z0.1.2.2.2.2.1 < ((z0.2.2.2.1.length : Nat) : Int))))
      (grd (Nat.blt z0.1.2.2.2.2.1.toNat z0.2.2.2.1.length)
       (grd (okB (((0 : Int) <= z0.1.2.2.2.2.1) /\ (z0.1.2.2.2.2.1 < ((z0.2.2.2.2.1.length : Nat) : Int))))
        (grd (Nat.blt z0.1.2.2.2.2.1.toNat z0.2.2.2.2.1.length)
         (bif (!((z0.2.2.2.1.getD z0.1.2.2.2.2.1.toNat false) == (z0.2.2.2.2.1.getD z0.1.2.2.2.2.1.toNat false))) then
          (some (Sum.inr (Sum.inr ((false, ()), ()))))
          else
          (grd (okB (((0 : Int) <= z0.1.2.2.2.2.1) /\ (z0.1.2.2.2.2.1 < ((z0.2.2.1.length : Nat) : Int))))
           (grd (Nat.blt z0.1.2.2.2.2.1.toNat z0.2.2.1.length)
            (callB (@Sp.gnL Int (z0.2.2.1.getD z0.1.2.2.2.2.1.toNat (LsI.mk (@Gn.own Int ([] : List Int)))).v)
             (fun (z1 : (List Int)) => (callB (@Sp.gnL Int (z0.2.2.1.getD z0.1.2.2.2.2.1.toNat (LsI.mk (@Gn.own Int ([] : List Int)))).v)
               (fun (l0 : (List Int)) => (callB (grd (okB (l0.length <= LEN))
                  (some ((decide (l0 = z0.2.2.2.2.2.1)), ())))
                 (fun (r11 : (Bool × Unit)) => (bif (!r11.1) then
                   (some (Sum.inr (Sum.inr ((false, ()), ()))))
                   else
                   (callB (grd (okB (Sp.two z0.2.1))
                     (some ((Sp.nexts z0.2.1 z0.1.2.2.2.2.1), ())))
                    (fun (r12 : ((List Int) × Unit)) => (callB (grd (okB (Fn.ok z0.2.1))
                       (some ((), ((Sp.succs z0.2.1 z0.1.2.2.2.2.1), ()))))
                      (fun (r13 : (Unit × ((List Int) × Unit))) => (callB (grd (okB (r12.1.length <= LEN))
                         (some ((decide (r12.1 = r13.2.1)), ())))
                        (fun (r14 : (Bool × Unit)) => (bif (!r14.1) then
                          (some (Sum.inr (Sum.inr ((false, ()), ()))))
                          else
                          (grd (okB (((-(9223372036854775808 : Int)) <= (z0.1.2.2.2.2.1 + (1 : Int))) /\ ((z0.1.2.2.2.2.1 + (1 : Int)) <= (9223372036854775807 : Int))))
                           (some (Sum.inl (((), ((), ((), ((), ((z0.1.2.2.2.2.1 + (1 : Int)), ()))))), (z0.2.1, (z0.2.2.1, (z0.2.2.2.1, (z0.2.2.2.2.1, ())))))))))))))))))))))))))))))))
   else
   (some (Sum.inr (Sum.inl ((), ()))))))
def go11 (x0 : Fn) (x1 : Int) : (Option (Bool × Unit)) :=
 (callB (grd (okB (Fn.ok x0))
   (some ((Sp.few x0), ())))
  (fun (r0 : (Bool × Unit)) => (bif (!r0.1) then
    (some (true, ()))
    else
    (callB (grd (okB (Fn.ok x0))
      (some ((Sp.valid x0), ())))
     (fun (r1 : (Bool × Unit)) => (bif (!r1.1) then
       (some (true, ()))
       else
       (callB (grd (okB ((Fn.ok x0) /\ (Sp.two x0)))
         (some ((), ((@List.map (List Int) LsI Sp.ownI (Sp.preds x0)), ()))))
        (fun (r2 : (Unit × ((List LsI) × Unit))) => (callB (grd (okB (Fn.ok x0))
           (some ((), ((Sp.reach x0), ()))))
          (fun (r3 : (Unit × ((List Bool) × Unit))) => (callB (grd (okB (Fn.ok x0))
             (some ((), ((Sp.rounds x0 x0.blocks.length), ()))))
            (fun (r4 : (Unit × ((List Bool) × Unit))) => (bif (!(decide (((r2.2.1.length : Nat) : Int) = ((x0.blocks.length : Nat) : Int)))) then
              (some (false, ()))
              else
              (bif (!(decide (((r3.2.1.length : Nat) : Int) = ((x0.blocks.length : Nat) : Int)))) then
               (some (false, ()))
               else
               (callB (grd (okB (Sp.two x0))
                 (some ((Sp.nexts x0 (-(1 : Int))), ())))
                (fun (r5 : ((List Int) × Unit)) => (bif (decide ((0 : Int) < ((r5.1.length : Nat) : Int))) then
                  (some (false, ()))
                  else
                  (callB (grd (okB (Sp.two x0))
                    (some ((Sp.nexts x0 ((x0.blocks.length : Nat) : Int)), ())))
                   (fun (r6 : ((List Int) × Unit)) => (bif (decide ((0 : Int) < ((r6.1.length : Nat) : Int))) then
                     (some (false, ()))
                     else
                     (callB (grd (okB (Sp.two x0))
                       (some ((Sp.nexts x0 x1), ())))
                      (fun (r7 : ((List Int) × Unit)) => (callB (grd (okB (Fn.ok x0))
                         (some ((), ((Sp.succs x0 x1), ()))))
                        (fun (r8 : (Unit × ((List Int) × Unit))) => (callB (grd (okB (r7.1.length <= LEN))
                           (some ((decide (r7.1 = r8.2.1)), ())))
                          (fun (r9 : (Bool × Unit)) => (bif (!r9.1) then
                            (some (false, ()))
                            else
                            (callB (whileO (go11_l1) (((), ((), ((), ((), ((0 : Int), ()))))), (x0, (r2.2.1, (r3.2.1, (r4.2.1, ()))))))
                             (fun (z0 : ((Unit × Unit) ⊕ ((Bool × Unit) × Unit))) => (sumO (fun (z1 : (Unit × Unit)) => (some (true, ())))
                               (fun (z1 : ((Bool × Unit) × Unit)) => (some (z1.1.1, ()))) z0))))))))))))))))))))))))))))))
theorem run11 (x0 : Fn) (x1 : Int) : runF (P := Try.prog) [c12, c17, c18, c35, c36, c37, c38, c39, c40, c41] Try.f11 ann11 [(0, (.st 6)), (1, (.i .i64))] [] .b [] (x0, (x1, ())) () = go11 x0 x1 := by kernel_rfl
theorem succs_len2 (f : Fn) (b : Int) : (Sp.succs f b).length <= f.blocks.length := by
 unfold Sp.succs
 split
 ·exact succsTo_len f _ _
 ·exact Nat.zero_le _
theorem any_mem {l : List Int} {b : Int} : (!(l.all fun y => !decide (y = b))) = decide (b ∈ l) := by
 by_cases h : b ∈ l
 ·rw [decide_eq_true h]
  have : (l.all fun y => !decide (y = b)) = false := by
   rw [List.all_eq_false]; exact ⟨b, h, by simp⟩
  rw [this]; rfl
 ·rw [decide_eq_false h, not_in h]; rfl
theorem loop112 (f : Fn) (hf : f.ok) (P : List LsI) (R W : List Bool) (b : Nat) :
  whileO go11_l2 (((), ((), ((), ((), ((b : Int), ((), ((0 : Int), ()))))))), (f, (P, (R, (W, (([] : List Int), ())))))) = some (((), ((), ((), ((), ((b : Int), ((), ())))))), (f, (P, (R, (W, (Sp.into f b f.blocks.length, ())))))) := by
 have hB := hf.2.2.2.2.2.1
 simp only [reachBytes] at hB
 refine whileO_to (st := fun k => (((), ((), ((), ((), ((b : Int), ((), ((k : Int), ()))))))), (f, (P, (R, (W, (Sp.into f b k, ()))))))) rfl f.blocks.length (fun k hk => ?_) ?_
 ·unfold go11_l2
  simp only
  have h1 := succs_len2 f k
  have h2 := into_len f b k
  rw [decide_eq_true (by omega), cond_true, jpO_eq, grd_ok hf]
  simp only [callB_some]
  rw [grd_ok (by rw [lenVal]; omega)]
  simp only [callB_some]
  rw [any_mem, into_succ]
  have hj1 : ∀ X, go11_j1 (((), ((), ((), ((), ((b : Int), ((), ((k : Int), ()))))))), (f, (P, (R, (W, (X, ())))))) = some (.inl (((), ((), ((), ((), ((b : Int), ((), (((k + 1 : Nat) : Int), ()))))))), (f, (P, (R, (W, (X, ()))))))) := fun X => by
   unfold go11_j1
   simp only
   rw [grd_ok (by omega)]
   rfl
  by_cases hm : (b : Int) ∈ Sp.succs f k
  ·rw [decide_eq_true hm, cond_true, if_pos hm, grd_ok (by omega), hj1]
  ·rw [decide_eq_false hm, cond_false, if_neg hm, hj1]
 ·unfold go11_l2
  simp only
  rw [decide_eq_false (by omega), cond_false]
theorem ok11 (f : Fn) (hf : f.ok) (a : Int) : go11 f a = some (true, ()) := by
 have hB := hf.2.2.2.2.2.1
 simp only [reachBytes] at hB
 unfold go11
 rw [grd_ok hf]
 simp only [callB_some]
 cases hfew : Sp.few f with
 | false => rfl
 | true =>
  simp only [Bool.not_true, cond_false]
  rw [grd_ok hf]
  simp only [callB_some]
  cases hv : Sp.valid f with
  | false => rfl
  | true =>
   simp only [Bool.not_true, cond_false]
   have h2 := valid_two2 hv
   have h0 := valid_pos hv
   have hnl : ∀ b, (Sp.nexts f b).length <= 2 := nexts_len f h2
   have hpl : ((Sp.preds f).map Sp.ownI).length = f.blocks.length := by rw [List.length_map]; exact predsTo_len f _
   have e1 : Sp.nexts f (-1) = [] := by unfold Sp.nexts; rw [if_neg (by omega)]
   have e2 : Sp.nexts f ((f.blocks.length : Nat) : Int) = [] := by unfold Sp.nexts; rw [if_neg (by omega)]
   rw [grd_ok ⟨hf, h2⟩]
   simp only [callB_some]
   rw [grd_ok hf]
   simp only [callB_some]
   rw [grd_ok hf]
   simp only [callB_some]
   rw [hpl, reach_len, decide_eq_true rfl]
   simp only [Bool.not_true, cond_false]
   rw [grd_ok h2]
   simp only [callB_some]
   rw [e1, decide_eq_false (by simp), cond_false, e2, grd_ok h2]
   simp only [callB_some]
   rw [decide_eq_false (by simp), cond_false, grd_ok h2]
   simp only [callB_some]
   rw [grd_ok hf]
   simp only [callB_some]
   rw [grd_ok (by rw [lenVal]; have := hnl a; omega)]
   simp only [callB_some]
   rw [nexts_succs hv, decide_eq_true rfl]
   simp only [Bool.not_true, cond_false]
   refine callB_of (y := .inl ((), ())) ?_ rfl
   refine whileO_to (st := fun k => (((), ((), ((), ((), ((k : Int), ()))))), (f, ((Sp.preds f).map Sp.ownI, (Sp.reach f, (Sp.rounds f f.blocks.length, ())))))) rfl f.blocks.length (fun k hk => ?_) ?_
   ·unfold go11_l1
    simp only
    rw [decide_eq_true (by omega), cond_true]
    refine callB_of (loop112 f hf _ _ _ k) ?_
    simp only [Int.toNat_natCast]
    rw [reach_len, rounds_len, hpl, grd_ok (by omega), grd_of (blt_t hk), grd_ok (by omega), grd_of (blt_t hk), reach_rounds f h0]
    simp only [BEq.rfl, Bool.not_true, cond_false]
    rw [grd_ok (by omega), grd_of (blt_t hk), ownI_getD]
    have hp : (Sp.preds f).getD k [] = Sp.into f k f.blocks.length := preds_at hv k hk _
    rw [hp]
    have hg : @Sp.gnL Int (Sp.ownI (Sp.into f k f.blocks.length)).v = some (Sp.into f k f.blocks.length) := rfl
    rw [hg]
    simp only [callB_some]
    have hi := into_len f k f.blocks.length
    rw [grd_ok (by rw [lenVal]; omega)]
    simp only [callB_some, decide_true, Bool.not_true, cond_false]
    rw [grd_ok h2]
    simp only [callB_some]
    rw [grd_ok hf]
    simp only [callB_some]
    rw [grd_ok (by rw [lenVal]; have := hnl k; omega)]
    simp only [callB_some]
    rw [nexts_succs hv, decide_eq_true rfl]
    simp only [Bool.not_true, cond_false]
    rw [grd_ok (by omega)]
    rfl
   ·unfold go11_l1
    simp only
    rw [decide_eq_false (by omega), cond_false]
def c11 : Ctr Try.prog := mkCtr 11 Try.f11 Try.func11 [c12, c17, c18, c35, c36, c37, c38, c39, c40, c41] ann11 [(0, (.st 6)), (1, (.i .i64))] [] .b [] (fun x _ => grd (okB x.1.ok) (some (true, ()))) (fun x _ r h => FO (run11 x.1 x.2.1) (fun k => ok11 x.1 k x.2.1) h)
theorem irGraph_pc (f : Fn) (hf : f.ok) (a : Int) (ha : I64 a) : PC Try.prog 11 [f.v, .t (.int .i64 a)] (.t (.bool true)) := by
 have h := Ctr.pc (c := c11) (us := [.st 6 f, .i .i64 a]) (z := ⟨[], (f, a, ()), ()⟩) rfl rfl (res := (true, ())) (grd_ok hf)
 simp only [List.map_cons, List.map_nil, toV, mkE] at h
 exact h
end
end Go.Abs
