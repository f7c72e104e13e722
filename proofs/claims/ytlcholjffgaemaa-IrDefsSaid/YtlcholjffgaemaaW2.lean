/-
What functions compute: Def.
No statement of the program is proved here.
-/
import Derived.Test.YtlcholjffgaemaaW1
set_option linter.unusedVariables false
set_option linter.unusedSectionVars false
set_option linter.unusedSimpArgs false
set_option maxHeartbeats 1000000
namespace Go.Abs
open Go Go.Proofs
noncomputable section
def ann21 : Ann := (.seq .o (.join ⟨[], []⟩ (.seq .o (.block (.loop ⟨[(1, (.i .i64)), (13, (.fz (.st 3))), (14, (.i .i64)), (15, (.i .i64))], []⟩ [((.exit 0), ⟨[], []⟩), (.ret, ⟨[(4, (.i .i64)), (5, (.i .i64)), (6, .b)], []⟩)] (.seq .o (.join ⟨[(1, (.i .i64)), (13, (.fz (.st 3))), (14, (.i .i64)), (15, (.i .i64))], []⟩ (.cond .o .o) (.join ⟨[(1, (.i .i64)), (13, (.fz (.st 3))), (14, (.i .i64)), (15, (.i .i64))], []⟩ (.block (.seq .o (.join ⟨[(1, (.i .i64)), (7, (.i .i64)), (8, (.ptr 0 0)), (13, (.fz (.st 3))), (14, (.i .i64)), (15, (.i .i64))], [(.box 41 (.st 3))]⟩ (.seq .o (.seq .o (.cond (.seq .o .o) .o))) (.seq .o (.block (.loop ⟨[(1, (.i .i64)), (7, (.i .i64)), (13, (.fz (.st 3))), (14, (.i .i64)), (15, (.i .i64)), (30, (.fz (.st 0))), (31, (.i .i64)), (32, (.i .i64))], []⟩ [((.exit 2), ⟨[(1, (.i .i64)), (13, (.fz (.st 3))), (14, (.i .i64)), (15, (.i .i64))], []⟩), (.ret, ⟨[(4, (.i .i64)), (5, (.i .i64)), (6, .b)], []⟩)] (.seq .o (.join ⟨[(1, (.i .i64)), (7, (.i .i64)), (13, (.fz (.st 3))), (14, (.i .i64)), (15, (.i .i64)), (30, (.fz (.st 0))), (31, (.i .i64)), (32, (.i .i64))], []⟩ (.cond .o .o) (.join ⟨[(1, (.i .i64)), (7, (.i .i64)), (13, (.fz (.st 3))), (14, (.i .i64)), (15, (.i .i64)), (30, (.fz (.st 0))), (31, (.i .i64)), (32, (.i .i64))], []⟩ (.block (.seq .o (.seq .o (.cond (.seq .o .o) .o)))) .o))))))))) .o)))))) (.seq .o .o)))
def go21_j1 : ((Int × (Int × ((List Block) × (Int × (Int × ((List Inst) × (Int × (Int × Unit)))))))) × Unit) → Option (((Int × (Int × ((List Block) × (Int × (Int × ((List Inst) × (Int × (Int × Unit)))))))) × Unit) ⊕ (((Int × ((List Block) × (Int × (Int × Unit)))) × Unit) ⊕ ((Int × (Int × (Bool × Unit))) × Unit))) := (fun (z0 : ((Int × (Int × ((List Block) × (Int × (Int × ((List Inst) × (Int × (Int × Unit)))))))) × Unit)) => (grd (okB (((-(9223372036854775808 : Int)) ≤ (z0.1.2.2.2.2.2.2.2.1 + (1 : Int))) ∧ ((z0.1.2.2.2.2.2.2.2.1 + (1 : Int)) ≤ (9223372036854775807 : Int))))
      (some (Sum.inl ((z0.1.1, (z0.1.2.1, (z0.1.2.2.1, (z0.1.2.2.2.1, (z0.1.2.2.2.2.1, (z0.1.2.2.2.2.2.1, (z0.1.2.2.2.2.2.2.1, ((z0.1.2.2.2.2.2.2.2.1 + (1 : Int)), ())))))))), ())))))
def go21_l2 : ((Int × (Int × ((List Block) × (Int × (Int × ((List Inst) × (Int × (Int × Unit)))))))) × Unit) → Option (((Int × (Int × ((List Block) × (Int × (Int × ((List Inst) × (Int × (Int × Unit)))))))) × Unit) ⊕ (((Int × ((List Block) × (Int × (Int × Unit)))) × Unit) ⊕ ((Int × (Int × (Bool × Unit))) × Unit))) := (fun (r2 : ((Int × (Int × ((List Block) × (Int × (Int × ((List Inst) × (Int × (Int × Unit)))))))) × Unit)) => (bif (decide (r2.1.2.2.2.2.2.2.2.1 < r2.1.2.2.2.2.2.2.1)) then
      (jpO (go21_j1)
        (fun (j0 : (((Int × (Int × ((List Block) × (Int × (Int × ((List Inst) × (Int × (Int × Unit)))))))) × Unit) → (Option (((Int × (Int × ((List Block) × (Int × (Int × ((List Inst) × (Int × (Int × Unit)))))))) × Unit) ⊕ (((Int × ((List Block) × (Int × (Int × Unit)))) × Unit) ⊕ ((Int × (Int × (Bool × Unit))) × Unit)))))) => (grd (okB (((0 : Int) ≤ r2.1.2.2.2.2.2.2.2.1) ∧ (r2.1.2.2.2.2.2.2.2.1 < ((r2.1.2.2.2.2.2.1.length : Nat) : Int))))
            (bif (Sp.named (r2.1.2.2.2.2.2.1.getD r2.1.2.2.2.2.2.2.2.1.toNat Inst.z).op) then
              (bif (decide ((r2.1.2.2.2.2.2.1.getD r2.1.2.2.2.2.2.2.2.1.toNat Inst.z).dest = r2.1.1)) then
                (some (Sum.inr (Sum.inr ((r2.1.2.1, (r2.1.2.2.2.2.2.2.2.1, (true, ()))), ()))))
                else
                (j0 ((r2.1.1, (r2.1.2.1, (r2.1.2.2.1, (r2.1.2.2.2.1, (r2.1.2.2.2.2.1, (r2.1.2.2.2.2.2.1, (r2.1.2.2.2.2.2.2.1, (r2.1.2.2.2.2.2.2.2.1, ())))))))), ())))
              else
              (j0 ((r2.1.1, (r2.1.2.1, (r2.1.2.2.1, (r2.1.2.2.2.1, (r2.1.2.2.2.2.1, (r2.1.2.2.2.2.2.1, (r2.1.2.2.2.2.2.2.1, (r2.1.2.2.2.2.2.2.2.1, ())))))))), ()))))))
      else
      (some (Sum.inr (Sum.inl ((r2.1.1, (r2.1.2.2.1, (r2.1.2.2.2.1, (r2.1.2.2.2.2.1, ())))), ()))))))
def go21_l1 : ((Int × ((List Block) × (Int × (Int × Unit)))) × Unit) → Option (((Int × ((List Block) × (Int × (Int × Unit)))) × Unit) ⊕ ((Unit × Unit) ⊕ ((Int × (Int × (Bool × Unit))) × Unit))) := (fun (r0 : ((Int × ((List Block) × (Int × (Int × Unit)))) × Unit)) => (bif (decide (r0.1.2.2.2.1 < r0.1.2.2.1)) then
      (grd (okB (((0 : Int) ≤ r0.1.2.2.2.1) ∧ (r0.1.2.2.2.1 < ((r0.1.2.1.length : Nat) : Int))))
        (callB (grd (okB ((r0.1.2.1.getD r0.1.2.2.2.1.toNat Block.z).params.length ≤ LEN))
            (some ((Sp.index (r0.1.2.1.getD r0.1.2.2.2.1.toNat Block.z).params r0.1.1), ())))
          (fun (r1 : (Int × Unit)) => (bif (decide ((0 : Int) ≤ r1.1)) then
              (grd (okB (((-(9223372036854775808 : Int)) ≤ ((-(1 : Int)) - r1.1)) ∧ (((-(1 : Int)) - r1.1) ≤ (9223372036854775807 : Int))))
                (some (Sum.inr (Sum.inr ((r0.1.2.2.2.1, (((-(1 : Int)) - r1.1), (true, ()))), ())))))
              else
              (callB (whileO (go21_l2) ((r0.1.1, (r0.1.2.2.2.1, (r0.1.2.1, (r0.1.2.2.1, (r0.1.2.2.2.1, ((r0.1.2.1.getD r0.1.2.2.2.1.toNat Block.z).insts, ((((r0.1.2.1.getD r0.1.2.2.2.1.toNat Block.z).insts.length : Nat) : Int), ((0 : Int), ())))))))), ()))
                (fun (z0 : (((Int × ((List Block) × (Int × (Int × Unit)))) × Unit) ⊕ ((Int × (Int × (Bool × Unit))) × Unit))) => (sumO (fun (z1 : ((Int × ((List Block) × (Int × (Int × Unit)))) × Unit)) => (grd (okB (((-(9223372036854775808 : Int)) ≤ (z1.1.2.2.2.1 + (1 : Int))) ∧ ((z1.1.2.2.2.1 + (1 : Int)) ≤ (9223372036854775807 : Int))))
                        (some (Sum.inl ((z1.1.1, (z1.1.2.1, (z1.1.2.2.1, ((z1.1.2.2.2.1 + (1 : Int)), ())))), ())))))
                    (fun (z1 : ((Int × (Int × (Bool × Unit))) × Unit)) => (some (Sum.inr (Sum.inr ((z1.1.1, (z1.1.2.1, (z1.1.2.2.1, ()))), ()))))) z0)))))))
      else
      (some (Sum.inr (Sum.inl ((), ()))))))
def go21 (x0 : Fn) (x1 : Int) : (Option ((Int × (Int × (Bool × Unit))) × Unit)) :=
  (callB (whileO (go21_l1) ((x1, (x0.blocks, (((x0.blocks.length : Nat) : Int), ((0 : Int), ())))), ()))
    (fun (z0 : ((Unit × Unit) ⊕ ((Int × (Int × (Bool × Unit))) × Unit))) => (sumO (fun (z1 : (Unit × Unit)) => (some (((0 : Int), ((0 : Int), (false, ()))), ())))
        (fun (z1 : ((Int × (Int × (Bool × Unit))) × Unit)) => (some ((z1.1.1, (z1.1.2.1, (z1.1.2.2.1, ()))), ()))) z0)))
theorem run21 (x0 : Fn) (x1 : Int) : runF (P := Try.prog) [c52, c53] Try.f21 ann21 [(0, (.st 6)), (1, (.i .i64))] [] (.tup [(.i .i64), (.i .i64), .b]) [] (x0, (x1, ())) () = go21 x0 x1 := by kernel_rfl

def Sp.defAt (l : List Inst) (v : Int) (k : Nat) : Bool := Sp.named (l.getD k Inst.z).op && decide ((l.getD k Inst.z).dest = v)
/-- Where a block defines a value. -/
def Sp.defIn (b : Block) (v : Int) : Option Int := if 0 ≤ Sp.index b.params v then some (-1 - Sp.index b.params v) else elimO (findI (Sp.defAt b.insts v) b.insts.length 0) (fun k => some (k : Int)) none
def Sp.defOf (f : Fn) (v : Int) : Int × Int × Bool × Unit := elimO (findI (fun i => (Sp.defIn (f.blk i) v).isSome) f.blocks.length 0) (fun i => ((i : Int), (Sp.defIn (f.blk i) v).getD 0, true, ())) (0, 0, false, ())
theorem index_le (l : List Int) (v : Int) : -1 ≤ Sp.index l v ∧ Sp.index l v ≤ l.length := by
  unfold Sp.index
  cases h : findI (fun i => decide (v = l.getD i 0)) l.length 0 with
  | none => simp only [elimO]; omega
  | some k =>
    obtain ⟨h1, h2, -⟩ := findI_some h
    simp only [elimO]; omega
theorem inner21 (v i n : Int) (bs : List Block) (l : List Inst) (hl : l.length ≤ 281474976710656) : whileO go21_l2 ((v, i, bs, n, i, l, ((l.length : Nat) : Int), 0, ()), ()) =
    some (elimO (findI (Sp.defAt l v) l.length 0) (fun k => .inr ((i, (k : Int), true, ()), ())) (.inl ((v, bs, n, i, ()), ()))) := by
  unfold go21_l2 go21_j1
  refine whileO_find (st := fun k => ((v, i, bs, n, i, l, ((l.length : Nat) : Int), (k : Int), ()), ())) rfl l.length (Sp.defAt l v) _ _ (fun k hk hp => ?_) (fun k hk hp => ?_) ?_
  · simp only [Sp.defAt, Bool.and_eq_true, decide_eq_true_eq] at hp
    obtain ⟨p1, p2⟩ := hp
    simp (maxSteps := 1000000) (disch := ((try dsimp only); omega)) only [↓grd_dec, ↓grd_blt, ↓grd_true, ↓jpO_eq, ↓callB_some, ↓callB_grd, ↓bif_decide, ↓sumO_inl, ↓sumO_inr, ↓if_pos, ↓if_neg, ↓cond_true, ↓cond_false, ↓bif_not, Int.toNat_natCast, Bool.not_true, Bool.not_false, decide_true, decide_false, Bool.false_eq_true, ↓if_true, ↓if_false, Int.natCast_add, Int.cast_ofNat_Int, Bool.not_eq_true', decide_eq_false_iff_not, not_true_eq_false, not_false_eq_true]
    rw [p1]
    simp (maxSteps := 1000000) (disch := ((try dsimp only); omega)) only [↓grd_dec, ↓grd_blt, ↓grd_true, ↓jpO_eq, ↓callB_some, ↓callB_grd, ↓bif_decide, ↓sumO_inl, ↓sumO_inr, ↓if_pos, ↓if_neg, ↓cond_true, ↓cond_false, ↓bif_not, Int.toNat_natCast, Bool.not_true, Bool.not_false, decide_true, decide_false, Bool.false_eq_true, ↓if_true, ↓if_false, Int.natCast_add, Int.cast_ofNat_Int, Bool.not_eq_true', decide_eq_false_iff_not, not_true_eq_false, not_false_eq_true]
  · unfold Sp.defAt at hp
    simp (maxSteps := 1000000) (disch := ((try dsimp only); omega)) only [↓grd_dec, ↓grd_blt, ↓grd_true, ↓jpO_eq, ↓callB_some, ↓callB_grd, ↓bif_decide, ↓sumO_inl, ↓sumO_inr, ↓if_pos, ↓if_neg, ↓cond_true, ↓cond_false, ↓bif_not, Int.toNat_natCast, Bool.not_true, Bool.not_false, decide_true, decide_false, Bool.false_eq_true, ↓if_true, ↓if_false, Int.natCast_add, Int.cast_ofNat_Int, Bool.not_eq_true', decide_eq_false_iff_not, not_true_eq_false, not_false_eq_true]
    cases p1 : Sp.named (l.getD k Inst.z).op with
    | false => simp (maxSteps := 1000000) (disch := ((try dsimp only); omega)) only [↓grd_dec, ↓grd_blt, ↓grd_true, ↓jpO_eq, ↓callB_some, ↓callB_grd, ↓bif_decide, ↓sumO_inl, ↓sumO_inr, ↓if_pos, ↓if_neg, ↓cond_true, ↓cond_false, ↓bif_not, Int.toNat_natCast, Bool.not_true, Bool.not_false, decide_true, decide_false, Bool.false_eq_true, ↓if_true, ↓if_false, Int.natCast_add, Int.cast_ofNat_Int, Bool.not_eq_true', decide_eq_false_iff_not, not_true_eq_false, not_false_eq_true]
    | true =>
      rw [p1] at hp
      have p2 : ¬ (l.getD k Inst.z).dest = v := by simpa using hp
      simp (maxSteps := 1000000) (disch := ((try dsimp only); omega)) only [↓grd_dec, ↓grd_blt, ↓grd_true, ↓jpO_eq, ↓callB_some, ↓callB_grd, ↓bif_decide, ↓sumO_inl, ↓sumO_inr, ↓if_pos, ↓if_neg, ↓cond_true, ↓cond_false, ↓bif_not, Int.toNat_natCast, Bool.not_true, Bool.not_false, decide_true, decide_false, Bool.false_eq_true, ↓if_true, ↓if_false, Int.natCast_add, Int.cast_ofNat_Int, Bool.not_eq_true', decide_eq_false_iff_not, not_true_eq_false, not_false_eq_true]
  · simp (maxSteps := 1000000) (disch := ((try dsimp only); omega)) only [↓grd_dec, ↓grd_blt, ↓grd_true, ↓jpO_eq, ↓callB_some, ↓callB_grd, ↓bif_decide, ↓sumO_inl, ↓sumO_inr, ↓if_pos, ↓if_neg, ↓cond_true, ↓cond_false, ↓bif_not, Int.toNat_natCast, Bool.not_true, Bool.not_false, decide_true, decide_false, Bool.false_eq_true, ↓if_true, ↓if_false, Int.natCast_add, Int.cast_ofNat_Int, Bool.not_eq_true', decide_eq_false_iff_not, not_true_eq_false, not_false_eq_true]
theorem ok21 (f : Fn) (v : Int) (hf : f.ok) : go21 f v = some (Sp.defOf f v, ()) := by
  have hb := Fn.ok_blocks hf
  rw [lenVal] at hb
  unfold go21 go21_l1 Sp.defOf
  refine callB_of (whileO_find (st := fun i => ((v, f.blocks, ((f.blocks.length : Nat) : Int), (i : Int), ()), ())) rfl f.blocks.length (fun i => (Sp.defIn (f.blk i) v).isSome) (.inl ((), ())) (fun i => .inr (((i : Int), (Sp.defIn (f.blk i) v).getD 0, true, ()), ())) (fun i hi hp => ?_) (fun i hi hp => ?_) ?_) ?_
  · have hbk : (f.blocks.getD i Block.z).ok := Fn.ok_blk hf hi
    have hpl : (f.blocks.getD i Block.z).params.length ≤ LEN := hbk.1.len
    have hil : (f.blocks.getD i Block.z).insts.length ≤ LEN := hbk.2.1.len
    have hx := index_le (f.blocks.getD i Block.z).params v
    rw [lenVal] at hpl hil
    have hp : (Sp.defIn (f.blocks.getD i Block.z) v).isSome = true := hp
    show _ = some (Sum.inr (Sum.inr (((i : Int), (Sp.defIn (f.blocks.getD i Block.z) v).getD 0, true, ()), ())))
    unfold Sp.defIn at hp ⊢
    simp (maxSteps := 1000000) (disch := ((try dsimp only); omega)) only [↓grd_dec, ↓grd_blt, ↓grd_true, ↓jpO_eq, ↓callB_some, ↓callB_grd, ↓bif_decide, ↓sumO_inl, ↓sumO_inr, ↓if_pos, ↓if_neg, ↓cond_true, ↓cond_false, ↓bif_not, Int.toNat_natCast, Bool.not_true, Bool.not_false, decide_true, decide_false, Bool.false_eq_true, ↓if_true, ↓if_false, Int.natCast_add, Int.cast_ofNat_Int, Bool.not_eq_true', decide_eq_false_iff_not, not_true_eq_false, not_false_eq_true]
    rw [grd_ok (by rw [lenVal]; exact hpl)]
    by_cases h0 : 0 ≤ Sp.index (f.blocks.getD i Block.z).params v
    · simp (maxSteps := 1000000) (disch := ((try dsimp only); omega)) only [↓grd_dec, ↓grd_blt, ↓grd_true, ↓jpO_eq, ↓callB_some, ↓callB_grd, ↓bif_decide, ↓sumO_inl, ↓sumO_inr, ↓if_pos, ↓if_neg, ↓cond_true, ↓cond_false, ↓bif_not, Int.toNat_natCast, Bool.not_true, Bool.not_false, decide_true, decide_false, Bool.false_eq_true, ↓if_true, ↓if_false, Int.natCast_add, Int.cast_ofNat_Int, Bool.not_eq_true', decide_eq_false_iff_not, not_true_eq_false, not_false_eq_true]
      rfl
    · rw [if_neg h0] at hp ⊢
      rw [if_neg h0]
      refine callB_of (inner21 v _ _ _ _ hil) ?_
      cases h1 : findI (Sp.defAt (f.blocks.getD i Block.z).insts v) (f.blocks.getD i Block.z).insts.length 0 with
      | none => rw [h1] at hp; cases hp
      | some k => rfl
  · have hbk : (f.blocks.getD i Block.z).ok := Fn.ok_blk hf hi
    have hpl : (f.blocks.getD i Block.z).params.length ≤ LEN := hbk.1.len
    have hil : (f.blocks.getD i Block.z).insts.length ≤ LEN := hbk.2.1.len
    have hx := index_le (f.blocks.getD i Block.z).params v
    rw [lenVal] at hpl hil
    have hp : (Sp.defIn (f.blocks.getD i Block.z) v).isSome = false := hp
    unfold Sp.defIn at hp
    simp (maxSteps := 1000000) (disch := ((try dsimp only); omega)) only [↓grd_dec, ↓grd_blt, ↓grd_true, ↓jpO_eq, ↓callB_some, ↓callB_grd, ↓bif_decide, ↓sumO_inl, ↓sumO_inr, ↓if_pos, ↓if_neg, ↓cond_true, ↓cond_false, ↓bif_not, Int.toNat_natCast, Bool.not_true, Bool.not_false, decide_true, decide_false, Bool.false_eq_true, ↓if_true, ↓if_false, Int.natCast_add, Int.cast_ofNat_Int, Bool.not_eq_true', decide_eq_false_iff_not, not_true_eq_false, not_false_eq_true]
    rw [grd_ok (by rw [lenVal]; exact hpl)]
    by_cases h0 : 0 ≤ Sp.index (f.blocks.getD i Block.z).params v
    · rw [if_pos h0] at hp; cases hp
    · rw [if_neg h0] at hp ⊢
      refine callB_of (inner21 v _ _ _ _ hil) ?_
      cases h1 : findI (Sp.defAt (f.blocks.getD i Block.z).insts v) (f.blocks.getD i Block.z).insts.length 0 with
      | none => simp only [elimO]; simp (maxSteps := 1000000) (disch := ((try dsimp only); omega)) only [↓grd_dec, ↓grd_blt, ↓grd_true, ↓jpO_eq, ↓callB_some, ↓callB_grd, ↓bif_decide, ↓sumO_inl, ↓sumO_inr, ↓if_pos, ↓if_neg, ↓cond_true, ↓cond_false, ↓bif_not, Int.toNat_natCast, Bool.not_true, Bool.not_false, decide_true, decide_false, Bool.false_eq_true, ↓if_true, ↓if_false, Int.natCast_add, Int.cast_ofNat_Int, Bool.not_eq_true', decide_eq_false_iff_not, not_true_eq_false, not_false_eq_true]
      | some k => rw [h1] at hp; cases hp
  · simp (maxSteps := 1000000) (disch := ((try dsimp only); omega)) only [↓grd_dec, ↓grd_blt, ↓grd_true, ↓jpO_eq, ↓callB_some, ↓callB_grd, ↓bif_decide, ↓sumO_inl, ↓sumO_inr, ↓if_pos, ↓if_neg, ↓cond_true, ↓cond_false, ↓bif_not, Int.toNat_natCast, Bool.not_true, Bool.not_false, decide_true, decide_false, Bool.false_eq_true, ↓if_true, ↓if_false, Int.natCast_add, Int.cast_ofNat_Int, Bool.not_eq_true', decide_eq_false_iff_not, not_true_eq_false, not_false_eq_true]
  · cases findI (fun i => (Sp.defIn (f.blk i) v).isSome) f.blocks.length 0 <;> rfl
def c21 : Ctr Try.prog := mkCtr 21 Try.f21 Try.func21 [c52, c53] ann21 [(0, (.st 6)), (1, (.i .i64))] [] (.tup [(.i .i64), (.i .i64), .b]) [] (fun x _ => grd (okB x.1.ok) (some (Sp.defOf x.1 x.2.1, ()))) (fun x _ r h => FO (run21 x.1 x.2.1) (ok21 x.1 x.2.1) h)
end
end Go.Abs
