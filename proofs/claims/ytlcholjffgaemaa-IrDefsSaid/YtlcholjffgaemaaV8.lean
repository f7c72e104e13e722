/-
What functions compute: IrLoops.
No statement of the program is proved here.
-/
import Derived.Test.YtlcholjffgaemaaV7
set_option linter.unusedVariables false
set_option linter.unusedSectionVars false
set_option linter.unusedSimpArgs false
set_option maxHeartbeats 1000000
namespace Go.Abs
open Go Go.Proofs
noncomputable section
def Sp.av19 (T : List Edge) (b : Int) : Nat → Int
  | 0 => 0
  | i + 1 => if (T.getD i Edge.z).block = b then (i : Int) else Sp.av19 T b i
def Sp.nv19 (T : List Edge) (b : Int) : Nat → Int
  | 0 => 0
  | i + 1 => if (T.getD i Edge.z).block = b then Sp.nv19 T b i + 1 else Sp.nv19 T b i
theorem nv19_le (T : List Edge) (b : Int) : ∀ i, 0 ≤ Sp.nv19 T b i ∧ Sp.nv19 T b i ≤ i
  | 0 => by simp [Sp.nv19]
  | i + 1 => by
    have := nv19_le T b i
    simp only [Sp.nv19]
    split <;> omega
theorem loop19 (T : List Edge) (b : Int) (hT : T.length = 2) : whileO go19_l1 ((b, 0, 0, T, ((T.length : Nat) : Int), 0, ()), ()) = some ((Sp.av19 T b 2, Sp.nv19 T b 2, ()), ()) := by
  unfold go19_l1 go19_j1
  refine whileO_to (st := fun i => ((b, Sp.av19 T b i, Sp.nv19 T b i, T, ((T.length : Nat) : Int), (i : Int), ()), ())) rfl 2 (fun i hi => ?_) ?_
  · have hn := nv19_le T b i
    by_cases h : (T.getD i Edge.z).block = b
    · simp (maxSteps := 1000000) (disch := ((try dsimp only); omega)) only [↓grd_dec, ↓grd_blt, ↓grd_true, ↓jpO_eq, ↓callB_some, ↓callB_grd, ↓bif_decide, ↓sumO_inl, ↓sumO_inr, ↓if_pos, ↓if_neg, ↓cond_true, ↓cond_false, ↓bif_not, Int.toNat_natCast, Bool.not_true, Bool.not_false, decide_true, decide_false, Bool.false_eq_true, ↓if_true, ↓if_false, Int.natCast_add, Int.cast_ofNat_Int, Bool.not_eq_true', decide_eq_false_iff_not, not_true_eq_false, not_false_eq_true]
      simp only [Sp.av19, Sp.nv19, if_pos h, h, if_true, grd_dec (show -9223372036854775808 ≤ Sp.nv19 T b i + 1 ∧ Sp.nv19 T b i + 1 ≤ 9223372036854775807 by omega)]
    · simp (maxSteps := 1000000) (disch := ((try dsimp only); omega)) only [↓grd_dec, ↓grd_blt, ↓grd_true, ↓jpO_eq, ↓callB_some, ↓callB_grd, ↓bif_decide, ↓sumO_inl, ↓sumO_inr, ↓if_pos, ↓if_neg, ↓cond_true, ↓cond_false, ↓bif_not, Int.toNat_natCast, Bool.not_true, Bool.not_false, decide_true, decide_false, Bool.false_eq_true, ↓if_true, ↓if_false, Int.natCast_add, Int.cast_ofNat_Int, Bool.not_eq_true', decide_eq_false_iff_not, not_true_eq_false, not_false_eq_true]
      simp only [Sp.av19, Sp.nv19, if_neg h]
  · simp (maxSteps := 1000000) (disch := ((try dsimp only); omega)) only [↓grd_dec, ↓grd_blt, ↓grd_true, ↓jpO_eq, ↓callB_some, ↓callB_grd, ↓bif_decide, ↓sumO_inl, ↓sumO_inr, ↓if_pos, ↓if_neg, ↓cond_true, ↓cond_false, ↓bif_not, Int.toNat_natCast, Bool.not_true, Bool.not_false, decide_true, decide_false, Bool.false_eq_true, ↓if_true, ↓if_false, Int.natCast_add, Int.cast_ofNat_Int, Bool.not_eq_true', decide_eq_false_iff_not, not_true_eq_false, not_false_eq_true]
def Sp.sel (v : Int) : Int := if v < 0 then 0 else v
theorem ok19 (f : Fn) (b : Int) (hto : f.two) : go19 f b = some ((Sp.sel (Sp.selfLoop f b), decide (0 ≤ Sp.selfLoop f b), ()), ()) := by
  unfold go19
  simp only [bif_decide, bif_not]
  split
  · rename_i h; rw [selfLoop_out (.inl h)]; rfl
  split
  · rename_i h; rw [selfLoop_out (.inr (.inl h))]; rfl
  simp (maxSteps := 1000000) (disch := ((try dsimp only); omega)) only [↓grd_dec, ↓grd_blt, ↓grd_true, ↓jpO_eq, ↓callB_some, ↓callB_grd, ↓bif_decide, ↓sumO_inl, ↓sumO_inr, ↓if_pos, ↓if_neg, ↓cond_true, ↓cond_false, ↓bif_not, Int.toNat_natCast, Bool.not_true, Bool.not_false, decide_true, decide_false, Bool.false_eq_true, ↓if_true, ↓if_false, Int.natCast_add, Int.cast_ofNat_Int, Bool.not_eq_true', decide_eq_false_iff_not, not_true_eq_false, not_false_eq_true]
  rename_i h0 h1
  by_cases h2 : (f.blocks.getD b.toNat Block.z).term.kind = 2
  rotate_left
  · rw [if_neg h2, selfLoop_out (.inr (.inr h2))]; rfl
  rw [if_pos h2]
  have h4 : (f.blocks.getD b.toNat Block.z).term.to.length = 2 := hto b.toNat (by omega) h2
  rw [selfLoop_in (by simp only [not_or]; exact ⟨h0, h1, not_not_intro h2⟩)]
  refine callB_of (loop19 _ b h4) ?_
  show _ = some ((Sp.sel (if decide (((f.blocks.getD b.toNat Block.z).term.to.getD 0 Edge.z).block = b) = decide (((f.blocks.getD b.toNat Block.z).term.to.getD 1 Edge.z).block = b) then _ else _), decide (0 ≤ (if decide (((f.blocks.getD b.toNat Block.z).term.to.getD 0 Edge.z).block = b) = decide (((f.blocks.getD b.toNat Block.z).term.to.getD 1 Edge.z).block = b) then _ else _)), ()), ())
  generalize (f.blocks.getD b.toNat Block.z).term.to = T at *
  show (if Sp.nv19 T b 2 = 1 then _ else _) = _
  by_cases p0 : (T.getD 0 Edge.z).block = b <;> by_cases p1 : (T.getD 1 Edge.z).block = b <;> simp only [Sp.av19, Sp.nv19, p0, p1, if_true, if_false, decide_true, decide_false] <;> simp [Sp.sel]
def c19 : Ctr Try.prog := mkCtr 19 Try.f19 Try.func19 [] ann19 [(0, (.st 6)), (1, (.i .i64))] [] (.tup [(.i .i64), .b]) [] (fun x _ => grd (okB x.1.two) (some ((Sp.sel (Sp.selfLoop x.1 x.2.1), decide (0 ≤ Sp.selfLoop x.1 x.2.1), ()), ()))) (fun x _ r h => FO (run19 x.1 x.2.1) (ok19 x.1 x.2.1) h)
end
end Go.Abs
