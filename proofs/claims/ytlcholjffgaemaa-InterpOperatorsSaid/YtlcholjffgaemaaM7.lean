/-
Texts of the proof, part 7: X4 X5 Y0 Y1 Y2 Y3 Y4 X6 X7 Y5 Y6 X8 X9 Y7 O2 Z1.
No statement of the program is proved here.
-/
import Derived.Test.YtlcholjffgaemaaM6
import Derived.OpenShut

set_option linter.unusedVariables false
set_option linter.unusedSectionVars false
set_option linter.unusedSimpArgs false
set_option maxHeartbeats 1000000
namespace Go.Abs
open Go Go.Proofs
noncomputable section
def ann117 : Ann := (.seq .o (.seq .o (.join ⟨[(1, (.i .u64))], []⟩ (.seq .o (.cond .o .o)) (.seq .o .o))))
def go117 (x0 : Int) (x1 : Int) : (Option (Int × Unit)) :=
  (callB (grd (okB (U64 x1))
      (some ((Sp.low x0 x1), ())))
    (fun (r0 : (Int × Unit)) => (callB (grd (okB (U64 r0.1))
          (some ((Sp.neg x0 r0.1), ())))
        (fun (r1 : (Bool × Unit)) => (bif r1.1 then
            (some ((Go.IntKind.wrap Go.IntKind.i64 (bitOp Go.BinOp.or Go.IntKind.u64 r0.1 (bitOp Go.BinOp.xor Go.IntKind.u64 (if ((Go.IntKind.signed Go.IntKind.u64) = true) then (-(1 : Int)) else (Go.IntKind.max Go.IntKind.u64)) (Sp.mask x0)))), ()))
            else
            (some ((Go.IntKind.wrap Go.IntKind.i64 r0.1), ())))))))
theorem run117 (x0 : Int) (x1 : Int) : runF (P := Try.prog) [c103, c129, c127] Try.f117 ann117 [(0, (.i .i64)), (1, (.i .u64))] [] (.i .i64) [] (x0, (x1, ())) () = go117 x0 x1 := by kernel_rfl
def ann116 : Ann := (.seq .o (.seq .o .o))
def go116 (x0 : Int) (x1 : Int) : (Option (Int × Unit)) :=
  (callB (grd (okB (U64 (Go.IntKind.wrap Go.IntKind.u64 x1)))
      (some ((Sp.low x0 (Go.IntKind.wrap Go.IntKind.u64 x1)), ())))
    (fun (r0 : (Int × Unit)) => (some (r0.1, ()))))
theorem run116 (x0 : Int) (x1 : Int) : runF (P := Try.prog) [c103] Try.f116 ann116 [(0, (.i .i64)), (1, (.i .i64))] [] (.i .u64) [] (x0, (x1, ())) () = go116 x0 x1 := by kernel_rfl
theorem xor_mask {n : Nat} (hn : n ≤ 64) : (2 ^ 64 - 1) ^^^ (2 ^ n - 1) = 2 ^ n * (2 ^ (64 - n) - 1) := by
  refine Nat.eq_of_testBit_eq fun i => ?_
  rw [Nat.testBit_xor, Nat.testBit_two_pow_sub_one, Nat.testBit_two_pow_sub_one, Nat.testBit_two_pow_mul, Nat.testBit_two_pow_sub_one]
  by_cases h1 : i < 64 <;> by_cases h2 : i < n <;> by_cases h3 : n ≤ i <;> by_cases h4 : i - n < 64 - n <;> simp [h1, h2, h3, h4] <;> omega
theorem neg_low (w x : Int) : Sp.neg w (Sp.low w x) = Sp.neg w x := by unfold Sp.neg; rw [low_low]
theorem sg_neg (w x : Int) : Sp.sg w x = bif Sp.neg w x then Sp.low w x - Sp.pw (Sp.wn w) else Sp.low w x := by
  unfold Sp.sg Sp.neg
  by_cases h : Sp.pw (Sp.wn w) ≤ 2 * Sp.low w x ∧ Sp.wn w ≠ 0
  · rw [if_pos h, decide_eq_true h]; rfl
  · rw [if_neg h, decide_eq_false h]; rfl
theorem ok117 (w x : Int) (hx : U64 x) : go117 w x = some (Sp.sg w x, ()) := by
  have h1 := low_range w x
  have h2 := pw_le (wn_le w)
  have hl := low_u64 w x
  unfold go117
  rw [grd_ok hx, callB_some, grd_ok hl, callB_some, neg_low, sg_neg]
  cases hn : Sp.neg w x with
  | true =>
    have hn := of_decide_eq_true hn
    show some (_, ()) = some (_, ())
    congr 2
    have e1 : (if IntKind.u64.signed = true then (-1 : Int) else IntKind.u64.max) = 18446744073709551615 := rfl
    have hb := mask_u64 w
    rw [e1, xor_u64 ⟨by decide, by decide⟩ hb]
    have e2 : (Sp.mask w).toNat = 2 ^ Sp.wn w - 1 := by unfold Sp.mask Sp.pw; omega
    have e3 : (18446744073709551615 : Int).toNat = 2 ^ 64 - 1 := by decide
    rw [e2, e3, xor_mask (wn_le w)]
    obtain ⟨m, hm⟩ := Int.eq_ofNat_of_zero_le h1.1
    have e4 : 2 ^ Sp.wn w * (2 ^ (64 - Sp.wn w) - 1) + 2 ^ Sp.wn w = 18446744073709551616 := by
      have := Nat.pow_add 2 (Sp.wn w) (64 - Sp.wn w)
      rw [Nat.add_sub_cancel' (wn_le w)] at this
      have e5 : 2 ^ Sp.wn w * (2 ^ (64 - Sp.wn w) - 1) = 2 ^ Sp.wn w * 2 ^ (64 - Sp.wn w) - 2 ^ Sp.wn w := by rw [Nat.mul_sub, Nat.mul_one]
      have e6 : 2 ^ Sp.wn w ≤ 2 ^ Sp.wn w * 2 ^ (64 - Sp.wn w) := Nat.le_mul_of_pos_right _ (Nat.two_pow_pos _)
      omega
    have hml : m < 2 ^ Sp.wn w := by have := h1.2; rw [hm] at this; unfold Sp.pw at this; omega
    have hc : U64 ((2 ^ Sp.wn w * (2 ^ (64 - Sp.wn w) - 1) : Nat) : Int) := ⟨by omega, by have := Nat.two_pow_pos (Sp.wn w); omega⟩
    rw [or_u64 hl hc, hm, Int.toNat_natCast, Int.toNat_natCast, Nat.or_comm, ← Nat.two_pow_add_eq_or_of_lt hml]
    rw [hm] at hn
    have e7 : Sp.pw (Sp.wn w) = ((2 ^ Sp.wn w : Nat) : Int) := rfl
    rw [e7] at hn h2 ⊢
    clear hc e2 e7
    generalize 2 ^ Sp.wn w * (2 ^ (64 - Sp.wn w) - 1) = q at *
    generalize 2 ^ Sp.wn w = p at *
    rw [IntKind.wrap_i64]
    simp only [cond_true]
    omega
  | false =>
    have hn := of_decide_eq_false hn
    show some (_, ()) = some (_, ())
    congr 2
    rw [IntKind.wrap_i64]
    simp only [cond_false]
    by_cases h0 : Sp.wn w = 0
    · rw [h0] at h1; simp [Sp.pw] at h1; omega
    · have : ¬ Sp.pw (Sp.wn w) ≤ 2 * Sp.low w x := fun e => hn ⟨e, h0⟩
      omega
def c117 : Ctr Try.prog := mkCtr 117 Try.f117 Try.func117 [c103, c129, c127] ann117 [(0, (.i .i64)), (1, (.i .u64))] [] (.i .i64) [] (fun x _ => grd (okB (U64 x.2.1)) (some (Sp.sg x.1 x.2.1, ()))) (fun x _ r h => FO (run117 x.1 x.2.1) (ok117 x.1 x.2.1) h)
theorem wrap_u64 (n : Int) : U64 (IntKind.u64.wrap n) := by rw [wrap64]; exact ⟨by omega, by omega⟩
theorem ok116 (w n : Int) : go116 w n = some (Sp.low w n, ()) := by
  unfold go116
  rw [grd_ok (wrap_u64 n), callB_some, low_wrap]
def c116 : Ctr Try.prog := mkCtr 116 Try.f116 Try.func116 [c103] ann116 [(0, (.i .i64)), (1, (.i .i64))] [] (.i .u64) [] (fun x _ => some (Sp.low x.1 x.2.1, ())) (fun x _ r h => FE (run116 x.1 x.2.1) (ok116 x.1 x.2.1) h)
end
end Go.Abs


set_option linter.unusedVariables false
set_option linter.unusedSectionVars false
set_option linter.unusedSimpArgs false
set_option maxHeartbeats 1000000
namespace Go.Abs
open Go Go.Proofs
noncomputable section
def ann75 : Ann := (.seq .o (.join ⟨[(0, (.i .i64)), (1, (.i .i64)), (2, (.i .u64))], []⟩ (.seq .o (.cond (.seq .o .o) .o)) (.seq .o .o)))
def go75 (x0 : Int) (x1 : Int) (x2 : Int) (x3 : Bool) : (Option (Int × Unit)) :=
  (bif x3 then
    (callB (grd (okB (U64 x2))
        (some ((Sp.sg x0 x2), ())))
      (fun (r0 : (Int × Unit)) => (some ((Sp.low x1 r0.1), ()))))
    else
    (callB (grd (okB (U64 x2))
        (some ((Sp.low x0 x2), ())))
      (fun (r0 : (Int × Unit)) => (callB (grd (okB (U64 r0.1))
            (some ((Sp.low x1 r0.1), ())))
          (fun (r1 : (Int × Unit)) => (some (r1.1, ())))))))
theorem run75 (x0 : Int) (x1 : Int) (x2 : Int) (x3 : Bool) : runF (P := Try.prog) [c103, c116, c117] Try.f75 ann75 [(0, (.i .i64)), (1, (.i .i64)), (2, (.i .u64)), (3, .b)] [] (.i .u64) [] (x0, (x1, (x2, (x3, ())))) () = go75 x0 x1 x2 x3 := by kernel_rfl
def ann128 : Ann := (.seq .o (.seq .o (.join ⟨[(0, (.i .i64)), (8, (.i .i64)), (9, (.i .i64))], []⟩ (.seq .o (.block (.seq .o (.cond (.seq .o .o) (.seq .o (.cond (.seq .o .o) .o)))))) (.seq .o .o))))
def go128 (x0 : Int) (x1 : Int) (x2 : Int) : (Option ((Int × (Int × Unit)) × Unit)) :=
  (callB (grd (okB (U64 x1))
      (some ((Sp.sg x0 x1), ())))
    (fun (r0 : (Int × Unit)) => (callB (grd (okB (U64 x2))
          (some ((Sp.sg x0 x2), ())))
        (fun (r1 : (Int × Unit)) => (bif (decide (r1.1 = (0 : Int))) then
            (some (((Sp.mask x0), (x1, ())), ()))
            else
            (bif (decide (r1.1 = (-(1 : Int)))) then
              (callB (grd (okB (U64 (Go.IntKind.wrap Go.IntKind.u64 ((0 : Int) - x1))))
                  (some ((Sp.low x0 (Go.IntKind.wrap Go.IntKind.u64 ((0 : Int) - x1))), ())))
                (fun (r2 : (Int × Unit)) => (some ((r2.1, ((0 : Int), ())), ()))))
              else
              (grd (!(decide (r1.1 = (0 : Int))))
                (grd (okB (((-(9223372036854775808 : Int)) ≤ (Int.tdiv r0.1 r1.1)) ∧ ((Int.tdiv r0.1 r1.1) ≤ (9223372036854775807 : Int))))
                  (grd (!(decide (r1.1 = (0 : Int))))
                    (some (((Sp.low x0 (Int.tdiv r0.1 r1.1)), ((Sp.low x0 (Int.tmod r0.1 r1.1)), ())), ())))))))))))
theorem run128 (x0 : Int) (x1 : Int) (x2 : Int) : runF (P := Try.prog) [c127, c103, c116, c117] Try.f128 ann128 [(0, (.i .i64)), (1, (.i .u64)), (2, (.i .u64))] [] (.tup [(.i .u64), (.i .u64)]) [] (x0, (x1, (x2, ()))) () = go128 x0 x1 x2 := by kernel_rfl
def ann105 : Ann := (.seq .w (.join ⟨[(0, (.i .i64)), (1, (.i .i64)), (2, (.i .u64)), (3, (.i .u64))], []⟩ (.seq .w (.cond (.join ⟨[], []⟩ (.seq .w (.cond (.seq .w .o) .o)) (.seq .w .o)) .o)) (.join ⟨[(1, (.i .i64)), (2, (.i .u64)), (3, (.i .u64))], []⟩ (.seq .w (.block (.seq .w (.cond (.seq .w .o) (.seq .w (.cond (.seq .w .o) .o)))))) (.seq .o .o))))
def go105 (x0 : Int) (x1 : Int) (x2 : Int) (x3 : Int) : (Option (Int × Unit)) :=
  (bif (decide ((Go.IntKind.wrap Go.IntKind.u64 x1) ≤ x3)) then
    (bif (decide (x0 = (14 : Int))) then
      (callB (grd (okB (U64 x2))
          (some ((Sp.neg x1 x2), ())))
        (fun (r0 : (Bool × Unit)) => (bif r0.1 then
            (some ((Sp.mask x1), ()))
            else
            (some ((0 : Int), ())))))
      else
      (some ((0 : Int), ())))
    else
    (bif (decide (x0 = (12 : Int))) then
      (grd (okB ((0 : Int) ≤ x3))
        (callB (grd (okB (U64 (Go.IntKind.wrap Go.IntKind.u64 (x2 * (@HPow.hPow Int Nat Int _ (2 : Int) (@Min.min Nat _ x3.toNat (Go.IntKind.bits Go.IntKind.u64)))))))
            (some ((Sp.low x1 (Go.IntKind.wrap Go.IntKind.u64 (x2 * (@HPow.hPow Int Nat Int _ (2 : Int) (@Min.min Nat _ x3.toNat (Go.IntKind.bits Go.IntKind.u64)))))), ())))
          (fun (r0 : (Int × Unit)) => (some (r0.1, ())))))
      else
      (bif (decide (x0 = (13 : Int))) then
        (grd (okB ((0 : Int) ≤ x3))
          (some ((Int.fdiv x2 (@HPow.hPow Int Nat Int _ (2 : Int) (@Min.min Nat _ x3.toNat (Go.IntKind.bits Go.IntKind.u64)))), ())))
        else
        (callB (grd (okB (U64 x2))
            (some ((Sp.sg x1 x2), ())))
          (fun (r0 : (Int × Unit)) => (grd (okB ((0 : Int) ≤ x3))
              (some ((Sp.low x1 (Int.fdiv r0.1 (@HPow.hPow Int Nat Int _ (2 : Int) (@Min.min Nat _ x3.toNat (Go.IntKind.bits Go.IntKind.i64))))), ()))))))))
theorem run105 (x0 : Int) (x1 : Int) (x2 : Int) (x3 : Int) : runF (P := Try.prog) [c103, c116, c117, c127, c129] Try.f105 ann105 [(0, (.i .i64)), (1, (.i .i64)), (2, (.i .u64)), (3, (.i .u64))] [] (.i .u64) [] (x0, (x1, (x2, (x3, ())))) () = go105 x0 x1 x2 x3 := by kernel_rfl
def ann106 : Ann := (.seq .o (.join ⟨[(1, (.i .i64)), (2, (.i .u64)), (3, (.i .u64))], []⟩ (.seq .o (.block (.seq .o (.cond (.seq .o .o) (.seq .o (.cond (.seq .o .o) (.seq .o (.cond (.seq .o .o) (.seq .o (.cond (.seq .o .o) (.seq .o (.cond (.seq .o .o) .o)))))))))))) (.seq .o .o)))
def go106 (x0 : Int) (x1 : Int) (x2 : Int) (x3 : Int) : (Option (Int × Unit)) :=
  (bif (decide (x0 = (15 : Int))) then
    (some ((Sp.one (decide (x2 = x3))), ()))
    else
    (bif (decide (x0 = (16 : Int))) then
      (some ((Sp.one (!(decide (x2 = x3)))), ()))
      else
      (bif (decide (x0 = (17 : Int))) then
        (some ((Sp.one (decide (x2 < x3))), ()))
        else
        (bif (decide (x0 = (18 : Int))) then
          (some ((Sp.one (decide (x2 ≤ x3))), ()))
          else
          (bif (decide (x0 = (19 : Int))) then
            (callB (grd (okB (U64 x2))
                (some ((Sp.sg x1 x2), ())))
              (fun (r0 : (Int × Unit)) => (callB (grd (okB (U64 x3))
                    (some ((Sp.sg x1 x3), ())))
                  (fun (r1 : (Int × Unit)) => (some ((Sp.one (decide (r0.1 < r1.1))), ()))))))
            else
            (callB (grd (okB (U64 x2))
                (some ((Sp.sg x1 x2), ())))
              (fun (r0 : (Int × Unit)) => (callB (grd (okB (U64 x3))
                    (some ((Sp.sg x1 x3), ())))
                  (fun (r1 : (Int × Unit)) => (some ((Sp.one (decide (r0.1 ≤ r1.1))), ())))))))))))
theorem run106 (x0 : Int) (x1 : Int) (x2 : Int) (x3 : Int) : runF (P := Try.prog) [c117, c130] Try.f106 ann106 [(0, (.i .i64)), (1, (.i .i64)), (2, (.i .u64)), (3, (.i .u64))] [] (.i .u64) [] (x0, (x1, (x2, (x3, ())))) () = go106 x0 x1 x2 x3 := by kernel_rfl
def Sp.extend (from_ to_ x : Int) (sgn : Bool) : Int := if sgn = true then Sp.low to_ (Sp.sg from_ x) else Sp.low to_ (Sp.low from_ x)
theorem ok75 (from_ to_ x : Int) (sgn : Bool) (hx : U64 x) : go75 from_ to_ x sgn = some (Sp.extend from_ to_ x sgn, ()) := by
  unfold go75 Sp.extend
  rw [grd_ok hx, grd_ok hx, callB_some, callB_some, grd_ok (low_u64 _ _), callB_some]
  cases sgn <;> rfl
def c75 : Ctr Try.prog := mkCtr 75 Try.f75 Try.func75 [c103, c116, c117] ann75 [(0, (.i .i64)), (1, (.i .i64)), (2, (.i .u64)), (3, .b)] [] (.i .u64) [] (fun x _ => grd (okB (U64 x.2.2.1)) (some (Sp.extend x.1 x.2.1 x.2.2.1 x.2.2.2.1, ()))) (fun x _ r h => FO (run75 x.1 x.2.1 x.2.2.1 x.2.2.2.1) (ok75 x.1 x.2.1 x.2.2.1 x.2.2.2.1) h)
theorem low_congr {w x y : Int} (h : Sp.pw (Sp.wn w) ∣ x - y) : Sp.low w x = Sp.low w y := by
  unfold Sp.low
  exact Int.emod_eq_emod_iff_emod_sub_eq_zero.2 (Int.emod_eq_zero_of_dvd h)
theorem sg_dvd (w x : Int) : Sp.pw (Sp.wn w) ∣ x - Sp.sg w x := by
  have h : Sp.pw (Sp.wn w) ∣ x - Sp.low w x := Int.dvd_self_sub_emod
  rw [sg_neg]
  cases Sp.neg w x with
  | true =>
    simp only [cond_true]
    have e : x - (Sp.low w x - Sp.pw (Sp.wn w)) = (x - Sp.low w x) + Sp.pw (Sp.wn w) := by omega
    rw [e]; exact Int.dvd_add h (Int.dvd_refl _)
  | false => exact h
def Sp.sq (w a b : Int) : Int := if Sp.sg w b = 0 then Sp.mask w else Sp.low w ((Sp.sg w a).tdiv (Sp.sg w b))
def Sp.sr (w a b : Int) : Int := if Sp.sg w b = 0 then a else Sp.low w ((Sp.sg w a).tmod (Sp.sg w b))
theorem tdiv_range {a b : Int} (ha : -9223372036854775808 ≤ a ∧ a ≤ 9223372036854775807) (h0 : b ≠ 0) (h1 : b ≠ -1) : -9223372036854775808 ≤ a.tdiv b ∧ a.tdiv b ≤ 9223372036854775807 := by
  have h : (a.tdiv b).natAbs = a.natAbs / b.natAbs := Int.natAbs_tdiv a b
  by_cases hb : b = 1
  · subst hb; simpa using ha
  · have h2 : 2 ≤ b.natAbs := by omega
    have h3 : a.natAbs / b.natAbs ≤ a.natAbs / 2 := Nat.div_le_div_left h2 (by decide)
    generalize a.natAbs / b.natAbs = q at h h3
    omega
theorem ok128 (w a b : Int) (h : U64 a ∧ U64 b) : go128 w a b = some ((Sp.sq w a b, Sp.sr w a b, ()), ()) := by
  obtain ⟨ha, hb⟩ := h
  unfold go128 Sp.sq Sp.sr
  rw [grd_ok ha, callB_some, grd_ok hb, callB_some]
  by_cases h0 : Sp.sg w b = 0
  · simp [h0]
  · by_cases h1 : Sp.sg w b = -1
    · simp only [h1]
      simp (maxSteps := 1000000) (disch := ((try dsimp only); omega)) only [↓grd_dec, ↓grd_blt, ↓grd_true, ↓jpO_eq, ↓callB_some, ↓callB_grd, ↓bif_decide, ↓sumO_inl, ↓sumO_inr, ↓if_pos, ↓if_neg, ↓cond_true, ↓cond_false, ↓bif_not, Int.toNat_natCast, Bool.not_true, Bool.not_false, decide_true, decide_false, Bool.false_eq_true, ↓if_true, ↓if_false, Int.natCast_add, Int.cast_ofNat_Int, Bool.not_eq_true', decide_eq_false_iff_not, not_true_eq_false, not_false_eq_true]
      rw [low_wrap]
      have e1 : (Sp.sg w a).tdiv (-1) = -(Sp.sg w a) := by rw [Int.tdiv_neg, Int.tdiv_one]
      have e2 : (Sp.sg w a).tmod (-1) = 0 := by rw [Int.tmod_neg, Int.tmod_one]
      rw [grd_ok (wrap_u64 _), e1, e2]
      have e3 : Sp.low w (0 - a) = Sp.low w (-Sp.sg w a) := low_congr (by
        have := Int.dvd_neg.2 (sg_dvd w a)
        have e : 0 - a - -Sp.sg w a = -(a - Sp.sg w a) := by omega
        rw [e]; exact this)
      rw [e3]
      have e4 : Sp.low w 0 = 0 := Int.zero_emod _
      rw [e4]
    · have hr := tdiv_range (sg_range w a) h0 h1
      rw [decide_eq_false h0, decide_eq_false h1, if_neg h0, if_neg h0]
      simp only [cond_false, Bool.not_false, grd_true]
      rw [grd_ok hr]
def c128 : Ctr Try.prog := mkCtr 128 Try.f128 Try.func128 [c127, c103, c116, c117] ann128 [(0, (.i .i64)), (1, (.i .u64)), (2, (.i .u64))] [] (.tup [(.i .u64), (.i .u64)]) [] (fun x _ => grd (okB (U64 x.2.1 ∧ U64 x.2.2.1)) (some ((Sp.sq x.1 x.2.1 x.2.2.1, Sp.sr x.1 x.2.1 x.2.2.1, ()), ()))) (fun x _ r h => FO (run128 x.1 x.2.1 x.2.2.1) (ok128 x.1 x.2.1 x.2.2.1) h)
def Sp.shift (op w a b : Int) : Int :=
  if w ≤ b then (if op = 14 ∧ Sp.neg w a = true then Sp.mask w else 0)
  else if op = 12 then Sp.low w (a * Sp.pw b.toNat)
  else if op = 13 then a / Sp.pw b.toNat
  else Sp.low w (Sp.sg w a / Sp.pw b.toNat)
theorem min64 {b : Int} (h0 : 0 ≤ b) (h : b < 64) : min b.toNat (IntKind.bits .u64) = b.toNat := shift_min h0 (by omega)
theorem ok105 (op w a b : Int) (h : U64 a ∧ U64 b ∧ 1 ≤ w ∧ w ≤ 64) : go105 op w a b = some (Sp.shift op w a b, ()) := by
  obtain ⟨ha, hb, h1, h2⟩ := h
  have hb0 := hb.1
  have hw : IntKind.u64.wrap w = w := by rw [wrap64]; omega
  unfold go105 Sp.shift
  rw [hw]
  by_cases h3 : w ≤ b
  · rw [decide_eq_true h3, if_pos h3]
    by_cases h4 : op = 14
    · rw [decide_eq_true h4, grd_ok ha, callB_some]
      cases h5 : Sp.neg w a <;> simp [h4]
    · simp [h4]
  · rw [decide_eq_false h3, if_neg h3]
    have e1 := min64 (b := b) (by omega) (by omega)
    have e3 : min b.toNat (IntKind.bits .i64) = b.toNat := e1
    rw [e1, e3]
    simp only [grd_ok ha, grd_ok hb0, grd_ok (wrap_u64 _), callB_some, low_wrap, pw_eq, fdiv_pos (pw_pos _), cond_false]
    by_cases h4 : op = 12
    · rw [decide_eq_true h4, if_pos h4]; rfl
    · rw [decide_eq_false h4, if_neg h4]
      by_cases h5 : op = 13
      · rw [decide_eq_true h5, if_pos h5]; rfl
      · rw [decide_eq_false h5, if_neg h5]; rfl
def c105 : Ctr Try.prog := mkCtr 105 Try.f105 Try.func105 [c103, c116, c117, c127, c129] ann105 [(0, (.i .i64)), (1, (.i .i64)), (2, (.i .u64)), (3, (.i .u64))] [] (.i .u64) [] (fun x _ => grd (okB (U64 x.2.2.1 ∧ U64 x.2.2.2.1 ∧ 1 ≤ x.2.1 ∧ x.2.1 ≤ 64)) (some (Sp.shift x.1 x.2.1 x.2.2.1 x.2.2.2.1, ()))) (fun x _ r h => FO (run105 x.1 x.2.1 x.2.2.1 x.2.2.2.1) (ok105 x.1 x.2.1 x.2.2.1 x.2.2.2.1) h)
def Sp.cmp (op w a b : Int) : Int :=
  if op = 15 then Sp.one (decide (a = b)) else if op = 16 then Sp.one (!decide (a = b)) else if op = 17 then Sp.one (decide (a < b)) else if op = 18 then Sp.one (decide (a ≤ b))
  else if op = 19 then Sp.one (decide (Sp.sg w a < Sp.sg w b)) else Sp.one (decide (Sp.sg w a ≤ Sp.sg w b))
theorem ok106 (op w a b : Int) (h : U64 a ∧ U64 b) : go106 op w a b = some (Sp.cmp op w a b, ()) := by
  obtain ⟨ha, hb⟩ := h
  unfold go106 Sp.cmp
  rw [grd_ok ha, grd_ok hb]
  simp only [callB_some, bif_decide]
  repeat' split
  all_goals rfl
def c106 : Ctr Try.prog := mkCtr 106 Try.f106 Try.func106 [c117, c130] ann106 [(0, (.i .i64)), (1, (.i .i64)), (2, (.i .u64)), (3, (.i .u64))] [] (.i .u64) [] (fun x _ => grd (okB (U64 x.2.2.1 ∧ U64 x.2.2.2.1)) (some (Sp.cmp x.1 x.2.1 x.2.2.1 x.2.2.2.1, ()))) (fun x _ r h => FO (run106 x.1 x.2.1 x.2.2.1 x.2.2.2.1) (ok106 x.1 x.2.1 x.2.2.1 x.2.2.2.1) h)
end
end Go.Abs


set_option linter.unusedVariables false
set_option linter.unusedSectionVars false
set_option linter.unusedSimpArgs false
set_option maxHeartbeats 1000000
namespace Go.Abs
open Go Go.Proofs
noncomputable section
def Sp.bit (b : Bool) : Int := if b = true then 1 else 0
def Sp.bitsN (y n : Nat) : List Int := (List.range n).map fun i => Sp.bit (y.testBit i)
theorem bitsN_len (y n : Nat) : (Sp.bitsN y n).length = n := by simp [Sp.bitsN]
theorem bitsN_get {y n i : Nat} (h : i < n) : (Sp.bitsN y n).getD i 0 = Sp.bit (y.testBit i) := by simp [Sp.bitsN, List.getD_eq_getElem?_getD, h]
theorem bitsN_succ (y n : Nat) : Sp.bitsN y (n + 1) = Sp.bitsN y n ++ [Sp.bit (y.testBit n)] := by simp [Sp.bitsN, List.range_succ]
theorem bit_nat (y i : Nat) : Sp.bit (y.testBit i) = ((y / 2 ^ i % 2 : Nat) : Int) := by
  rw [Nat.testBit_eq_decide_div_mod_eq]
  rcases Nat.mod_two_eq_zero_or_one (y / 2 ^ i) with h | h <;> simp [Sp.bit, h]
theorem half_nat {m : Nat} (h : m < 18446744073709551616) : ∀ k, Sp.half m k = ((m / 2 ^ k : Nat) : Int)
  | 0 => by simp [Sp.half]
  | k + 1 => by
    have h1 : m / 2 ^ k / 2 ≤ m := Nat.le_trans (Nat.div_le_self _ _) (Nat.div_le_self _ _)
    simp only [Sp.half, half_nat h k]
    rw [Nat.pow_succ, ← Nat.div_div_eq_div_mul]
    generalize m / 2 ^ k = q at *
    rw [Int.tdiv_eq_ediv_of_nonneg (by omega), wrap64]
    omega
theorem bitsL_nat {x : Int} (hx : U64 x) (n : Nat) : Sp.bitsL x n = Sp.bitsN x.toNat n := by
  obtain ⟨m, rfl⟩ := Int.eq_ofNat_of_zero_le hx.1
  have hm : m < 18446744073709551616 := by have := hx.2; omega
  simp only [Sp.bitsL, Sp.bitsN, Int.toNat_natCast]
  refine List.map_congr_left fun i _ => ?_
  rw [half_nat hm, bit_nat, Int.tmod_eq_emod_of_nonneg (Int.natCast_nonneg _)]
  exact (Int.natCast_emod _ _).symm
theorem wd_bits {y n : Nat} (hn : n ≤ 64) : ∀ k, k ≤ n → Sp.wd (Sp.bitsN y n) k = (((y % 2 ^ n) / 2 ^ (n - k) : Nat) : Int)
  | 0, _ => by
    have : y % 2 ^ n / 2 ^ n = 0 := Nat.div_eq_of_lt (Nat.mod_lt _ (Nat.two_pow_pos n))
    simp [Sp.wd, this]
  | k + 1, h => by
    have ih := wd_bits (y := y) hn k (by omega)
    simp only [Sp.wd, ih, bitsN_len]
    rw [bitsN_get (by omega), show n - 1 - k = n - (k + 1) by omega]
    have e1 : y.testBit (n - (k + 1)) = (y % 2 ^ n).testBit (n - (k + 1)) := by rw [Nat.testBit_mod_two_pow]; simp; omega
    rw [e1, bit_nat]
    have h1 : y % 2 ^ n < 2 ^ 64 := Nat.lt_of_lt_of_le (Nat.mod_lt _ (Nat.two_pow_pos n)) (Nat.pow_le_pow_right (by decide) hn)
    generalize y % 2 ^ n = z at *
    have e2 : z / 2 ^ (n - k) = z / 2 ^ (n - (k + 1)) / 2 := by
      rw [Nat.div_div_eq_div_mul, ← Nat.pow_succ, show (n - (k + 1)).succ = n - k by omega]
    rw [e2]
    have h2 : z / 2 ^ (n - (k + 1)) ≤ z := Nat.div_le_self _ _
    generalize z / 2 ^ (n - (k + 1)) = q at *
    rw [wrap64, wrap64, wrap64]
    omega
theorem wd_word {y n : Nat} (hn : n ≤ 64) : Sp.wd (Sp.bitsN y n) n = ((y % 2 ^ n : Nat) : Int) := by
  rw [wd_bits hn n (Nat.le_refl _)]; simp
theorem low_nat (w : Int) (m : Nat) : Sp.low w m = ((m % 2 ^ Sp.wn w : Nat) : Int) := by unfold Sp.low Sp.pw; exact (Int.natCast_emod _ _).symm
theorem fit_low {w x : Int} (hx : U64 x) : Sp.fit w x = Sp.low w x := by
  unfold Sp.fit
  rw [bitsL_len, bitsL_nat hx]
  show Sp.wd (Sp.bitsN x.toNat (Sp.wn w)) (Sp.wn w) = _
  rw [wd_word (wn_le w), ← low_nat]
  congr 1
  have := hx.1; omega
end
end Go.Abs


set_option linter.unusedVariables false
set_option linter.unusedSectionVars false
set_option linter.unusedSimpArgs false
set_option maxHeartbeats 1000000
namespace Go.Abs
open Go Go.Proofs
noncomputable section
def ann108 : Ann := (.seq .w (.seq .w (.join ⟨[(3, (.i .u64))], []⟩ (.seq .w (.block (.loop ⟨[(0, (.i .i64)), (3, (.i .u64)), (4, (.i .i64))], []⟩ [((.exit 0), ⟨[(3, (.i .u64))], []⟩)] (.join ⟨[(0, (.i .i64)), (3, (.i .u64)), (4, (.i .i64))], []⟩ (.seq .w (.cond .o .o)) (.join ⟨[(0, (.i .i64)), (3, (.i .u64)), (4, (.i .i64))], []⟩ (.block .w) .w))))) (.seq .w .o))))
def go108_l1 : ((Int × (Int × (Int × Unit))) × Unit) → Option (((Int × (Int × (Int × Unit))) × Unit) ⊕ ((Int × Unit) × Unit)) := (fun (r0 : ((Int × (Int × (Int × Unit))) × Unit)) => (bif (decide (r0.1.2.2.1 < (Sp.width r0.1.1))) then
      (some (Sum.inl ((r0.1.1, ((Go.IntKind.wrap Go.IntKind.u64 ((Go.IntKind.wrap Go.IntKind.u64 ((2 : Int) * r0.1.2.1)) + (1 : Int))), ((Go.IntKind.wrap Go.IntKind.i64 (r0.1.2.2.1 + (1 : Int))), ()))), ())))
      else
      (some (Sum.inr ((r0.1.2.1, ()), ())))))
def go108 (x0 : Int) : (Option (Int × Unit)) :=
  (callB (whileO (go108_l1) ((x0, ((0 : Int), ((0 : Int), ()))), ()))
    (fun (z0 : ((Int × Unit) × Unit)) => (some (z0.1.1, ()))))
theorem run108 (x0 : Int) : runF (P := Try.prog) [c78] Try.f108 ann108 [(0, (.i .i64))] [] (.i .u64) [] (x0, ()) () = go108 x0 := by kernel_rfl
def ann77 : Ann := (.seq .o (.seq .o (.seq .o .o)))
def go77 (x0 : Int) (x1 : Int) : (Option (Bool × Unit)) :=
  (bif (decide ((0 : Int) < (((Sp.bitsL x1 (Sp.width x0).toNat).length : Nat) : Int))) then
    (grd (okB (((-(9223372036854775808 : Int)) ≤ ((((Sp.bitsL x1 (Sp.width x0).toNat).length : Nat) : Int) - (1 : Int))) ∧ (((((Sp.bitsL x1 (Sp.width x0).toNat).length : Nat) : Int) - (1 : Int)) ≤ (9223372036854775807 : Int))))
      (grd (okB (((0 : Int) ≤ ((((Sp.bitsL x1 (Sp.width x0).toNat).length : Nat) : Int) - (1 : Int))) ∧ (((((Sp.bitsL x1 (Sp.width x0).toNat).length : Nat) : Int) - (1 : Int)) < (((Sp.bitsL x1 (Sp.width x0).toNat).length : Nat) : Int))))
        (some ((decide (((Sp.bitsL x1 (Sp.width x0).toNat).getD ((((Sp.bitsL x1 (Sp.width x0).toNat).length : Nat) : Int) - (1 : Int)).toNat (0 : Int)) = (1 : Int))), ()))))
    else
    (some (false, ())))
theorem run77 (x0 : Int) (x1 : Int) : runF (P := Try.prog) [c76] Try.f77 ann77 [(0, (.i .i64)), (1, (.i .u64))] [] .b [] (x0, (x1, ())) () = go77 x0 x1 := by kernel_rfl
def ann107 : Ann := (.seq .o (.seq .o (.join ⟨[(7, (.full 0))], [(.lst 3 (.int .i64))]⟩ (.seq .o (.block (.loop ⟨[(0, (.fz (.int .i64))), (1, (.fz (.int .i64))), (2, (.i .i64)), (7, (.full 0)), (8, (.i .i64))], [(.lst 3 (.int .i64))]⟩ [((.exit 0), ⟨[(7, (.full 0))], [(.lst 3 (.int .i64))]⟩)] (.join ⟨[(0, (.fz (.int .i64))), (1, (.fz (.int .i64))), (2, (.i .i64)), (7, (.full 0)), (8, (.i .i64))], [(.lst 3 (.int .i64))]⟩ (.seq .o (.cond .o .o)) (.join ⟨[(0, (.fz (.int .i64))), (1, (.fz (.int .i64))), (2, (.i .i64)), (7, (.full 0)), (8, (.i .i64))], [(.lst 3 (.int .i64))]⟩ (.block (.seq .o (.seq .o .o))) .o))))) (.seq .o .o))))
def go107_l1 : (((List Int) × ((List Int) × (Int × (Unit × (Int × Unit))))) × ((List Int) × Unit)) → Option ((((List Int) × ((List Int) × (Int × (Unit × (Int × Unit))))) × ((List Int) × Unit)) ⊕ ((Unit × Unit) × ((List Int) × Unit))) := (fun (r0 : (((List Int) × ((List Int) × (Int × (Unit × (Int × Unit))))) × ((List Int) × Unit))) => (bif (decide (r0.1.2.2.2.2.1 < ((r0.1.1.length : Nat) : Int))) then
      (grd (okB (((0 : Int) ≤ r0.1.2.2.2.2.1) ∧ (r0.1.2.2.2.2.1 < ((r0.1.1.length : Nat) : Int))))
        (grd (okB (((0 : Int) ≤ r0.1.2.2.2.2.1) ∧ (r0.1.2.2.2.2.1 < ((r0.1.2.1.length : Nat) : Int))))
          (grd (okB (((-(9223372036854775808 : Int)) ≤ ((r0.1.1.getD r0.1.2.2.2.2.1.toNat (0 : Int)) + (r0.1.2.1.getD r0.1.2.2.2.2.1.toNat (0 : Int)))) ∧ (((r0.1.1.getD r0.1.2.2.2.2.1.toNat (0 : Int)) + (r0.1.2.1.getD r0.1.2.2.2.2.1.toNat (0 : Int))) ≤ (9223372036854775807 : Int))))
            (grd (okB (((-(9223372036854775808 : Int)) ≤ (((r0.1.1.getD r0.1.2.2.2.2.1.toNat (0 : Int)) + (r0.1.2.1.getD r0.1.2.2.2.2.1.toNat (0 : Int))) + r0.1.2.2.1)) ∧ ((((r0.1.1.getD r0.1.2.2.2.2.1.toNat (0 : Int)) + (r0.1.2.1.getD r0.1.2.2.2.2.1.toNat (0 : Int))) + r0.1.2.2.1) ≤ (9223372036854775807 : Int))))
              (grd (okB ((((r0.2.1.length + 1) * (8 : Nat)) ≤ (140737488355328 : Nat)) ∧ ((r0.2.1.length + 1) ≤ (281474976710656 : Nat))))
                (grd (okB (((-(9223372036854775808 : Int)) ≤ (Int.tdiv (((r0.1.1.getD r0.1.2.2.2.2.1.toNat (0 : Int)) + (r0.1.2.1.getD r0.1.2.2.2.2.1.toNat (0 : Int))) + r0.1.2.2.1) (2 : Int))) ∧ ((Int.tdiv (((r0.1.1.getD r0.1.2.2.2.2.1.toNat (0 : Int)) + (r0.1.2.1.getD r0.1.2.2.2.2.1.toNat (0 : Int))) + r0.1.2.2.1) (2 : Int)) ≤ (9223372036854775807 : Int))))
                  (grd (okB (((-(9223372036854775808 : Int)) ≤ (r0.1.2.2.2.2.1 + (1 : Int))) ∧ ((r0.1.2.2.2.2.1 + (1 : Int)) ≤ (9223372036854775807 : Int))))
                    (some (Sum.inl ((r0.1.1, (r0.1.2.1, ((Int.tdiv (((r0.1.1.getD r0.1.2.2.2.2.1.toNat (0 : Int)) + (r0.1.2.1.getD r0.1.2.2.2.2.1.toNat (0 : Int))) + r0.1.2.2.1) (2 : Int)), ((), ((r0.1.2.2.2.2.1 + (1 : Int)), ()))))), ((r0.2.1 ++ ((Int.tmod (((r0.1.1.getD r0.1.2.2.2.2.1.toNat (0 : Int)) + (r0.1.2.1.getD r0.1.2.2.2.2.1.toNat (0 : Int))) + r0.1.2.2.1) (2 : Int)) :: ([] : List Int))), ())))))))))))
      else
      (some (Sum.inr (((), ()), (r0.2.1, ()))))))
def go107 (x0 : (List Int)) (x1 : (List Int)) (x2 : Int) : (Option ((List Int) × Unit)) :=
  (callB (whileO (go107_l1) ((x0, (x1, (x2, ((), ((0 : Int), ()))))), (([] : List Int), ())))
    (fun (z0 : ((Unit × Unit) × ((List Int) × Unit))) => (some (z0.2.1, ()))))
theorem run107 (x0 : (List Int)) (x1 : (List Int)) (x2 : Int) : runF (P := Try.prog) [] Try.f107 ann107 [(0, (.fz (.int .i64))), (1, (.fz (.int .i64))), (2, (.i .i64))] [] (.fz (.int .i64)) [] (x0, (x1, (x2, ()))) () = go107 x0 x1 x2 := by kernel_rfl
def ann110 : Ann := (.seq .o (.seq .o (.seq .o (.join ⟨[(8, (.full 0))], [(.lst 3 (.int .i64))]⟩ (.seq .o (.block (.loop ⟨[(2, (.i .i64)), (7, (.fz (.int .i64))), (8, (.full 0)), (9, (.i .i64))], [(.lst 3 (.int .i64))]⟩ [((.exit 0), ⟨[(8, (.full 0))], [(.lst 3 (.int .i64))]⟩)] (.join ⟨[(2, (.i .i64)), (7, (.fz (.int .i64))), (8, (.full 0)), (9, (.i .i64))], [(.lst 3 (.int .i64))]⟩ (.seq .o (.cond .o .o)) (.join ⟨[(2, (.i .i64)), (7, (.fz (.int .i64))), (8, (.full 0)), (9, (.i .i64))], [(.lst 3 (.int .i64))]⟩ (.block (.seq .o (.cond .o .o))) .o))))) (.seq .o .o)))))
def go110_j1 : ((Int × ((List Int) × (Unit × (Int × Unit)))) × ((List Int) × Unit)) → Option (((Int × ((List Int) × (Unit × (Int × Unit)))) × ((List Int) × Unit)) ⊕ ((Unit × Unit) × ((List Int) × Unit))) := (fun (z0 : ((Int × ((List Int) × (Unit × (Int × Unit)))) × ((List Int) × Unit))) => (grd (okB (((-(9223372036854775808 : Int)) ≤ (z0.1.2.2.2.1 + (1 : Int))) ∧ ((z0.1.2.2.2.1 + (1 : Int)) ≤ (9223372036854775807 : Int))))
      (some (Sum.inl ((z0.1.1, (z0.1.2.1, ((), ((z0.1.2.2.2.1 + (1 : Int)), ())))), (z0.2.1, ()))))))
def go110_l1 : ((Int × ((List Int) × (Unit × (Int × Unit)))) × ((List Int) × Unit)) → Option (((Int × ((List Int) × (Unit × (Int × Unit)))) × ((List Int) × Unit)) ⊕ ((Unit × Unit) × ((List Int) × Unit))) := (fun (r0 : ((Int × ((List Int) × (Unit × (Int × Unit)))) × ((List Int) × Unit))) => (bif (decide (r0.1.2.2.2.1 < ((r0.1.2.1.length : Nat) : Int))) then
      (jpO (go110_j1)
        (fun (j0 : (((Int × ((List Int) × (Unit × (Int × Unit)))) × ((List Int) × Unit)) → (Option (((Int × ((List Int) × (Unit × (Int × Unit)))) × ((List Int) × Unit)) ⊕ ((Unit × Unit) × ((List Int) × Unit)))))) => (bif (decide (r0.1.1 ≤ r0.1.2.2.2.1)) then
            (grd (okB (((-(9223372036854775808 : Int)) ≤ (r0.1.2.2.2.1 - r0.1.1)) ∧ ((r0.1.2.2.2.1 - r0.1.1) ≤ (9223372036854775807 : Int))))
              (grd (okB (((0 : Int) ≤ (r0.1.2.2.2.1 - r0.1.1)) ∧ ((r0.1.2.2.2.1 - r0.1.1) < ((r0.1.2.1.length : Nat) : Int))))
                (grd (okB ((((r0.2.1.length + 1) * (8 : Nat)) ≤ (140737488355328 : Nat)) ∧ ((r0.2.1.length + 1) ≤ (281474976710656 : Nat))))
                  (j0 ((r0.1.1, (r0.1.2.1, ((), (r0.1.2.2.2.1, ())))), ((r0.2.1 ++ ((r0.1.2.1.getD (r0.1.2.2.2.1 - r0.1.1).toNat (0 : Int)) :: ([] : List Int))), ()))))))
            else
            (grd (okB ((((r0.2.1.length + 1) * (8 : Nat)) ≤ (140737488355328 : Nat)) ∧ ((r0.2.1.length + 1) ≤ (281474976710656 : Nat))))
              (j0 ((r0.1.1, (r0.1.2.1, ((), (r0.1.2.2.2.1, ())))), ((r0.2.1 ++ ((0 : Int) :: ([] : List Int))), ())))))))
      else
      (some (Sum.inr (((), ()), (r0.2.1, ()))))))
def go110 (x0 : Int) (x1 : Int) (x2 : Int) : (Option (Int × Unit)) :=
  (callB (whileO (go110_l1) ((x2, ((Sp.bitsL x1 (Sp.width x0).toNat), ((), ((0 : Int), ())))), (([] : List Int), ())))
    (fun (z0 : ((Unit × Unit) × ((List Int) × Unit))) => (callB (grd (okB (z0.2.1.length ≤ LEN))
          (some ((Sp.wd z0.2.1 z0.2.1.length), ())))
        (fun (r0 : (Int × Unit)) => (some (r0.1, ()))))))
theorem run110 (x0 : Int) (x1 : Int) (x2 : Int) : runF (P := Try.prog) [c76, c79] Try.f110 ann110 [(0, (.i .i64)), (1, (.i .u64)), (2, (.i .i64))] [] (.i .u64) [] (x0, (x1, (x2, ()))) () = go110 x0 x1 x2 := by kernel_rfl
def ann112 : Ann := (.seq .o (.seq .o (.seq .o (.join ⟨[(10, (.full 0))], [(.lst 3 (.int .i64))]⟩ (.seq .o (.block (.loop ⟨[(2, (.i .i64)), (3, (.i .i64)), (9, (.fz (.int .i64))), (10, (.full 0)), (11, (.i .i64))], [(.lst 3 (.int .i64))]⟩ [((.exit 0), ⟨[(10, (.full 0))], [(.lst 3 (.int .i64))]⟩)] (.join ⟨[(2, (.i .i64)), (3, (.i .i64)), (9, (.fz (.int .i64))), (10, (.full 0)), (11, (.i .i64))], [(.lst 3 (.int .i64))]⟩ (.seq .o (.cond .o .o)) (.join ⟨[(2, (.i .i64)), (3, (.i .i64)), (9, (.fz (.int .i64))), (10, (.full 0)), (11, (.i .i64))], [(.lst 3 (.int .i64))]⟩ (.block (.seq .o (.cond .o .o))) .o))))) (.seq .o .o)))))
def go112_j1 : ((Int × (Int × ((List Int) × (Unit × (Int × Unit))))) × ((List Int) × Unit)) → Option (((Int × (Int × ((List Int) × (Unit × (Int × Unit))))) × ((List Int) × Unit)) ⊕ ((Unit × Unit) × ((List Int) × Unit))) := (fun (z0 : ((Int × (Int × ((List Int) × (Unit × (Int × Unit))))) × ((List Int) × Unit))) => (grd (okB (((-(9223372036854775808 : Int)) ≤ (z0.1.2.2.2.2.1 + (1 : Int))) ∧ ((z0.1.2.2.2.2.1 + (1 : Int)) ≤ (9223372036854775807 : Int))))
      (some (Sum.inl ((z0.1.1, (z0.1.2.1, (z0.1.2.2.1, ((), ((z0.1.2.2.2.2.1 + (1 : Int)), ()))))), (z0.2.1, ()))))))
def go112_l1 : ((Int × (Int × ((List Int) × (Unit × (Int × Unit))))) × ((List Int) × Unit)) → Option (((Int × (Int × ((List Int) × (Unit × (Int × Unit))))) × ((List Int) × Unit)) ⊕ ((Unit × Unit) × ((List Int) × Unit))) := (fun (r0 : ((Int × (Int × ((List Int) × (Unit × (Int × Unit))))) × ((List Int) × Unit))) => (bif (decide (r0.1.2.2.2.2.1 < ((r0.1.2.2.1.length : Nat) : Int))) then
      (jpO (go112_j1)
        (fun (j0 : (((Int × (Int × ((List Int) × (Unit × (Int × Unit))))) × ((List Int) × Unit)) → (Option (((Int × (Int × ((List Int) × (Unit × (Int × Unit))))) × ((List Int) × Unit)) ⊕ ((Unit × Unit) × ((List Int) × Unit)))))) => (grd (okB (((-(9223372036854775808 : Int)) ≤ (r0.1.2.2.2.2.1 + r0.1.1)) ∧ ((r0.1.2.2.2.2.1 + r0.1.1) ≤ (9223372036854775807 : Int))))
            (bif (decide ((r0.1.2.2.2.2.1 + r0.1.1) < ((r0.1.2.2.1.length : Nat) : Int))) then
              (grd (okB (((-(9223372036854775808 : Int)) ≤ (r0.1.2.2.2.2.1 + r0.1.1)) ∧ ((r0.1.2.2.2.2.1 + r0.1.1) ≤ (9223372036854775807 : Int))))
                (grd (okB (((0 : Int) ≤ (r0.1.2.2.2.2.1 + r0.1.1)) ∧ ((r0.1.2.2.2.2.1 + r0.1.1) < ((r0.1.2.2.1.length : Nat) : Int))))
                  (grd (okB ((((r0.2.1.length + 1) * (8 : Nat)) ≤ (140737488355328 : Nat)) ∧ ((r0.2.1.length + 1) ≤ (281474976710656 : Nat))))
                    (j0 ((r0.1.1, (r0.1.2.1, (r0.1.2.2.1, ((), (r0.1.2.2.2.2.1, ()))))), ((r0.2.1 ++ ((r0.1.2.2.1.getD (r0.1.2.2.2.2.1 + r0.1.1).toNat (0 : Int)) :: ([] : List Int))), ()))))))
              else
              (grd (okB ((((r0.2.1.length + 1) * (8 : Nat)) ≤ (140737488355328 : Nat)) ∧ ((r0.2.1.length + 1) ≤ (281474976710656 : Nat))))
                (j0 ((r0.1.1, (r0.1.2.1, (r0.1.2.2.1, ((), (r0.1.2.2.2.2.1, ()))))), ((r0.2.1 ++ (r0.1.2.1 :: ([] : List Int))), ()))))))))
      else
      (some (Sum.inr (((), ()), (r0.2.1, ()))))))
def go112 (x0 : Int) (x1 : Int) (x2 : Int) (x3 : Int) : (Option (Int × Unit)) :=
  (callB (whileO (go112_l1) ((x2, (x3, ((Sp.bitsL x1 (Sp.width x0).toNat), ((), ((0 : Int), ()))))), (([] : List Int), ())))
    (fun (z0 : ((Unit × Unit) × ((List Int) × Unit))) => (callB (grd (okB (z0.2.1.length ≤ LEN))
          (some ((Sp.wd z0.2.1 z0.2.1.length), ())))
        (fun (r0 : (Int × Unit)) => (some (r0.1, ()))))))
theorem run112 (x0 : Int) (x1 : Int) (x2 : Int) (x3 : Int) : runF (P := Try.prog) [c76, c79] Try.f112 ann112 [(0, (.i .i64)), (1, (.i .u64)), (2, (.i .i64)), (3, (.i .i64))] [] (.i .u64) [] (x0, (x1, (x2, (x3, ())))) () = go112 x0 x1 x2 x3 := by kernel_rfl
def ann111 : Ann := (.seq .w (.join ⟨[(1, (.i .u64))], []⟩ (.seq .w (.cond (.seq .w .o) .o)) (.seq .w .o)))
def go111 (x0 : Int) (x1 : Int) : (Option (Int × Unit)) :=
  (bif (decide ((Go.IntKind.wrap Go.IntKind.u64 (Sp.width x0)) ≤ x1)) then
    (some ((Sp.width x0), ()))
    else
    (some ((Go.IntKind.wrap Go.IntKind.i64 x1), ())))
theorem run111 (x0 : Int) (x1 : Int) : runF (P := Try.prog) [c78] Try.f111 ann111 [(0, (.i .i64)), (1, (.i .u64))] [] (.i .i64) [] (x0, (x1, ())) () = go111 x0 x1 := by kernel_rfl
def ann113 : Ann := (.seq .o (.join ⟨[], []⟩ (.seq .o (.cond (.seq .o .o) .o)) (.seq .o .o)))
def go113 (x0 : Bool) : (Option (Int × Unit)) :=
  (bif x0 then
    (some ((1 : Int), ()))
    else
    (some ((0 : Int), ())))
theorem run113 (x0 : Bool) : runF (P := Try.prog) [] Try.f113 ann113 [(0, .b)] [] (.i .u64) [] (x0, ()) () = go113 x0 := by kernel_rfl
theorem ok108 (w : Int) : go108 w = some (Sp.mask w, ()) := by
  have hw := width_le w
  have hn := wn_eq w
  unfold go108 go108_l1
  refine callB_of (whileO_to (st := fun i => ((w, Sp.pw i - 1, (i : Int), ()), ())) rfl (Sp.wn w) (X0 := ((Sp.mask w, ()), ())) (fun i hi => ?_) ?_) ?_
  · have h1 := pw_pos i
    have h2 := pw_le (show i + 1 ≤ 64 by have := wn_le w; omega)
    have h3 := pw_succ i
    simp only [bif_decide]
    rw [if_pos (by omega), wrap64, wrap64, IntKind.wrap_i64]
    have e1 : ((2 * (Sp.pw i - 1)) % 18446744073709551616 + 1) % 18446744073709551616 = Sp.pw (i + 1) - 1 := by omega
    have hwl := wn_le w
    have e2 : ((i : Int) + 1 + 9223372036854775808) % 18446744073709551616 - 9223372036854775808 = ((i + 1 : Nat) : Int) := by omega
    rw [e1, e2]
  · simp only [bif_decide]
    rw [if_neg (by omega)]; rfl
  · rfl
def c108 : Ctr Try.prog := mkCtr 108 Try.f108 Try.func108 [c78] ann108 [(0, (.i .i64))] [] (.i .u64) [] (fun x _ => some (Sp.mask x.1, ())) (fun x _ r h => FE (run108 x.1) (ok108 x.1) h)
theorem neg_top {w x : Int} (hx : U64 x) (hw : 0 < Sp.wn w) : Sp.neg w x = decide (Sp.bit (x.toNat.testBit (Sp.wn w - 1)) = 1) := by
  unfold Sp.neg
  obtain ⟨m, rfl⟩ := Int.eq_ofNat_of_zero_le hx.1
  refine decide_eq_decide.2 ?_
  rw [Int.toNat_natCast, bit_nat, low_nat]
  have tb := top_bit (m := m) (n := Sp.wn w - 1)
  rw [show Sp.wn w - 1 + 1 = Sp.wn w by omega] at tb
  have e10 : Sp.pw (Sp.wn w) = ((2 ^ Sp.wn w : Nat) : Int) := rfl
  rw [e10]
  generalize m / 2 ^ (Sp.wn w - 1) = q at *
  generalize 2 ^ Sp.wn w = p at *
  generalize m % p = y at *
  omega
theorem ok77 (w x : Int) (hx : U64 x) : go77 w x = some (Sp.neg w x, ()) := by
  have hn := wn_le w
  unfold go77
  rw [bitsL_nat hx, bitsN_len]
  show (bif decide ((0 : Int) < (Sp.wn w : Int)) then _ else _) = _
  by_cases h : 0 < Sp.wn w
  · rw [neg_top hx h]
    have e : (((Sp.wn w : Nat) : Int) - 1).toNat = Sp.wn w - 1 := by omega
    have g : (Sp.bitsN x.toNat (Sp.width w).toNat).getD (((Sp.wn w : Nat) : Int) - 1).toNat 0 = Sp.bit (x.toNat.testBit (Sp.wn w - 1)) := by
      rw [e]; exact bitsN_get (n := Sp.wn w) (by omega)
    rw [decide_eq_true (show (0 : Int) < (Sp.wn w : Int) by omega)]
    show grd (okB (-9223372036854775808 ≤ ((Sp.wn w : Nat) : Int) - 1 ∧ ((Sp.wn w : Nat) : Int) - 1 ≤ 9223372036854775807)) (grd (okB (0 ≤ ((Sp.wn w : Nat) : Int) - 1 ∧ ((Sp.wn w : Nat) : Int) - 1 < ((Sp.wn w : Nat) : Int))) (some (decide ((Sp.bitsN x.toNat (Sp.width w).toNat).getD (((Sp.wn w : Nat) : Int) - 1).toNat 0 = 1), ()))) = _
    rw [g, grd_ok (by omega), grd_ok (by omega)]
  · have h0 : Sp.wn w = 0 := by omega
    rw [decide_eq_false (show ¬ (0 : Int) < (Sp.wn w : Int) by omega)]
    unfold Sp.neg
    simp [h0]
def c77 : Ctr Try.prog := mkCtr 77 Try.f77 Try.func77 [c76] ann77 [(0, (.i .i64)), (1, (.i .u64))] [] .b [] (fun x _ => grd (okB (U64 x.2.1)) (some (Sp.neg x.1 x.2.1, ()))) (fun x _ r h => FO (run77 x.1 x.2.1) (ok77 x.1 x.2.1) h)
theorem carry_step (a b c i : Nat) : (a % 2 ^ (i + 1) + b % 2 ^ (i + 1) + c) / 2 ^ (i + 1) = (a / 2 ^ i % 2 + b / 2 ^ i % 2 + (a % 2 ^ i + b % 2 ^ i + c) / 2 ^ i) / 2 ∧
    (a + b + c) / 2 ^ i % 2 = (a / 2 ^ i % 2 + b / 2 ^ i % 2 + (a % 2 ^ i + b % 2 ^ i + c) / 2 ^ i) % 2 := by
  have hp := Nat.two_pow_pos i
  have ha := Nat.mod_mul (x := a) (a := 2 ^ i) (b := 2)
  have hb := Nat.mod_mul (x := b) (a := 2 ^ i) (b := 2)
  rw [← Nat.pow_succ] at ha hb
  have e1 : a % 2 ^ (i + 1) + b % 2 ^ (i + 1) + c = (a % 2 ^ i + b % 2 ^ i + c) + 2 ^ i * (a / 2 ^ i % 2 + b / 2 ^ i % 2) := by rw [ha, hb, Nat.mul_add]; omega
  have e2 : a + b + c = (a % 2 ^ i + b % 2 ^ i + c) + 2 ^ i * (a / 2 ^ i + b / 2 ^ i) := by
    have h1 := Nat.mod_add_div a (2 ^ i)
    have h2 := Nat.mod_add_div b (2 ^ i)
    rw [Nat.mul_add]; omega
  constructor
  · rw [e1, Nat.pow_succ, ← Nat.div_div_eq_div_mul, Nat.add_mul_div_left _ _ hp]
    congr 1; omega
  · rw [e2, Nat.add_mul_div_left _ _ hp]
    omega
theorem ok107 (a b n c : Nat) (hc : c ≤ 1) (hn : n ≤ 64) : go107 (Sp.bitsN a n) (Sp.bitsN b n) c = some (Sp.bitsN (a + b + c) n, ()) := by
  unfold go107 go107_l1
  have hl : ∀ y : Nat, (Sp.bitsN y n).length = n := fun y => bitsN_len y n
  refine callB_of (whileO_to (st := fun i => ((Sp.bitsN a n, Sp.bitsN b n, (((a % 2 ^ i + b % 2 ^ i + c) / 2 ^ i : Nat) : Int), (), (i : Int), ()), Sp.bitsN (a + b + c) i, ())) (by simp [Sp.bitsN, Nat.mod_one]) n (X0 := (((), ()), Sp.bitsN (a + b + c) n, ())) (fun i hi => ?_) ?_) ?_
  · obtain ⟨s1, s2⟩ := carry_step a b c i
    have ga : (Sp.bitsN a n).getD i 0 = ((a / 2 ^ i % 2 : Nat) : Int) := by rw [bitsN_get hi, bit_nat]
    have gb : (Sp.bitsN b n).getD i 0 = ((b / 2 ^ i % 2 : Nat) : Int) := by rw [bitsN_get hi, bit_nat]
    have hb2 : (a % 2 ^ i + b % 2 ^ i + c) / 2 ^ i ≤ 2 := by
      have hp := Nat.two_pow_pos i
      have h1 := Nat.mod_lt a hp
      have h2 := Nat.mod_lt b hp
      exact Nat.div_le_of_le_mul (by omega)
    have h3 : a / 2 ^ i % 2 < 2 := Nat.mod_lt _ (by decide)
    have h4 : b / 2 ^ i % 2 < 2 := Nat.mod_lt _ (by decide)
    rw [bitsN_succ, bit_nat, s1, s2]
    have hli : (Sp.bitsN (a + b + c) i).length = i := bitsN_len _ _
    simp only [hl, hli, Int.toNat_natCast, ga, gb]
    clear s1 s2 ga gb
    generalize a / 2 ^ i % 2 = p at *
    generalize b / 2 ^ i % 2 = q at *
    generalize (a % 2 ^ i + b % 2 ^ i + c) / 2 ^ i = r at *
    have e1 : ((p : Int) + (q : Int) + (r : Int)).tmod 2 = (((p + q + r) % 2 : Nat) : Int) := by rw [Int.tmod_eq_emod_of_nonneg (by omega)]; omega
    have e2 : ((p : Int) + (q : Int) + (r : Int)).tdiv 2 = (((p + q + r) / 2 : Nat) : Int) := by rw [Int.tdiv_eq_ediv_of_nonneg (by omega)]; omega
    rw [e1, e2]
    simp (maxSteps := 1000000) (disch := ((try dsimp only); omega)) only [↓grd_dec, ↓grd_blt, ↓grd_true, ↓jpO_eq, ↓callB_some, ↓callB_grd, ↓bif_decide, ↓sumO_inl, ↓sumO_inr, ↓if_pos, ↓if_neg, ↓cond_true, ↓cond_false, ↓bif_not, Int.toNat_natCast, Bool.not_true, Bool.not_false, decide_true, decide_false, Bool.false_eq_true, ↓if_true, ↓if_false, Int.natCast_add, Int.cast_ofNat_Int, Bool.not_eq_true', decide_eq_false_iff_not, not_true_eq_false, not_false_eq_true]
  · simp only [hl]
    simp (maxSteps := 1000000) (disch := ((try dsimp only); omega)) only [↓grd_dec, ↓grd_blt, ↓grd_true, ↓jpO_eq, ↓callB_some, ↓callB_grd, ↓bif_decide, ↓sumO_inl, ↓sumO_inr, ↓if_pos, ↓if_neg, ↓cond_true, ↓cond_false, ↓bif_not, Int.toNat_natCast, Bool.not_true, Bool.not_false, decide_true, decide_false, Bool.false_eq_true, ↓if_true, ↓if_false, Int.natCast_add, Int.cast_ofNat_Int, Bool.not_eq_true', decide_eq_false_iff_not, not_true_eq_false, not_false_eq_true]
  · rfl
theorem ok113 (b : Bool) : go113 b = some (Sp.one b, ()) := by unfold go113 Sp.one; cases b <;> rfl
def c113 : Ctr Try.prog := mkCtr 113 Try.f113 Try.func113 [] ann113 [(0, .b)] [] (.i .u64) [] (fun x _ => some (Sp.one x.1, ())) (fun x _ r h => FE (run113 x.1) (ok113 x.1) h)
def Sp.amount (w b : Int) : Int := if Sp.width w ≤ b then Sp.width w else b
theorem ok111 (w b : Int) (hb : U64 b) : go111 w b = some (Sp.amount w b, ()) := by
  have hw := width_le w
  have := hb.1
  unfold go111 Sp.amount
  have e : IntKind.u64.wrap (Sp.width w) = Sp.width w := by rw [wrap64]; omega
  rw [e]
  by_cases h : Sp.width w ≤ b
  · simp [h]
  · have e2 : IntKind.i64.wrap b = b := by rw [IntKind.wrap_i64]; omega
    simp [h, e2]
def c111 : Ctr Try.prog := mkCtr 111 Try.f111 Try.func111 [c78] ann111 [(0, (.i .i64)), (1, (.i .u64))] [] (.i .i64) [] (fun x _ => grd (okB (U64 x.2.1)) (some (Sp.amount x.1 x.2.1, ()))) (fun x _ r h => FO (run111 x.1 x.2.1) (ok111 x.1 x.2.1) h)
theorem ok110 (w a n : Int) (h : U64 a ∧ 0 ≤ n ∧ n ≤ 64) : go110 w a n = some (Sp.low w (a * Sp.pw n.toNat), ()) := by
  obtain ⟨ha, h0, h1⟩ := h
  obtain ⟨k, rfl⟩ := Int.eq_ofNat_of_zero_le h0
  obtain ⟨m, hm⟩ := Int.eq_ofNat_of_zero_le ha.1
  have hw := wn_le w
  unfold go110 go110_l1 go110_j1
  rw [bitsL_nat ha]
  show callB (whileO _ (((k : Int), Sp.bitsN a.toNat (Sp.wn w), (), 0, ()), [], ())) _ = _
  have hl : (Sp.bitsN a.toNat (Sp.wn w)).length = Sp.wn w := bitsN_len _ _
  refine callB_of (whileO_to (st := fun i => (((k : Int), Sp.bitsN a.toNat (Sp.wn w), (), (i : Int), ()), Sp.bitsN (2 ^ k * a.toNat) i, ())) (by simp [Sp.bitsN]) (Sp.wn w) (X0 := (((), ()), Sp.bitsN (2 ^ k * a.toNat) (Sp.wn w), ())) (fun i hi => ?_) ?_) ?_
  · have hli : (Sp.bitsN (2 ^ k * a.toNat) i).length = i := bitsN_len _ _
    simp only [hl, hli]
    rw [bitsN_succ, Nat.testBit_two_pow_mul]
    by_cases hki : k ≤ i
    · have g : (Sp.bitsN a.toNat (Sp.wn w)).getD (((i : Int) - (k : Int))).toNat 0 = Sp.bit (a.toNat.testBit (i - k)) := by
        rw [show ((i : Int) - (k : Int)).toNat = i - k by omega]; exact bitsN_get (by omega)
      simp only [g]
      simp (maxSteps := 1000000) (disch := ((try dsimp only); omega)) only [↓grd_dec, ↓grd_blt, ↓grd_true, ↓jpO_eq, ↓callB_some, ↓callB_grd, ↓bif_decide, ↓sumO_inl, ↓sumO_inr, ↓if_pos, ↓if_neg, ↓cond_true, ↓cond_false, ↓bif_not, Int.toNat_natCast, Bool.not_true, Bool.not_false, decide_true, decide_false, Bool.false_eq_true, ↓if_true, ↓if_false, Int.natCast_add, Int.cast_ofNat_Int, Bool.not_eq_true', decide_eq_false_iff_not, not_true_eq_false, not_false_eq_true]
      rw [decide_eq_true hki]; rfl
    · simp (maxSteps := 1000000) (disch := ((try dsimp only); omega)) only [↓grd_dec, ↓grd_blt, ↓grd_true, ↓jpO_eq, ↓callB_some, ↓callB_grd, ↓bif_decide, ↓sumO_inl, ↓sumO_inr, ↓if_pos, ↓if_neg, ↓cond_true, ↓cond_false, ↓bif_not, Int.toNat_natCast, Bool.not_true, Bool.not_false, decide_true, decide_false, Bool.false_eq_true, ↓if_true, ↓if_false, Int.natCast_add, Int.cast_ofNat_Int, Bool.not_eq_true', decide_eq_false_iff_not, not_true_eq_false, not_false_eq_true]
      rw [decide_eq_false hki]; rfl
  · simp only [hl]
    simp (maxSteps := 1000000) (disch := ((try dsimp only); omega)) only [↓grd_dec, ↓grd_blt, ↓grd_true, ↓jpO_eq, ↓callB_some, ↓callB_grd, ↓bif_decide, ↓sumO_inl, ↓sumO_inr, ↓if_pos, ↓if_neg, ↓cond_true, ↓cond_false, ↓bif_not, Int.toNat_natCast, Bool.not_true, Bool.not_false, decide_true, decide_false, Bool.false_eq_true, ↓if_true, ↓if_false, Int.natCast_add, Int.cast_ofNat_Int, Bool.not_eq_true', decide_eq_false_iff_not, not_true_eq_false, not_false_eq_true]
  · simp only [bitsN_len]
    rw [grd_ok (show Sp.wn w ≤ LEN by rw [lenVal]; omega), callB_some, wd_word hw, ← low_nat]
    have e : a * Sp.pw (k : Int).toNat = ((2 ^ k * a.toNat : Nat) : Int) := by
      rw [hm, Int.toNat_natCast, Int.toNat_natCast, Nat.mul_comm]
      unfold Sp.pw
      exact (Int.natCast_mul _ _).symm
    rw [e]
def c110 : Ctr Try.prog := mkCtr 110 Try.f110 Try.func110 [c76, c79] ann110 [(0, (.i .i64)), (1, (.i .u64)), (2, (.i .i64))] [] (.i .u64) [] (fun x _ => grd (okB (U64 x.2.1 ∧ 0 ≤ x.2.2.1 ∧ x.2.2.1 ≤ 64)) (some (Sp.low x.1 (x.2.1 * Sp.pw x.2.2.1.toNat), ()))) (fun x _ r h => FO (run110 x.1 x.2.1 x.2.2.1) (ok110 x.1 x.2.1 x.2.2.1) h)
def Sp.shrF (w a n fill : Int) : Int := if fill = 1 then Sp.pw (Sp.wn w) - Sp.pw (Sp.wn w - n.toNat) + Sp.low w a / Sp.pw n.toNat else Sp.low w a / Sp.pw n.toNat
theorem shr_word (W m k : Nat) (hk : k ≤ W) (f : Bool) : ∃ Y : Nat, Y < 2 ^ W ∧ (Y : Int) = (if f = true then Sp.pw W - Sp.pw (W - k) + ((m % 2 ^ W / 2 ^ k : Nat) : Int) else ((m % 2 ^ W / 2 ^ k : Nat) : Int)) ∧ ∀ i, i < W → Y.testBit i = if i + k < W then m.testBit (i + k) else f := by
  have hlt : m % 2 ^ W < 2 ^ W := Nat.mod_lt _ (Nat.two_pow_pos W)
  have hp : 2 ^ W = 2 ^ (W - k) * 2 ^ k := by rw [← Nat.pow_add]; congr 1; omega
  have hq : m % 2 ^ W / 2 ^ k < 2 ^ (W - k) := by rw [Nat.div_lt_iff_lt_mul (Nat.two_pow_pos k), ← hp]; exact hlt
  have hbit : ∀ i, (m % 2 ^ W / 2 ^ k).testBit i = (decide (i + k < W) && m.testBit (i + k)) := fun i => by
    rw [Nat.testBit_div_two_pow, Nat.testBit_mod_two_pow]
  cases f with
  | false =>
    refine ⟨m % 2 ^ W / 2 ^ k, Nat.lt_of_le_of_lt (Nat.div_le_self _ _) hlt, by simp, fun i hi => ?_⟩
    rw [hbit]
    by_cases h : i + k < W <;> simp [h]
  | true =>
    refine ⟨2 ^ (W - k) * (2 ^ k - 1) + m % 2 ^ W / 2 ^ k, ?_, ?_, fun i hi => ?_⟩
    · have : 2 ^ (W - k) * (2 ^ k - 1) = 2 ^ W - 2 ^ (W - k) := by rw [Nat.mul_sub, ← hp, Nat.mul_one]
      have := Nat.pow_le_pow_right (show 0 < 2 by decide) (show W - k ≤ W by omega)
      generalize m % 2 ^ W / 2 ^ k = q at *
      omega
    · have e : 2 ^ (W - k) * (2 ^ k - 1) = 2 ^ W - 2 ^ (W - k) := by rw [Nat.mul_sub, ← hp, Nat.mul_one]
      have h1 := Nat.pow_le_pow_right (show 0 < 2 by decide) (show W - k ≤ W by omega)
      rw [if_pos rfl, e]
      unfold Sp.pw
      generalize m % 2 ^ W / 2 ^ k = q
      omega
    · rw [Nat.testBit_two_pow_mul_add _ hq, Nat.testBit_two_pow_sub_one]
      by_cases h : i < W - k
      · rw [if_pos h, if_pos (by omega), hbit]; simp; omega
      · rw [if_neg h, if_neg (by omega)]; simp; omega
theorem ok112 (w a n fill : Int) (h : U64 a ∧ 0 ≤ n ∧ n ≤ Sp.width w ∧ (fill = 0 ∨ fill = 1)) : go112 w a n fill = some (Sp.shrF w a n fill, ()) := by
  obtain ⟨ha, h0, h1, hf⟩ := h
  obtain ⟨k, rfl⟩ := Int.eq_ofNat_of_zero_le h0
  obtain ⟨m, hm⟩ := Int.eq_ofNat_of_zero_le ha.1
  have hw := wn_le w
  have hwe := wn_eq w
  obtain ⟨f, rfl⟩ : ∃ f : Bool, fill = Sp.bit f := by rcases hf with h | h; exact ⟨false, h⟩; exact ⟨true, h⟩
  obtain ⟨Y, hY1, hY2, hY3⟩ := shr_word (Sp.wn w) a.toNat k (by omega) f
  unfold go112 go112_l1 go112_j1
  rw [bitsL_nat ha]
  show callB (whileO _ (((k : Int), Sp.bit f, Sp.bitsN a.toNat (Sp.wn w), (), 0, ()), [], ())) _ = _
  have hl : (Sp.bitsN a.toNat (Sp.wn w)).length = Sp.wn w := bitsN_len _ _
  refine callB_of (whileO_to (st := fun i => (((k : Int), Sp.bit f, Sp.bitsN a.toNat (Sp.wn w), (), (i : Int), ()), Sp.bitsN Y i, ())) (by simp [Sp.bitsN]) (Sp.wn w) (X0 := (((), ()), Sp.bitsN Y (Sp.wn w), ())) (fun i hi => ?_) ?_) ?_
  · have hli : (Sp.bitsN Y i).length = i := bitsN_len _ _
    simp only [hl, hli]
    rw [bitsN_succ, hY3 i hi]
    by_cases hki : i + k < Sp.wn w
    · have g : (Sp.bitsN a.toNat (Sp.wn w)).getD (((i : Int) + (k : Int))).toNat 0 = Sp.bit (a.toNat.testBit (i + k)) := by
        rw [show ((i : Int) + (k : Int)).toNat = i + k by omega]; exact bitsN_get hki
      simp only [g]
      simp (maxSteps := 1000000) (disch := ((try dsimp only); omega)) only [↓grd_dec, ↓grd_blt, ↓grd_true, ↓jpO_eq, ↓callB_some, ↓callB_grd, ↓bif_decide, ↓sumO_inl, ↓sumO_inr, ↓if_pos, ↓if_neg, ↓cond_true, ↓cond_false, ↓bif_not, Int.toNat_natCast, Bool.not_true, Bool.not_false, decide_true, decide_false, Bool.false_eq_true, ↓if_true, ↓if_false, Int.natCast_add, Int.cast_ofNat_Int, Bool.not_eq_true', decide_eq_false_iff_not, not_true_eq_false, not_false_eq_true]
    · simp (maxSteps := 1000000) (disch := ((try dsimp only); omega)) only [↓grd_dec, ↓grd_blt, ↓grd_true, ↓jpO_eq, ↓callB_some, ↓callB_grd, ↓bif_decide, ↓sumO_inl, ↓sumO_inr, ↓if_pos, ↓if_neg, ↓cond_true, ↓cond_false, ↓bif_not, Int.toNat_natCast, Bool.not_true, Bool.not_false, decide_true, decide_false, Bool.false_eq_true, ↓if_true, ↓if_false, Int.natCast_add, Int.cast_ofNat_Int, Bool.not_eq_true', decide_eq_false_iff_not, not_true_eq_false, not_false_eq_true]
  · simp only [hl]
    simp (maxSteps := 1000000) (disch := ((try dsimp only); omega)) only [↓grd_dec, ↓grd_blt, ↓grd_true, ↓jpO_eq, ↓callB_some, ↓callB_grd, ↓bif_decide, ↓sumO_inl, ↓sumO_inr, ↓if_pos, ↓if_neg, ↓cond_true, ↓cond_false, ↓bif_not, Int.toNat_natCast, Bool.not_true, Bool.not_false, decide_true, decide_false, Bool.false_eq_true, ↓if_true, ↓if_false, Int.natCast_add, Int.cast_ofNat_Int, Bool.not_eq_true', decide_eq_false_iff_not, not_true_eq_false, not_false_eq_true]
  · simp only [bitsN_len]
    rw [grd_ok (show Sp.wn w ≤ LEN by rw [lenVal]; omega), callB_some, wd_word hw, Nat.mod_eq_of_lt hY1, hY2]
    unfold Sp.shrF
    have e : Sp.low w a / Sp.pw (k : Int).toNat = ((a.toNat % 2 ^ Sp.wn w / 2 ^ k : Nat) : Int) := by
      rw [hm, low_nat, Int.toNat_natCast, Int.toNat_natCast]
      unfold Sp.pw
      exact (Int.natCast_ediv _ _).symm
    rw [e, Int.toNat_natCast]
    cases f <;> rfl
def c112 : Ctr Try.prog := mkCtr 112 Try.f112 Try.func112 [c76, c79] ann112 [(0, (.i .i64)), (1, (.i .u64)), (2, (.i .i64)), (3, (.i .i64))] [] (.i .u64) [] (fun x _ => grd (okB (U64 x.2.1 ∧ 0 ≤ x.2.2.1 ∧ x.2.2.1 ≤ Sp.width x.1 ∧ (x.2.2.2.1 = 0 ∨ x.2.2.2.1 = 1))) (some (Sp.shrF x.1 x.2.1 x.2.2.1 x.2.2.2.1, ()))) (fun x _ r h => FO (run112 x.1 x.2.1 x.2.2.1 x.2.2.2.1) (ok112 x.1 x.2.1 x.2.2.1 x.2.2.2.1) h)
end
end Go.Abs


set_option linter.unusedVariables false
set_option linter.unusedSectionVars false
set_option linter.unusedSimpArgs false
set_option maxHeartbeats 1000000
namespace Go.Abs
open Go Go.Proofs
noncomputable section
def ann131 : Ann := (.seq .w (.seq .w .o))
def go131 (x0 : Int) (x1 : Int) : (Option (Int × Unit)) :=
  (some ((Sp.fit x0 (Go.IntKind.wrap Go.IntKind.u64 ((Go.IntKind.wrap Go.IntKind.u64 ((Sp.mask x0) - (Sp.fit x0 x1))) + (1 : Int)))), ()))
theorem run131 (x0 : Int) (x1 : Int) : runF (P := Try.prog) [c93, c108] Try.f131 ann131 [(0, (.i .i64)), (1, (.i .u64))] [] (.i .u64) [] (x0, (x1, ())) () = go131 x0 x1 := by kernel_rfl
def ann32 : Ann := (.seq .o (.seq .o (.seq .o (.join ⟨[(1, (.i .i64)), (9, (.fz (.int .i64))), (10, (.i .i64))], []⟩ (.seq .o (.cond .o .o)) (.seq .o (.join ⟨[(11, (.full 0))], [(.lst 3 (.int .i64))]⟩ (.seq .o (.block (.loop ⟨[(1, (.i .i64)), (9, (.fz (.int .i64))), (10, (.i .i64)), (11, (.full 0)), (12, (.i .i64))], [(.lst 3 (.int .i64))]⟩ [((.exit 0), ⟨[(11, (.full 0))], [(.lst 3 (.int .i64))]⟩)] (.join ⟨[(1, (.i .i64)), (9, (.fz (.int .i64))), (10, (.i .i64)), (11, (.full 0)), (12, (.i .i64))], [(.lst 3 (.int .i64))]⟩ (.seq .o (.cond .o .o)) (.join ⟨[(1, (.i .i64)), (9, (.fz (.int .i64))), (10, (.i .i64)), (11, (.full 0)), (12, (.i .i64))], [(.lst 3 (.int .i64))]⟩ (.block (.seq .o (.cond .o .o))) .o))))) (.seq .o .o)))))))
def go32_j2 : ((Int × ((List Int) × (Int × (Unit × (Int × Unit))))) × ((List Int) × Unit)) → Option (((Int × ((List Int) × (Int × (Unit × (Int × Unit))))) × ((List Int) × Unit)) ⊕ ((Unit × Unit) × ((List Int) × Unit))) := (fun (z1 : ((Int × ((List Int) × (Int × (Unit × (Int × Unit))))) × ((List Int) × Unit))) => (grd (okB (((-(9223372036854775808 : Int)) ≤ (z1.1.2.2.2.2.1 + (1 : Int))) ∧ ((z1.1.2.2.2.2.1 + (1 : Int)) ≤ (9223372036854775807 : Int))))
      (some (Sum.inl ((z1.1.1, (z1.1.2.1, (z1.1.2.2.1, ((), ((z1.1.2.2.2.2.1 + (1 : Int)), ()))))), (z1.2.1, ()))))))
def go32_l1 : ((Int × ((List Int) × (Int × (Unit × (Int × Unit))))) × ((List Int) × Unit)) → Option (((Int × ((List Int) × (Int × (Unit × (Int × Unit))))) × ((List Int) × Unit)) ⊕ ((Unit × Unit) × ((List Int) × Unit))) := (fun (r0 : ((Int × ((List Int) × (Int × (Unit × (Int × Unit))))) × ((List Int) × Unit))) => (bif (decide (r0.1.2.2.2.2.1 < (Sp.width r0.1.1))) then
      (jpO (go32_j2)
        (fun (j0 : (((Int × ((List Int) × (Int × (Unit × (Int × Unit))))) × ((List Int) × Unit)) → (Option (((Int × ((List Int) × (Int × (Unit × (Int × Unit))))) × ((List Int) × Unit)) ⊕ ((Unit × Unit) × ((List Int) × Unit)))))) => (bif (decide (r0.1.2.2.2.2.1 < ((r0.1.2.1.length : Nat) : Int))) then
            (grd (okB (((0 : Int) ≤ r0.1.2.2.2.2.1) ∧ (r0.1.2.2.2.2.1 < ((r0.1.2.1.length : Nat) : Int))))
              (grd (okB ((((r0.2.1.length + 1) * (8 : Nat)) ≤ (140737488355328 : Nat)) ∧ ((r0.2.1.length + 1) ≤ (281474976710656 : Nat))))
                (j0 ((r0.1.1, (r0.1.2.1, (r0.1.2.2.1, ((), (r0.1.2.2.2.2.1, ()))))), ((r0.2.1 ++ ((r0.1.2.1.getD r0.1.2.2.2.2.1.toNat (0 : Int)) :: ([] : List Int))), ())))))
            else
            (grd (okB ((((r0.2.1.length + 1) * (8 : Nat)) ≤ (140737488355328 : Nat)) ∧ ((r0.2.1.length + 1) ≤ (281474976710656 : Nat))))
              (j0 ((r0.1.1, (r0.1.2.1, (r0.1.2.2.1, ((), (r0.1.2.2.2.2.1, ()))))), ((r0.2.1 ++ (r0.1.2.2.1 :: ([] : List Int))), ())))))))
      else
      (some (Sum.inr (((), ()), (r0.2.1, ()))))))
def go32_j1 : ((Int × ((List Int) × (Int × Unit))) × Unit) → Option (Int × Unit) := (fun (z0 : ((Int × ((List Int) × (Int × Unit))) × Unit)) => (callB (whileO (go32_l1) ((z0.1.1, (z0.1.2.1, (z0.1.2.2.1, ((), ((0 : Int), ()))))), (([] : List Int), ())))
      (fun (z1 : ((Unit × Unit) × ((List Int) × Unit))) => (callB (grd (okB (z1.2.1.length ≤ LEN))
            (some ((Sp.wd z1.2.1 z1.2.1.length), ())))
          (fun (r0 : (Int × Unit)) => (some (r0.1, ())))))))
def go32 (x0 : Int) (x1 : Int) (x2 : Int) (x3 : Bool) : (Option (Int × Unit)) :=
  (jpO (go32_j1)
    (fun (j0 : (((Int × ((List Int) × (Int × Unit))) × Unit) → (Option (Int × Unit)))) => (bif x3 then
        (callB (grd (okB (U64 x2))
            (some ((Sp.neg x0 x2), ())))
          (fun (r0 : (Bool × Unit)) => (bif r0.1 then
              (j0 ((x1, ((Sp.bitsL x2 (Sp.width x0).toNat), ((1 : Int), ()))), ()))
              else
              (j0 ((x1, ((Sp.bitsL x2 (Sp.width x0).toNat), ((0 : Int), ()))), ())))))
        else
        (j0 ((x1, ((Sp.bitsL x2 (Sp.width x0).toNat), ((0 : Int), ()))), ())))))
theorem run32 (x0 : Int) (x1 : Int) (x2 : Int) (x3 : Bool) : runF (P := Try.prog) [c76, c77, c78, c79] Try.f32 ann32 [(0, (.i .i64)), (1, (.i .i64)), (2, (.i .u64)), (3, .b)] [] (.i .u64) [] (x0, (x1, (x2, (x3, ())))) () = go32 x0 x1 x2 x3 := by kernel_rfl
theorem ok131 (w x : Int) (hx : U64 x) : go131 w x = some (Sp.low w (-x), ()) := by
  have h1 := low_range w x
  unfold go131
  have e : IntKind.u64.wrap (IntKind.u64.wrap (Sp.mask w - Sp.fit w x) + 1) = IntKind.u64.wrap (Sp.mask w - Sp.low w x + 1) := by
    rw [fit_low hx, wrap64, wrap64, wrap64]; omega
  rw [e, fit_low (wrap_u64 _), low_wrap]
  congr 2
  refine low_congr ?_
  have h : Sp.pw (Sp.wn w) ∣ x - Sp.low w x := Int.dvd_self_sub_emod
  have e2 : Sp.mask w - Sp.low w x + 1 - -x = (x - Sp.low w x) + Sp.pw (Sp.wn w) := by unfold Sp.mask; omega
  rw [e2]
  exact Int.dvd_add h (Int.dvd_refl _)
def c131 : Ctr Try.prog := mkCtr 131 Try.f131 Try.func131 [c93, c108] ann131 [(0, (.i .i64)), (1, (.i .u64))] [] (.i .u64) [] (fun x _ => grd (okB (U64 x.2.1)) (some (Sp.low x.1 (-x.2.1), ()))) (fun x _ r h => FO (run131 x.1 x.2.1) (ok131 x.1 x.2.1) h)
theorem ext_word (F m : Nat) (f : Bool) : ∃ Y : Nat, (Y : Int) = (if f = true then Sp.pw F * 18446744073709551615 + ((m % 2 ^ F : Nat) : Int) else ((m % 2 ^ F : Nat) : Int)) ∧ ∀ i, i < 64 → Y.testBit i = if i < F then m.testBit i else f := by
  have hlt : m % 2 ^ F < 2 ^ F := Nat.mod_lt _ (Nat.two_pow_pos F)
  cases f with
  | false =>
    refine ⟨m % 2 ^ F, by simp, fun i hi => ?_⟩
    rw [Nat.testBit_mod_two_pow]
    by_cases h : i < F <;> simp [h]
  | true =>
    refine ⟨2 ^ F * (2 ^ 64 - 1) + m % 2 ^ F, ?_, fun i hi => ?_⟩
    · rw [if_pos rfl]
      unfold Sp.pw
      rw [Int.natCast_add, Int.natCast_mul]
      rfl
    · rw [Nat.testBit_two_pow_mul_add _ hlt, Nat.testBit_two_pow_sub_one, Nat.testBit_mod_two_pow]
      by_cases h : i < F
      · rw [if_pos h, if_pos h]; simp [h]
      · rw [if_neg h, if_neg h]; simp; omega
theorem loop32 (to_ x : Int) (F : Nat) (hF : F ≤ 64) (f : Bool) (hx : U64 x) (Y : Nat) (hY : ∀ i, i < 64 → Y.testBit i = if i < F then x.toNat.testBit i else f) :
    go32_j1 ((to_, Sp.bitsN x.toNat F, Sp.bit f, ()), ()) = some (Sp.low to_ (Y : Int), ()) := by
  have hw := wn_le to_
  have hwe := wn_eq to_
  unfold go32_j1 go32_l1 go32_j2
  have hl : (Sp.bitsN x.toNat F).length = F := bitsN_len _ _
  refine callB_of (whileO_to (st := fun i => ((to_, Sp.bitsN x.toNat F, Sp.bit f, (), (i : Int), ()), Sp.bitsN Y i, ())) (by simp [Sp.bitsN]) (Sp.wn to_) (X0 := (((), ()), Sp.bitsN Y (Sp.wn to_), ())) (fun i hi => ?_) ?_) ?_
  · have hli : (Sp.bitsN Y i).length = i := bitsN_len _ _
    simp only [hl, hli]
    rw [bitsN_succ, hY i (by omega)]
    by_cases hki : i < F
    · have g : (Sp.bitsN x.toNat F).getD ((i : Int)).toNat 0 = Sp.bit (x.toNat.testBit i) := by
        rw [Int.toNat_natCast]; exact bitsN_get hki
      simp only [g]
      simp (maxSteps := 1000000) (disch := ((try dsimp only); omega)) only [↓grd_dec, ↓grd_blt, ↓grd_true, ↓jpO_eq, ↓callB_some, ↓callB_grd, ↓bif_decide, ↓sumO_inl, ↓sumO_inr, ↓if_pos, ↓if_neg, ↓cond_true, ↓cond_false, ↓bif_not, Int.toNat_natCast, Bool.not_true, Bool.not_false, decide_true, decide_false, Bool.false_eq_true, ↓if_true, ↓if_false, Int.natCast_add, Int.cast_ofNat_Int, Bool.not_eq_true', decide_eq_false_iff_not, not_true_eq_false, not_false_eq_true]
    · simp (maxSteps := 1000000) (disch := ((try dsimp only); omega)) only [↓grd_dec, ↓grd_blt, ↓grd_true, ↓jpO_eq, ↓callB_some, ↓callB_grd, ↓bif_decide, ↓sumO_inl, ↓sumO_inr, ↓if_pos, ↓if_neg, ↓cond_true, ↓cond_false, ↓bif_not, Int.toNat_natCast, Bool.not_true, Bool.not_false, decide_true, decide_false, Bool.false_eq_true, ↓if_true, ↓if_false, Int.natCast_add, Int.cast_ofNat_Int, Bool.not_eq_true', decide_eq_false_iff_not, not_true_eq_false, not_false_eq_true]
  · simp (maxSteps := 1000000) (disch := ((try dsimp only); omega)) only [↓grd_dec, ↓grd_blt, ↓grd_true, ↓jpO_eq, ↓callB_some, ↓callB_grd, ↓bif_decide, ↓sumO_inl, ↓sumO_inr, ↓if_pos, ↓if_neg, ↓cond_true, ↓cond_false, ↓bif_not, Int.toNat_natCast, Bool.not_true, Bool.not_false, decide_true, decide_false, Bool.false_eq_true, ↓if_true, ↓if_false, Int.natCast_add, Int.cast_ofNat_Int, Bool.not_eq_true', decide_eq_false_iff_not, not_true_eq_false, not_false_eq_true]
  · simp only [bitsN_len]
    rw [grd_ok (show Sp.wn to_ ≤ LEN by rw [lenVal]; omega), callB_some, wd_word hw, ← low_nat]
theorem ok32 (from_ to_ x : Int) (sgn : Bool) (hx : U64 x) : go32 from_ to_ x sgn = some (Sp.extend from_ to_ x sgn, ()) := by
  have hF := wn_le from_
  have hT := wn_le to_
  have hxm : (x.toNat : Int) = x := Int.toNat_of_nonneg hx.1
  have hlow : Sp.low from_ x = ((x.toNat % 2 ^ Sp.wn from_ : Nat) : Int) := by rw [← low_nat, hxm]
  unfold go32
  rw [bitsL_nat hx, grd_ok hx]
  show jpO go32_j1 (fun j0 => bif sgn then (bif Sp.neg from_ x then j0 ((to_, Sp.bitsN x.toNat (Sp.wn from_), Sp.bit true, ()), ()) else j0 ((to_, Sp.bitsN x.toNat (Sp.wn from_), Sp.bit false, ()), ())) else j0 ((to_, Sp.bitsN x.toNat (Sp.wn from_), Sp.bit false, ()), ())) = _
  obtain ⟨Y0, y1, y2⟩ := ext_word (Sp.wn from_) x.toNat false
  obtain ⟨Y1, z1, z2⟩ := ext_word (Sp.wn from_) x.toNat true
  rw [jpO_eq, loop32 to_ x _ hF false hx Y0 y2, loop32 to_ x _ hF true hx Y1 z2, y1, z1]
  simp only [Bool.false_eq_true, if_false, if_true]
  rw [← hlow]
  unfold Sp.extend
  rw [sg_neg]
  have e : Sp.low to_ (Sp.pw (Sp.wn from_) * 18446744073709551615 + Sp.low from_ x) = Sp.low to_ (Sp.low from_ x - Sp.pw (Sp.wn from_)) := low_congr (by
    have h := pw_add (Sp.wn to_) (64 - Sp.wn to_)
    rw [Nat.add_sub_cancel' hT] at h
    have e64 : Sp.pw 64 = 18446744073709551616 := rfl
    have e2 : Sp.pw (Sp.wn from_) * 18446744073709551615 + Sp.low from_ x - (Sp.low from_ x - Sp.pw (Sp.wn from_)) = Sp.pw (Sp.wn from_) * Sp.pw 64 := by rw [e64]; omega
    rw [e2, h]
    exact Int.dvd_trans ⟨_, rfl⟩ (Int.dvd_mul_left _ _))
  rw [e]
  cases sgn <;> cases Sp.neg from_ x <;> rfl
def c32 : Ctr Try.prog := mkCtr 32 Try.f32 Try.func32 [c76, c77, c78, c79] ann32 [(0, (.i .i64)), (1, (.i .i64)), (2, (.i .u64)), (3, .b)] [] (.i .u64) [] (fun x _ => grd (okB (U64 x.2.2.1)) (some (Sp.extend x.1 x.2.1 x.2.2.1 x.2.2.2.1, ()))) (fun x _ r h => FO (run32 x.1 x.2.1 x.2.2.1 x.2.2.2.1) (ok32 x.1 x.2.1 x.2.2.1 x.2.2.2.1) h)
theorem bitsN_congr {x y n : Nat} (h : x % 2 ^ n = y % 2 ^ n) : Sp.bitsN x n = Sp.bitsN y n := by
  unfold Sp.bitsN
  refine List.map_congr_left fun i hi => ?_
  have hi : i < n := List.mem_range.1 hi
  have h2 : (x % 2 ^ n).testBit i = (y % 2 ^ n).testBit i := by rw [h]
  rw [Nat.testBit_mod_two_pow, Nat.testBit_mod_two_pow] at h2
  simp only [hi, decide_true, Bool.true_and] at h2
  rw [h2]
def Sp.addL (l m : List Int) (c : Int) : List Int := Sp.bitsN ((Sp.wd l l.length).toNat + (Sp.wd m m.length).toNat + c.toNat) l.length
def Sp.bitLs (l m : List Int) (c : Int) : Prop := ∃ (a b n k : Nat), l = Sp.bitsN a n ∧ m = Sp.bitsN b n ∧ c = k ∧ k ≤ 1 ∧ n ≤ 64
theorem addL_bits (a b n k : Nat) (hn : n ≤ 64) : Sp.addL (Sp.bitsN a n) (Sp.bitsN b n) k = Sp.bitsN (a + b + k) n := by
  unfold Sp.addL
  rw [bitsN_len, bitsN_len, wd_word hn, wd_word hn, Int.toNat_natCast, Int.toNat_natCast, Int.toNat_natCast]
  refine bitsN_congr ?_
  rw [Nat.add_mod, Nat.add_mod (a % 2 ^ n), Nat.mod_mod, Nat.mod_mod, ← Nat.add_mod a b, ← Nat.add_mod]
def c107 : Ctr Try.prog := mkCtr 107 Try.f107 Try.func107 [] ann107 [(0, (.fz (.int .i64))), (1, (.fz (.int .i64))), (2, (.i .i64))] [] (.fz (.int .i64)) [] (fun x _ => grd (okB (Sp.bitLs x.1 x.2.1 x.2.2.1)) (some (Sp.addL x.1 x.2.1 x.2.2.1, ())))
  (fun x _ r h => FO (run107 x.1 x.2.1 x.2.2.1) (fun ⟨a, b, n, k, e1, e2, e3, e4, e5⟩ => by rw [e1, e2, e3, addL_bits a b n k e5]; exact ok107 a b n k e4 e5) h)
theorem low_neg {w x : Int} (h : Sp.low w x ≠ 0) : Sp.low w (-x) = Sp.pw (Sp.wn w) - Sp.low w x := by
  have h1 := low_range w x
  have h2 : Sp.low w (-x) = Sp.low w (Sp.pw (Sp.wn w) - Sp.low w x) := low_congr (by
    have h : Sp.pw (Sp.wn w) ∣ x - Sp.low w x := Int.dvd_self_sub_emod
    have e : -x - (Sp.pw (Sp.wn w) - Sp.low w x) = -((x - Sp.low w x) + Sp.pw (Sp.wn w)) := by omega
    rw [e]
    exact Int.dvd_neg.2 (Int.dvd_add h (Int.dvd_refl _)))
  rw [h2]
  exact Int.emod_eq_of_lt (by omega) (by omega)
end
end Go.Abs


set_option linter.unusedVariables false
set_option linter.unusedSectionVars false
set_option linter.unusedSimpArgs false
set_option maxHeartbeats 1000000
namespace Go.Abs
open Go Go.Proofs
noncomputable section
def ann114 : Ann := (.seq .w (.join ⟨[(0, (.i .i64)), (1, (.i .u64))], []⟩ (.seq .w (.cond (.seq .w .o) .o)) (.seq .w .o)))
def go114 (x0 : Int) (x1 : Int) : (Option (Int × Unit)) :=
  (callB (grd (okB (U64 x1))
      (some ((Sp.neg x0 x1), ())))
    (fun (r0 : (Bool × Unit)) => (bif r0.1 then
        (callB (grd (okB (U64 x1))
            (some ((Sp.low x0 (-x1)), ())))
          (fun (r1 : (Int × Unit)) => (grd (okB (((-(9223372036854775808 : Int)) ≤ ((0 : Int) - (Go.IntKind.wrap Go.IntKind.i64 (Go.IntKind.wrap Go.IntKind.u64 (r1.1 - (1 : Int)))))) ∧ (((0 : Int) - (Go.IntKind.wrap Go.IntKind.i64 (Go.IntKind.wrap Go.IntKind.u64 (r1.1 - (1 : Int))))) ≤ (9223372036854775807 : Int))))
              (some ((Go.IntKind.wrap Go.IntKind.i64 (((0 : Int) - (Go.IntKind.wrap Go.IntKind.i64 (Go.IntKind.wrap Go.IntKind.u64 (r1.1 - (1 : Int))))) - (1 : Int))), ())))))
        else
        (some ((Go.IntKind.wrap Go.IntKind.i64 (Sp.fit x0 x1)), ())))))
theorem run114 (x0 : Int) (x1 : Int) : runF (P := Try.prog) [c77, c131, c93] Try.f114 ann114 [(0, (.i .i64)), (1, (.i .u64))] [] (.i .i64) [] (x0, (x1, ())) () = go114 x0 x1 := by kernel_rfl
def ann132 : Ann := (.seq .o (.join ⟨[(0, (.i .i64)), (1, (.i .u64))], []⟩ (.seq .o (.cond (.seq .o .o) .o)) (.seq .o .o)))
def go132 (x0 : Int) (x1 : Int) : (Option (Int × Unit)) :=
  (callB (grd (okB (U64 x1))
      (some ((Sp.neg x0 x1), ())))
    (fun (r0 : (Bool × Unit)) => (bif r0.1 then
        (callB (grd (okB (U64 x1))
            (some ((Sp.low x0 (-x1)), ())))
          (fun (r1 : (Int × Unit)) => (some (r1.1, ()))))
        else
        (some ((Sp.fit x0 x1), ())))))
theorem run132 (x0 : Int) (x1 : Int) : runF (P := Try.prog) [c77, c131, c93] Try.f132 ann132 [(0, (.i .i64)), (1, (.i .u64))] [] (.i .u64) [] (x0, (x1, ())) () = go132 x0 x1 := by kernel_rfl
def ann109 : Ann := (.seq .o (.seq .o (.seq .o (.join ⟨[(8, (.i .u64))], []⟩ (.seq .o (.block (.loop ⟨[(0, (.i .i64)), (1, (.i .u64)), (7, (.fz (.int .i64))), (8, (.i .u64)), (9, (.i .i64))], []⟩ [((.exit 0), ⟨[(8, (.i .u64))], []⟩)] (.join ⟨[(0, (.i .i64)), (1, (.i .u64)), (7, (.fz (.int .i64))), (8, (.i .u64)), (9, (.i .i64))], []⟩ (.seq .o (.cond .o .o)) (.join ⟨[(0, (.i .i64)), (1, (.i .u64)), (7, (.fz (.int .i64))), (8, (.i .u64)), (9, (.i .i64))], []⟩ (.block (.join ⟨[(0, (.i .i64)), (1, (.i .u64)), (7, (.fz (.int .i64))), (8, (.i .u64)), (9, (.i .i64))], []⟩ (.seq .o (.cond .o .o)) .o)) .o))))) (.seq .o .o)))))
def go109_j1 : ((Int × (Int × ((List Int) × (Int × (Int × Unit))))) × Unit) → Option (((Int × (Int × ((List Int) × (Int × (Int × Unit))))) × Unit) ⊕ ((Int × Unit) × Unit)) := (fun (z0 : ((Int × (Int × ((List Int) × (Int × (Int × Unit))))) × Unit)) => (callB (grd (okB ((U64 z0.1.2.1) ∧ (((0 : Int) ≤ (1 : Int)) ∧ ((1 : Int) ≤ (64 : Int)))))
        (some ((Sp.low z0.1.1 (z0.1.2.1 * (Sp.pw (1 : Int).toNat))), ())))
      (fun (r1 : (Int × Unit)) => (grd (okB (((-(9223372036854775808 : Int)) ≤ (z0.1.2.2.2.2.1 + (1 : Int))) ∧ ((z0.1.2.2.2.2.1 + (1 : Int)) ≤ (9223372036854775807 : Int))))
          (some (Sum.inl ((z0.1.1, (r1.1, (z0.1.2.2.1, (z0.1.2.2.2.1, ((z0.1.2.2.2.2.1 + (1 : Int)), ()))))), ())))))))
def go109_l1 : ((Int × (Int × ((List Int) × (Int × (Int × Unit))))) × Unit) → Option (((Int × (Int × ((List Int) × (Int × (Int × Unit))))) × Unit) ⊕ ((Int × Unit) × Unit)) := (fun (r0 : ((Int × (Int × ((List Int) × (Int × (Int × Unit))))) × Unit)) => (bif (decide (r0.1.2.2.2.2.1 < ((r0.1.2.2.1.length : Nat) : Int))) then
      (jpO (go109_j1)
        (fun (j0 : (((Int × (Int × ((List Int) × (Int × (Int × Unit))))) × Unit) → (Option (((Int × (Int × ((List Int) × (Int × (Int × Unit))))) × Unit) ⊕ ((Int × Unit) × Unit))))) => (grd (okB (((0 : Int) ≤ r0.1.2.2.2.2.1) ∧ (r0.1.2.2.2.2.1 < ((r0.1.2.2.1.length : Nat) : Int))))
            (bif (decide ((r0.1.2.2.1.getD r0.1.2.2.2.2.1.toNat (0 : Int)) = (1 : Int))) then
              (callB (grd (okB (Sp.bitLs (Sp.bitsL r0.1.2.2.2.1 (Sp.width r0.1.1).toNat) (Sp.bitsL r0.1.2.1 (Sp.width r0.1.1).toNat) (0 : Int)))
                  (some ((Sp.addL (Sp.bitsL r0.1.2.2.2.1 (Sp.width r0.1.1).toNat) (Sp.bitsL r0.1.2.1 (Sp.width r0.1.1).toNat) (0 : Int)), ())))
                (fun (r1 : ((List Int) × Unit)) => (callB (grd (okB (r1.1.length ≤ LEN))
                      (some ((Sp.wd r1.1 r1.1.length), ())))
                    (fun (r2 : (Int × Unit)) => (j0 ((r0.1.1, (r0.1.2.1, (r0.1.2.2.1, (r2.1, (r0.1.2.2.2.2.1, ()))))), ()))))))
              else
              (j0 ((r0.1.1, (r0.1.2.1, (r0.1.2.2.1, (r0.1.2.2.2.1, (r0.1.2.2.2.2.1, ()))))), ()))))))
      else
      (some (Sum.inr ((r0.1.2.2.2.1, ()), ())))))
def go109 (x0 : Int) (x1 : Int) (x2 : Int) : (Option (Int × Unit)) :=
  (callB (whileO (go109_l1) ((x0, (x1, ((Sp.bitsL x2 (Sp.width x0).toNat), ((0 : Int), ((0 : Int), ()))))), ()))
    (fun (z0 : ((Int × Unit) × Unit)) => (some (z0.1.1, ()))))
theorem run109 (x0 : Int) (x1 : Int) (x2 : Int) : runF (P := Try.prog) [c76, c79, c107, c110] Try.f109 ann109 [(0, (.i .i64)), (1, (.i .u64)), (2, (.i .u64))] [] (.i .u64) [] (x0, (x1, (x2, ()))) () = go109 x0 x1 x2 := by kernel_rfl
theorem neg_low0 {w x : Int} (h : Sp.neg w x = true) : Sp.low w x ≠ 0 ∧ Sp.pw (Sp.wn w) ≤ 2 * Sp.low w x := by
  have h := of_decide_eq_true h
  have := pw_pos (Sp.wn w)
  exact ⟨by omega, h.1⟩
theorem neg_low1 {w x : Int} (h : Sp.neg w x = false) : 2 * Sp.low w x < 18446744073709551616 := by
  have h := of_decide_eq_false h
  have h1 := low_range w x
  have h2 := pw_le (wn_le w)
  by_cases h0 : Sp.wn w = 0
  · rw [h0] at h1; simp [Sp.pw] at h1; omega
  · have : ¬ Sp.pw (Sp.wn w) ≤ 2 * Sp.low w x := fun e => h ⟨e, h0⟩
    omega
theorem ok114 (w x : Int) (hx : U64 x) : go114 w x = some (Sp.sg w x, ()) := by
  have h1 := low_range w x
  have h2 := pw_le (wn_le w)
  unfold go114
  rw [grd_ok hx, callB_some, grd_ok hx, callB_some, sg_neg, fit_low hx]
  cases hn : Sp.neg w x with
  | true =>
    obtain ⟨h3, h4⟩ := neg_low0 hn
    simp only [cond_true]
    rw [low_neg h3]
    generalize Sp.low w x = y at *
    generalize Sp.pw (Sp.wn w) = p at *
    have e : IntKind.i64.wrap (IntKind.u64.wrap (p - y - 1)) = p - y - 1 := by rw [wrap64, IntKind.wrap_i64]; omega
    rw [e, grd_ok (by omega)]
    have e2 : IntKind.i64.wrap (0 - (p - y - 1) - 1) = y - p := by rw [IntKind.wrap_i64]; omega
    rw [e2]
  | false =>
    have h3 := neg_low1 hn
    simp only [cond_false]
    have e : IntKind.i64.wrap (Sp.low w x) = Sp.low w x := by rw [IntKind.wrap_i64]; omega
    rw [e]
def c114 : Ctr Try.prog := mkCtr 114 Try.f114 Try.func114 [c77, c131, c93] ann114 [(0, (.i .i64)), (1, (.i .u64))] [] (.i .i64) [] (fun x _ => grd (okB (U64 x.2.1)) (some (Sp.sg x.1 x.2.1, ()))) (fun x _ r h => FO (run114 x.1 x.2.1) (ok114 x.1 x.2.1) h)
def Sp.mag (w x : Int) : Int := ((Sp.sg w x).natAbs : Int)
theorem mag_eq (w x : Int) : Sp.mag w x = if Sp.neg w x = true then Sp.low w (-x) else Sp.low w x := by
  have h1 := low_range w x
  unfold Sp.mag
  rw [sg_neg]
  cases hn : Sp.neg w x with
  | true =>
    obtain ⟨h3, h4⟩ := neg_low0 hn
    simp only [cond_true, if_true]
    rw [low_neg h3]
    generalize Sp.low w x = y at *
    generalize Sp.pw (Sp.wn w) = p at *
    omega
  | false =>
    simp only [cond_false, Bool.false_eq_true, if_false]
    omega
theorem ok132 (w x : Int) (hx : U64 x) : go132 w x = some (Sp.mag w x, ()) := by
  unfold go132
  rw [grd_ok hx, callB_some, grd_ok hx, callB_some, fit_low hx, mag_eq]
  cases Sp.neg w x <;> rfl
def c132 : Ctr Try.prog := mkCtr 132 Try.f132 Try.func132 [c77, c131, c93] ann132 [(0, (.i .i64)), (1, (.i .u64))] [] (.i .u64) [] (fun x _ => grd (okB (U64 x.2.1)) (some (Sp.mag x.1 x.2.1, ()))) (fun x _ r h => FO (run132 x.1 x.2.1) (ok132 x.1 x.2.1) h)
def Sp.mulA (W m i : Nat) : Nat := if i = 0 then m else m * 2 ^ i % 2 ^ W
theorem mulA_mod (W m i : Nat) : Sp.mulA W m i % 2 ^ W = m * 2 ^ i % 2 ^ W := by
  unfold Sp.mulA
  split
  · rename_i h; rw [h]; simp
  · exact Nat.mod_mod _ _
theorem mulA_succ (W m i : Nat) : Sp.mulA W m i * 2 % 2 ^ W = Sp.mulA W m (i + 1) := by
  have h := mulA_mod W m i
  have e : Sp.mulA W m (i + 1) = m * 2 ^ (i + 1) % 2 ^ W := by unfold Sp.mulA; rw [if_neg (by omega)]
  rw [e, Nat.mul_mod, h, ← Nat.mul_mod, Nat.pow_succ, Nat.mul_assoc]
theorem mul_step (W m k i : Nat) : m * (k % 2 ^ (i + 1)) % 2 ^ W = if k.testBit i = true then (m * (k % 2 ^ i) % 2 ^ W + Sp.mulA W m i) % 2 ^ W else m * (k % 2 ^ i) % 2 ^ W := by
  have hb := Nat.mod_mul (x := k) (a := 2 ^ i) (b := 2)
  rw [← Nat.pow_succ] at hb
  rw [hb, Nat.testBit_eq_decide_div_mod_eq]
  rcases Nat.mod_two_eq_zero_or_one (k / 2 ^ i) with h | h
  · rw [h]; simp
  · rw [h, Nat.mul_one, Nat.mul_add, if_pos (by simp), Nat.add_mod (m * (k % 2 ^ i) % 2 ^ W), Nat.mod_mod, mulA_mod, ← Nat.add_mod]
theorem ok109 (w a b : Int) (h : U64 a ∧ U64 b) : go109 w a b = some (Sp.low w (a * b), ()) := by
  obtain ⟨ha, hb⟩ := h
  obtain ⟨m, hm⟩ := Int.eq_ofNat_of_zero_le ha.1
  obtain ⟨k, hk⟩ := Int.eq_ofNat_of_zero_le hb.1
  have hw := wn_le w
  have hwe := wn_eq w
  have hW : 2 ^ Sp.wn w ≤ 2 ^ 64 := Nat.pow_le_pow_right (by decide) hw
  have hA : ∀ i, U64 (Sp.mulA (Sp.wn w) m i : Int) := fun i => by
    unfold Sp.mulA
    split
    · rw [← hm]; exact ha
    · have := Nat.mod_lt (m * 2 ^ i) (Nat.two_pow_pos (Sp.wn w))
      generalize m * 2 ^ i % 2 ^ Sp.wn w = q at *
      exact ⟨by omega, by omega⟩
  have hO : ∀ i, U64 ((m * (k % 2 ^ i) % 2 ^ Sp.wn w : Nat) : Int) := fun i => by
    have := Nat.mod_lt (m * (k % 2 ^ i)) (Nat.two_pow_pos (Sp.wn w))
    generalize m * (k % 2 ^ i) % 2 ^ Sp.wn w = q at *
    exact ⟨by omega, by omega⟩
  unfold go109 go109_l1
  rw [bitsL_nat hb]
  show callB (whileO _ ((w, a, Sp.bitsN b.toNat (Sp.wn w), 0, 0, ()), ())) _ = _
  have e0 : b.toNat = k := by rw [hk]; rfl
  rw [e0]
  have hl : (Sp.bitsN k (Sp.wn w)).length = Sp.wn w := bitsN_len _ _
  refine callB_of (whileO_to (st := fun i => ((w, (Sp.mulA (Sp.wn w) m i : Int), Sp.bitsN k (Sp.wn w), ((m * (k % 2 ^ i) % 2 ^ Sp.wn w : Nat) : Int), (i : Int), ()), ())) (by simp [Sp.mulA, hm, Nat.mod_one]) (Sp.wn w) (X0 := ((((m * (k % 2 ^ Sp.wn w) % 2 ^ Sp.wn w : Nat) : Int), ()), ())) (fun i hi => ?_) ?_) ?_
  · have hAi := hA i
    have hOi := hO i
    have g : (Sp.bitsN k (Sp.wn w)).getD ((i : Int)).toNat 0 = Sp.bit (k.testBit i) := by rw [Int.toNat_natCast]; exact bitsN_get hi
    have j1 : ∀ o : Int, go109_j1 ((w, (Sp.mulA (Sp.wn w) m i : Int), Sp.bitsN k (Sp.wn w), o, (i : Int), ()), ()) = some (.inl ((w, (Sp.mulA (Sp.wn w) m (i + 1) : Int), Sp.bitsN k (Sp.wn w), o, ((i + 1 : Nat) : Int), ()), ())) := fun o => by
      unfold go109_j1
      rw [grd_ok ⟨hAi, by decide, by decide⟩, callB_some]
      have e : Sp.low w ((Sp.mulA (Sp.wn w) m i : Int) * Sp.pw (1 : Int).toNat) = (Sp.mulA (Sp.wn w) m (i + 1) : Int) := by
        rw [show Sp.pw (1 : Int).toNat = ((2 : Nat) : Int) from rfl, ← Int.natCast_mul, low_nat, mulA_succ]
      rw [e]
      simp (maxSteps := 1000000) (disch := ((try dsimp only); omega)) only [↓grd_dec, ↓grd_blt, ↓grd_true, ↓jpO_eq, ↓callB_some, ↓callB_grd, ↓bif_decide, ↓sumO_inl, ↓sumO_inr, ↓if_pos, ↓if_neg, ↓cond_true, ↓cond_false, ↓bif_not, Int.toNat_natCast, Bool.not_true, Bool.not_false, decide_true, decide_false, Bool.false_eq_true, ↓if_true, ↓if_false, Int.natCast_add, Int.cast_ofNat_Int, Bool.not_eq_true', decide_eq_false_iff_not, not_true_eq_false, not_false_eq_true]
    have ea := bitsL_nat hAi (Sp.wn w)
    have eo := bitsL_nat hOi (Sp.wn w)
    rw [Int.toNat_natCast] at ea eo
    have e1 : Sp.bitsL ((m * (k % 2 ^ i) % 2 ^ Sp.wn w : Nat) : Int) (Sp.width w).toNat = Sp.bitsN (m * (k % 2 ^ i) % 2 ^ Sp.wn w) (Sp.wn w) := eo
    have e2 : Sp.bitsL (Sp.mulA (Sp.wn w) m i : Int) (Sp.width w).toNat = Sp.bitsN (Sp.mulA (Sp.wn w) m i) (Sp.wn w) := ea
    simp only [e1, e2, g, hl]
    have ad := addL_bits (m * (k % 2 ^ i) % 2 ^ Sp.wn w) (Sp.mulA (Sp.wn w) m i) (Sp.wn w) 0 hw
    have ad : Sp.addL (Sp.bitsN (m * (k % 2 ^ i) % 2 ^ Sp.wn w) (Sp.wn w)) (Sp.bitsN (Sp.mulA (Sp.wn w) m i) (Sp.wn w)) 0 = Sp.bitsN (m * (k % 2 ^ i) % 2 ^ Sp.wn w + Sp.mulA (Sp.wn w) m i) (Sp.wn w) := ad
    have hbl : Sp.bitLs (Sp.bitsN (m * (k % 2 ^ i) % 2 ^ Sp.wn w) (Sp.wn w)) (Sp.bitsN (Sp.mulA (Sp.wn w) m i) (Sp.wn w)) 0 := ⟨_, _, _, 0, rfl, rfl, rfl, by decide, hw⟩
    rw [ad, grd_ok hbl]
    simp only [callB_some, bitsN_len, grd_ok (show Sp.wn w ≤ LEN by rw [lenVal]; omega), wd_word hw, jpO_eq, j1, bif_decide]
    rw [if_pos (by omega), grd_ok (by omega)]
    rw [mul_step]
    cases k.testBit i with
    | true => rfl
    | false => rfl
  · simp only [hl]
    simp (maxSteps := 1000000) (disch := ((try dsimp only); omega)) only [↓grd_dec, ↓grd_blt, ↓grd_true, ↓jpO_eq, ↓callB_some, ↓callB_grd, ↓bif_decide, ↓sumO_inl, ↓sumO_inr, ↓if_pos, ↓if_neg, ↓cond_true, ↓cond_false, ↓bif_not, Int.toNat_natCast, Bool.not_true, Bool.not_false, decide_true, decide_false, Bool.false_eq_true, ↓if_true, ↓if_false, Int.natCast_add, Int.cast_ofNat_Int, Bool.not_eq_true', decide_eq_false_iff_not, not_true_eq_false, not_false_eq_true]
  · congr 2
    have e : a * b = ((m * k : Nat) : Int) := by rw [hm, hk]; exact (Int.natCast_mul _ _).symm
    rw [e, low_nat]
    congr 1
    rw [Nat.mul_mod, Nat.mod_mod, ← Nat.mul_mod]
def c109 : Ctr Try.prog := mkCtr 109 Try.f109 Try.func109 [c76, c79, c107, c110] ann109 [(0, (.i .i64)), (1, (.i .u64)), (2, (.i .u64))] [] (.i .u64) [] (fun x _ => grd (okB (U64 x.2.1 ∧ U64 x.2.2.1)) (some (Sp.low x.1 (x.2.1 * x.2.2.1), ()))) (fun x _ r h => FO (run109 x.1 x.2.1 x.2.2.1) (ok109 x.1 x.2.1 x.2.2.1) h)
end
end Go.Abs


set_option linter.unusedVariables false
set_option linter.unusedSectionVars false
set_option linter.unusedSimpArgs false
set_option maxHeartbeats 1000000
namespace Go.Abs
open Go Go.Proofs
noncomputable section
def ann115 : Ann := (.seq .w (.join ⟨[(0, (.i .i64)), (1, (.i .u64)), (2, (.i .u64))], []⟩ (.seq .w (.cond (.seq .w .o) .o)) (.seq .w (.seq .w (.join ⟨[(0, (.i .i64)), (1, (.i .u64)), (8, (.i .u64)), (9, (.i .u64))], []⟩ (.seq .w (.cond .w .o)) (.join ⟨[(0, (.i .i64)), (8, (.i .u64)), (9, (.i .u64))], []⟩ (.seq .w (.cond .w .o)) (.seq .o .o)))))))
def go115_j1 : ((Int × (Int × (Int × (Int × Unit)))) × Unit) → Option ((Int × (Int × Unit)) × Unit) := (fun (z0 : ((Int × (Int × (Int × (Int × Unit)))) × Unit)) => (callB (grd (okB (U64 z0.1.2.1))
        (some ((Sp.neg z0.1.1 z0.1.2.1), ())))
      (fun (r4 : (Bool × Unit)) => (bif r4.1 then
          (callB (grd (okB (U64 z0.1.2.2.2.1))
              (some ((Sp.low z0.1.1 (-z0.1.2.2.2.1)), ())))
            (fun (r5 : (Int × Unit)) => (some (((Sp.fit z0.1.1 z0.1.2.2.1), ((Sp.fit z0.1.1 r5.1), ())), ()))))
          else
          (some (((Sp.fit z0.1.1 z0.1.2.2.1), ((Sp.fit z0.1.1 z0.1.2.2.2.1), ())), ()))))))
def go115 (x0 : Int) (x1 : Int) (x2 : Int) : (Option ((Int × (Int × Unit)) × Unit)) :=
  (bif (decide (x2 = (0 : Int))) then
    (some (((Sp.mask x0), (x1, ())), ()))
    else
    (callB (grd (okB (U64 x1))
        (some ((Sp.mag x0 x1), ())))
      (fun (r0 : (Int × Unit)) => (callB (grd (okB (U64 x2))
            (some ((Sp.mag x0 x2), ())))
          (fun (r1 : (Int × Unit)) => (grd (!(decide (r1.1 = (0 : Int))))
              (callB (grd (okB (U64 x1))
                  (some ((Sp.mag x0 x1), ())))
                (fun (r2 : (Int × Unit)) => (callB (grd (okB (U64 x2))
                      (some ((Sp.mag x0 x2), ())))
                    (fun (r3 : (Int × Unit)) => (jpO (go115_j1)
                        (fun (j0 : (((Int × (Int × (Int × (Int × Unit)))) × Unit) → (Option ((Int × (Int × Unit)) × Unit)))) => (callB (grd (okB (U64 x1))
                              (some ((Sp.neg x0 x1), ())))
                            (fun (r4 : (Bool × Unit)) => (callB (grd (okB (U64 x2))
                                  (some ((Sp.neg x0 x2), ())))
                                (fun (r5 : (Bool × Unit)) => (bif (!(r4.1 == r5.1)) then
                                    (callB (grd (okB (U64 (Go.IntKind.wrap Go.IntKind.u64 (Int.tdiv r0.1 r1.1))))
                                        (some ((Sp.low x0 (-(Go.IntKind.wrap Go.IntKind.u64 (Int.tdiv r0.1 r1.1)))), ())))
                                      (fun (r6 : (Int × Unit)) => (j0 ((x0, (x1, (r6.1, ((Go.IntKind.wrap Go.IntKind.u64 (r2.1 - (Go.IntKind.wrap Go.IntKind.u64 ((Go.IntKind.wrap Go.IntKind.u64 (Int.tdiv r0.1 r1.1)) * r3.1)))), ())))), ()))))
                                    else
                                    (j0 ((x0, (x1, ((Go.IntKind.wrap Go.IntKind.u64 (Int.tdiv r0.1 r1.1)), ((Go.IntKind.wrap Go.IntKind.u64 (r2.1 - (Go.IntKind.wrap Go.IntKind.u64 ((Go.IntKind.wrap Go.IntKind.u64 (Int.tdiv r0.1 r1.1)) * r3.1)))), ())))), ())))))))))))))))))))
theorem run115 (x0 : Int) (x1 : Int) (x2 : Int) : runF (P := Try.prog) [c77, c93, c108, c131, c132] Try.f115 ann115 [(0, (.i .i64)), (1, (.i .u64)), (2, (.i .u64))] [] (.tup [(.i .u64), (.i .u64)]) [] (x0, (x1, (x2, ()))) () = go115 x0 x1 x2 := by kernel_rfl
theorem sg_sign (w x : Int) : Sp.sg w x = if Sp.neg w x = true then -(Sp.mag w x) else Sp.mag w x := by
  have h1 := low_range w x
  unfold Sp.mag
  rw [sg_neg]
  cases hn : Sp.neg w x with
  | true =>
    simp only [cond_true, if_true]
    generalize Sp.low w x = y at *
    generalize Sp.pw (Sp.wn w) = p at *
    omega
  | false =>
    simp only [cond_false, Bool.false_eq_true, if_false]
    omega
theorem mag_range (w x : Int) : 0 ≤ Sp.mag w x ∧ Sp.mag w x ≤ 9223372036854775808 := by
  have := sg_range w x
  unfold Sp.mag
  omega
theorem mag_zero {w x : Int} (h : Sp.low w x = x) : Sp.mag w x = 0 ↔ x = 0 := by
  have h1 := low_range w x
  rw [mag_eq]
  cases hn : Sp.neg w x with
  | true =>
    obtain ⟨h3, h4⟩ := neg_low0 hn
    simp only [if_true]
    rw [low_neg h3]
    rw [h] at *
    omega
  | false =>
    simp only [Bool.false_eq_true, if_false]
    rw [h]
theorem sdiv_sign (A B : Int) (hA : 0 ≤ A) (hB : 0 ≤ B) (s t : Bool) : (if s = true then -A else A).tdiv (if t = true then -B else B) = (if (!(s == t)) = true then -(A / B) else A / B) ∧
    (if s = true then -A else A).tmod (if t = true then -B else B) = (if s = true then -(A % B) else A % B) := by
  have e1 : A.tdiv B = A / B := Int.tdiv_eq_ediv_of_nonneg hA
  have e2 : A.tmod B = A % B := Int.tmod_eq_emod_of_nonneg hA
  cases s <;> cases t <;> simp [Int.neg_tdiv, Int.tdiv_neg, Int.neg_tmod, Int.tmod_neg, e1, e2]
theorem ok115 (w a b : Int) (h : U64 a ∧ U64 b ∧ Sp.low w b = b) : go115 w a b = some ((Sp.sq w a b, Sp.sr w a b, ()), ()) := by
  obtain ⟨ha, hb, hlb⟩ := h
  have hA := mag_range w a
  have hB := mag_range w b
  unfold go115 Sp.sq Sp.sr
  have hz : Sp.sg w b = 0 ↔ b = 0 := by
    rw [← mag_zero hlb]; unfold Sp.mag; omega
  by_cases h0 : b = 0
  · rw [if_pos (hz.2 h0), if_pos (hz.2 h0)]; simp [h0]
  · have hB0 : Sp.mag w b ≠ 0 := fun e => h0 ((mag_zero hlb).1 e)
    rw [if_neg (fun e => h0 (hz.1 e)), if_neg (fun e => h0 (hz.1 e))]
    have hne : (!decide (Sp.mag w b = 0)) = true := by simp [hB0]
    have hq : IntKind.u64.wrap ((Sp.mag w a).tdiv (Sp.mag w b)) = Sp.mag w a / Sp.mag w b := by
      rw [Int.tdiv_eq_ediv_of_nonneg hA.1, wrap64]
      have := Int.ediv_nonneg hA.1 hB.1
      have := Int.ediv_le_self (Sp.mag w b) hA.1
      omega
    have hr : IntKind.u64.wrap (Sp.mag w a - IntKind.u64.wrap (Sp.mag w a / Sp.mag w b * Sp.mag w b)) = Sp.mag w a % Sp.mag w b := by
      have e := Int.emod_add_mul_ediv (Sp.mag w a) (Sp.mag w b)
      have e1 := Int.emod_nonneg (Sp.mag w a) hB0
      have e2 : 0 ≤ Sp.mag w a / Sp.mag w b * Sp.mag w b := Int.mul_nonneg (Int.ediv_nonneg hA.1 hB.1) hB.1
      rw [Int.mul_comm] at e
      rw [wrap64, wrap64]
      omega
    have hq64 : U64 (Sp.mag w a / Sp.mag w b) := by
      have := Int.ediv_nonneg hA.1 hB.1
      have := Int.ediv_le_self (Sp.mag w b) hA.1
      exact ⟨by omega, by omega⟩
    have hr64 : U64 (Sp.mag w a % Sp.mag w b) := by
      have := Int.emod_nonneg (Sp.mag w a) hB0
      have := Int.emod_lt_of_pos (Sp.mag w a) (show 0 < Sp.mag w b by omega)
      exact ⟨by omega, by omega⟩
    obtain ⟨d1, d2⟩ := sdiv_sign (Sp.mag w a) (Sp.mag w b) hA.1 hB.1 (Sp.neg w a) (Sp.neg w b)
    rw [← sg_sign, ← sg_sign] at d1 d2
    rw [d1, d2, decide_eq_false h0]
    have j1 : ∀ q : Int, U64 q → go115_j1 ((w, a, q, Sp.mag w a % Sp.mag w b, ()), ()) = some ((Sp.low w q, Sp.low w (if Sp.neg w a = true then -(Sp.mag w a % Sp.mag w b) else Sp.mag w a % Sp.mag w b), ()), ()) := fun q hq => by
      unfold go115_j1
      rw [grd_ok ha, grd_ok hr64, callB_some, callB_some, fit_low hq, fit_low (low_u64 _ _), fit_low hr64, low_low]
      cases Sp.neg w a <;> rfl
    simp only [cond_false, grd_ok ha, grd_ok hb, callB_some, grd_of hne, jpO_eq, hq, hr, grd_ok hq64, j1 _ hq64, j1 _ (low_u64 _ _), low_low]
    cases !(Sp.neg w a == Sp.neg w b) <;> rfl
def c115 : Ctr Try.prog := mkCtr 115 Try.f115 Try.func115 [c77, c93, c108, c131, c132] ann115 [(0, (.i .i64)), (1, (.i .u64)), (2, (.i .u64))] [] (.tup [(.i .u64), (.i .u64)]) [] (fun x _ => grd (okB (U64 x.2.1 ∧ U64 x.2.2.1 ∧ Sp.low x.1 x.2.2.1 = x.2.2.1)) (some ((Sp.sq x.1 x.2.1 x.2.2.1, Sp.sr x.1 x.2.1 x.2.2.1, ()), ()))) (fun x _ r h => FO (run115 x.1 x.2.1 x.2.2.1) (ok115 x.1 x.2.1 x.2.2.1) h)
end
end Go.Abs


set_option linter.unusedVariables false
set_option linter.unusedSectionVars false
set_option linter.unusedSimpArgs false
set_option maxHeartbeats 1000000
namespace Go.Abs
open Go Go.Proofs
noncomputable section
def ann104 : Ann := (.seq .o (.join ⟨[(0, (.i .i64)), (1, (.i .i64)), (2, (.i .u64)), (3, (.i .u64))], []⟩ (.seq .o (.block (.seq .o (.cond (.join ⟨[(2, (.i .u64)), (3, (.i .u64))], []⟩ (.seq .o (.cond (.seq .o .o) .o)) (.seq .o .o)) (.seq .o (.cond (.join ⟨[(2, (.i .u64)), (3, (.i .u64))], []⟩ (.seq .o (.cond (.seq .o .o) .o)) (.seq .o .o)) .o)))))) (.seq .o (.join ⟨[(10, (.i .u64))], []⟩ (.seq .o (.cond (.seq .o .o) .o)) (.seq .o .o)))))
def go104 (x0 : Int) (x1 : Int) (x2 : Int) (x3 : Int) : (Option (Int × Unit)) :=
  (bif (decide (x0 = (5 : Int))) then
    (bif (decide (x3 = (0 : Int))) then
      (some ((Sp.mask x1), ()))
      else
      (grd (!(decide (x3 = (0 : Int))))
        (some ((Go.IntKind.wrap Go.IntKind.u64 (Int.tdiv x2 x3)), ()))))
    else
    (bif (decide (x0 = (6 : Int))) then
      (bif (decide (x3 = (0 : Int))) then
        (some (x2, ()))
        else
        (grd (!(decide (x3 = (0 : Int))))
          (some ((Int.tmod x2 x3), ()))))
      else
      (callB (grd (okB ((U64 x2) ∧ (U64 x3)))
          (some (((Sp.sq x1 x2 x3), ((Sp.sr x1 x2 x3), ())), ())))
        (fun (r0 : ((Int × (Int × Unit)) × Unit)) => (bif (decide (x0 = (7 : Int))) then
            (some (r0.1.1, ()))
            else
            (some (r0.1.2.1, ())))))))
theorem run104 (x0 : Int) (x1 : Int) (x2 : Int) (x3 : Int) : runF (P := Try.prog) [c127, c128] Try.f104 ann104 [(0, (.i .i64)), (1, (.i .i64)), (2, (.i .u64)), (3, (.i .u64))] [] (.i .u64) [] (x0, (x1, (x2, (x3, ())))) () = go104 x0 x1 x2 x3 := by kernel_rfl
def Sp.divs (op w a b : Int) : Int :=
  if op = 5 then (if b = 0 then Sp.mask w else a / b) else if op = 6 then (if b = 0 then a else a % b)
  else if op = 7 then Sp.sq w a b else Sp.sr w a b
theorem ok104 (op w a b : Int) (h : U64 a ∧ U64 b) : go104 op w a b = some (Sp.divs op w a b, ()) := by
  obtain ⟨ha, hb⟩ := h
  unfold go104 Sp.divs
  rw [grd_ok ⟨ha, hb⟩]
  by_cases h1 : op = 5
  · by_cases h2 : b = 0
    · simp [h1, h2]
    · have e : a.tdiv b = a / b := Int.tdiv_eq_ediv_of_nonneg ha.1
      have e2 : IntKind.u64.wrap (a / b) = a / b := by
        have h3 : 0 ≤ a / b := Int.ediv_nonneg ha.1 hb.1
        have h4 : a / b ≤ a := Int.ediv_le_self _ ha.1
        have := ha.2
        rw [wrap64]; omega
      simp [h1, h2, e, e2]
  · by_cases h2 : op = 6
    · by_cases h3 : b = 0
      · simp [h2, h3]
      · have e : a.tmod b = a % b := Int.tmod_eq_emod_of_nonneg ha.1
        simp [h2, h3, e]
    · by_cases h3 : op = 7 <;> simp [h1, h2, h3]
def c104 : Ctr Try.prog := mkCtr 104 Try.f104 Try.func104 [c127, c128] ann104 [(0, (.i .i64)), (1, (.i .i64)), (2, (.i .u64)), (3, (.i .u64))] [] (.i .u64) [] (fun x _ => grd (okB (U64 x.2.2.1 ∧ U64 x.2.2.2.1)) (some (Sp.divs x.1 x.2.1 x.2.2.1 x.2.2.2.1, ()))) (fun x _ r h => FO (run104 x.1 x.2.1 x.2.2.1 x.2.2.2.1) (ok104 x.1 x.2.1 x.2.2.1 x.2.2.2.1) h)
end
end Go.Abs


set_option linter.unusedVariables false
set_option linter.unusedSectionVars false
set_option linter.unusedSimpArgs false
set_option maxHeartbeats 1000000
namespace Go.Abs
open Go Go.Proofs
noncomputable section
def ann72 : Ann := (.seq .w (.join ⟨[(0, (.i .i64)), (1, (.i .i64)), (2, (.i .u64)), (3, (.i .u64))], []⟩ (.seq .w (.cond (.seq .w .o) .o)) (.seq .w (.join ⟨[(0, (.i .i64)), (1, (.i .i64)), (2, (.i .u64)), (3, (.i .u64))], []⟩ (.seq .w (.block (.seq .w (.cond (.seq .w .o) (.seq .w (.cond (.seq .w .o) (.seq .w (.cond (.seq .w .o) (.join ⟨[(0, (.i .i64)), (1, (.i .i64)), (2, (.i .u64)), (3, (.i .u64)), (27, (.i .i64)), (49, .b)], []⟩ (.seq .w (.cond .o (.seq .w (.cond .o (.seq .w (.cond .o .w)))))) (.cond (.seq .w .o) (.seq .w (.cond (.seq .w .o) (.seq .w (.cond (.seq .w .o) (.seq .w (.cond (.seq .o .o) (.join ⟨[(0, (.i .i64)), (1, (.i .i64)), (2, (.i .u64)), (3, (.i .u64)), (74, .b)], []⟩ (.seq .o (.cond .o (.seq .o (.cond .o .o)))) (.cond (.seq .o .o) .o)))))))))))))))))) (.seq .o .o)))))
def go72_j2 : ((Int × (Int × (Int × (Int × (Bool × Unit))))) × Unit) → Option ((Int × (Int × Unit)) × Unit) := (fun (z1 : ((Int × (Int × (Int × (Int × (Bool × Unit))))) × Unit)) => (bif z1.1.2.2.2.2.1 then
      (callB (grd (okB ((U64 z1.1.2.2.1) ∧ ((U64 z1.1.2.2.2.1) ∧ (((1 : Int) ≤ z1.1.2.1) ∧ (z1.1.2.1 ≤ (64 : Int))))))
          (some ((Sp.shift z1.1.1 z1.1.2.1 z1.1.2.2.1 z1.1.2.2.2.1), ())))
        (fun (r2 : (Int × Unit)) => (some ((r2.1, ((0 : Int), ())), ()))))
      else
      (callB (grd (okB ((U64 z1.1.2.2.1) ∧ (U64 z1.1.2.2.2.1)))
          (some ((Sp.cmp z1.1.1 z1.1.2.1 z1.1.2.2.1 z1.1.2.2.2.1), ())))
        (fun (r2 : (Int × Unit)) => (some ((r2.1, ((0 : Int), ())), ()))))))
def go72_j1 : ((Int × (Int × (Int × (Int × (Int × (Bool × Unit)))))) × Unit) → Option ((Int × (Int × Unit)) × Unit) := (fun (z0 : ((Int × (Int × (Int × (Int × (Int × (Bool × Unit)))))) × Unit)) => (bif z0.1.2.2.2.2.2.1 then
      (callB (grd (okB ((U64 z0.1.2.2.1) ∧ (U64 z0.1.2.2.2.1)))
          (some ((Sp.divs z0.1.1 z0.1.2.1 z0.1.2.2.1 z0.1.2.2.2.1), ())))
        (fun (r2 : (Int × Unit)) => (some ((r2.1, ((0 : Int), ())), ()))))
      else
      (bif (decide (z0.1.2.2.2.2.1 = (9 : Int))) then
        (some (((bitOp Go.BinOp.and Go.IntKind.u64 z0.1.2.2.1 z0.1.2.2.2.1), ((0 : Int), ())), ()))
        else
        (bif (decide (z0.1.2.2.2.2.1 = (10 : Int))) then
          (some (((bitOp Go.BinOp.or Go.IntKind.u64 z0.1.2.2.1 z0.1.2.2.2.1), ((0 : Int), ())), ()))
          else
          (bif (decide (z0.1.2.2.2.2.1 = (11 : Int))) then
            (some (((bitOp Go.BinOp.xor Go.IntKind.u64 z0.1.2.2.1 z0.1.2.2.2.1), ((0 : Int), ())), ()))
            else
            (jpO (go72_j2)
              (fun (j0 : (((Int × (Int × (Int × (Int × (Bool × Unit))))) × Unit) → (Option ((Int × (Int × Unit)) × Unit)))) => (bif (decide (z0.1.2.2.2.2.1 = (12 : Int))) then
                  (j0 ((z0.1.1, (z0.1.2.1, (z0.1.2.2.1, (z0.1.2.2.2.1, (true, ()))))), ()))
                  else
                  (bif (decide (z0.1.2.2.2.2.1 = (13 : Int))) then
                    (j0 ((z0.1.1, (z0.1.2.1, (z0.1.2.2.1, (z0.1.2.2.2.1, (true, ()))))), ()))
                    else
                    (j0 ((z0.1.1, (z0.1.2.1, (z0.1.2.2.1, (z0.1.2.2.2.1, ((decide (z0.1.2.2.2.2.1 = (14 : Int))), ()))))), ())))))))))))
def go72 (x0 : Int) (x1 : Int) (x2 : Int) (x3 : Int) : (Option ((Int × (Int × Unit)) × Unit)) :=
  (bif (!(Sp.isBinary x0)) then
    (some (((0 : Int), ((1 : Int), ())), ()))
    else
    (bif (decide (x1 < (1 : Int))) then
      (some (((0 : Int), ((1 : Int), ())), ()))
      else
      (bif (decide ((64 : Int) < x1)) then
        (some (((0 : Int), ((1 : Int), ())), ()))
        else
        (callB (grd (okB (U64 x2))
            (some ((Sp.low x1 x2), ())))
          (fun (r0 : (Int × Unit)) => (callB (grd (okB (U64 x3))
                (some ((Sp.low x1 x3), ())))
              (fun (r1 : (Int × Unit)) => (bif (decide (x0 = (2 : Int))) then
                  (callB (grd (okB (U64 (Go.IntKind.wrap Go.IntKind.u64 (r0.1 + r1.1))))
                      (some ((Sp.low x1 (Go.IntKind.wrap Go.IntKind.u64 (r0.1 + r1.1))), ())))
                    (fun (r2 : (Int × Unit)) => (some ((r2.1, ((0 : Int), ())), ()))))
                  else
                  (bif (decide (x0 = (3 : Int))) then
                    (callB (grd (okB (U64 (Go.IntKind.wrap Go.IntKind.u64 (r0.1 - r1.1))))
                        (some ((Sp.low x1 (Go.IntKind.wrap Go.IntKind.u64 (r0.1 - r1.1))), ())))
                      (fun (r2 : (Int × Unit)) => (some ((r2.1, ((0 : Int), ())), ()))))
                    else
                    (bif (decide (x0 = (4 : Int))) then
                      (callB (grd (okB (U64 (Go.IntKind.wrap Go.IntKind.u64 (r0.1 * r1.1))))
                          (some ((Sp.low x1 (Go.IntKind.wrap Go.IntKind.u64 (r0.1 * r1.1))), ())))
                        (fun (r2 : (Int × Unit)) => (some ((r2.1, ((0 : Int), ())), ()))))
                      else
                      (jpO (go72_j1)
                        (fun (j0 : (((Int × (Int × (Int × (Int × (Int × (Bool × Unit)))))) × Unit) → (Option ((Int × (Int × Unit)) × Unit)))) => (bif (decide (x0 = (5 : Int))) then
                            (j0 ((x0, (x1, (r0.1, (r1.1, (x0, (true, ())))))), ()))
                            else
                            (bif (decide (x0 = (6 : Int))) then
                              (j0 ((x0, (x1, (r0.1, (r1.1, (x0, (true, ())))))), ()))
                              else
                              (bif (decide (x0 = (7 : Int))) then
                                (j0 ((x0, (x1, (r0.1, (r1.1, (x0, (true, ())))))), ()))
                                else
                                (j0 ((x0, (x1, (r0.1, (r1.1, (x0, ((decide (x0 = (8 : Int))), ())))))), ())))))))))))))))))
theorem run72 (x0 : Int) (x1 : Int) (x2 : Int) (x3 : Int) : runF (P := Try.prog) [c42, c103, c104, c105, c106] Try.f72 ann72 [(0, (.i .i64)), (1, (.i .i64)), (2, (.i .u64)), (3, (.i .u64))] [] (.tup [(.i .u64), (.i .i64)]) [] (x0, (x1, (x2, (x3, ())))) () = go72 x0 x1 x2 x3 := by kernel_rfl
def ann102 : Ann := (.seq .o (.join ⟨[(0, (.i .i64))], [(.cells 4 [.b])]⟩ (.seq .o (.cond (.seq .o .o) .o)) (.seq .o .o)))
def go102 (x0 : Int) (x1 : Int) (y0 : (Bool × Unit)) : (Option (Int × ((Bool × Unit) × Unit))) :=
  (bif y0.1 then
    (some (x1, ((y0.1, ()), ())))
    else
    (some (x0, ((y0.1, ()), ()))))
theorem run102 (x0 : Int) (x1 : Int) (y0 : (Bool × Unit)) : runF (P := Try.prog) [] Try.f102 ann102 [(0, (.i .i64)), (1, (.i .i64)), (2, (.ptr 0 0))] [(.cells 4 [.b])] (.i .i64) [(.cells 4 [.b])] (x0, (x1, ((), ()))) (y0, ()) = go102 x0 x1 y0 := by kernel_rfl
def Sp.land (a b : Int) : Int := ((a.toNat &&& b.toNat : Nat) : Int)
def Sp.lor (a b : Int) : Int := ((a.toNat ||| b.toNat : Nat) : Int)
def Sp.lxor (a b : Int) : Int := ((a.toNat ^^^ b.toNat : Nat) : Int)
def Sp.binL (op w a b : Int) : Int :=
  if op = 2 then Sp.low w (a + b) else if op = 3 then Sp.low w (a - b) else if op = 4 then Sp.low w (a * b)
  else if op = 5 ∨ op = 6 ∨ op = 7 ∨ op = 8 then Sp.divs op w a b
  else if op = 9 then Sp.land a b else if op = 10 then Sp.lor a b else if op = 11 then Sp.lxor a b
  else if op = 12 ∨ op = 13 ∨ op = 14 then Sp.shift op w a b else Sp.cmp op w a b
def Sp.bin (op w a b : Int) : Int := Sp.binL op w (Sp.low w a) (Sp.low w b)
def Sp.binR (op w a b : Int) : Int × Int × Unit := if Sp.isBinary op = true ∧ 1 ≤ w ∧ w ≤ 64 then (Sp.bin op w a b, 0, ()) else (0, 1, ())
theorem ok72 (op w a b : Int) (h : U64 a ∧ U64 b) : go72 op w a b = some (Sp.binR op w a b, ()) := by
  obtain ⟨ha, hb⟩ := h
  have la := low_u64 w a
  have lb := low_u64 w b
  unfold go72 Sp.binR
  cases h1 : Sp.isBinary op with
  | false => simp
  | true =>
    by_cases h2 : w < 1
    · rw [if_neg (by omega)]; simp [h2]
    by_cases h3 : 64 < w
    · rw [if_neg (by omega)]; simp [h2, h3]
    rw [decide_eq_false h2, decide_eq_false h3, if_pos ⟨rfl, by omega, by omega⟩, grd_ok ha, callB_some, grd_ok hb, callB_some]
    unfold Sp.bin
    generalize Sp.low w a = x at *
    generalize Sp.low w b = y at *
    have hs : U64 x ∧ U64 y ∧ 1 ≤ w ∧ w ≤ 64 := ⟨la, lb, by omega, by omega⟩
    simp only [jpO_eq, bif_decide, grd_ok (wrap_u64 _), callB_some, low_wrap, Bool.not_true, cond_false]
    unfold Sp.binL
    have j2 : ∀ t : Bool, go72_j2 ((op, w, x, y, t, ()), ()) = some ((if t = true then Sp.shift op w x y else Sp.cmp op w x y, 0, ()), ()) := fun t => by
      unfold go72_j2
      rw [grd_ok hs, grd_ok ⟨la, lb⟩]
      cases t <;> rfl
    have j1 : ∀ t : Bool, go72_j1 ((op, w, x, y, op, t, ()), ()) = some ((if t = true then Sp.divs op w x y else if op = 9 then Sp.land x y else if op = 10 then Sp.lor x y else if op = 11 then Sp.lxor x y else if op = 12 ∨ op = 13 ∨ op = 14 then Sp.shift op w x y else Sp.cmp op w x y, 0, ()), ()) := fun t => by
      unfold go72_j1
      simp only [jpO_eq, bif_decide, and_u64 la lb, or_u64 la lb, xor_u64 la lb, grd_ok (show U64 x ∧ U64 y from ⟨la, lb⟩), callB_some, j2]
      cases t
      · by_cases e9 : op = 9
        · simp [e9, Sp.land]
        by_cases e10 : op = 10
        · simp [e10, Sp.lor]
        by_cases e11 : op = 11
        · simp [e11, Sp.lxor]
        by_cases e12 : op = 12
        · simp [e12]
        by_cases e13 : op = 13
        · simp [e13]
        by_cases e14 : op = 14 <;> simp [e9, e10, e11, e12, e13, e14]
      · simp
    simp only [j1]
    by_cases e2 : op = 2
    · simp [e2]
    by_cases e3 : op = 3
    · simp [e3]
    by_cases e4 : op = 4
    · simp [e4]
    by_cases e5 : op = 5
    · simp [e5]
    by_cases e6 : op = 6
    · simp [e6]
    by_cases e7 : op = 7
    · simp [e7]
    by_cases e8 : op = 8 <;> simp [e2, e3, e4, e5, e6, e7, e8]
def c72 : Ctr Try.prog := mkCtr 72 Try.f72 Try.func72 [c42, c103, c104, c105, c106] ann72 [(0, (.i .i64)), (1, (.i .i64)), (2, (.i .u64)), (3, (.i .u64))] [] (.tup [(.i .u64), (.i .i64)]) [] (fun x _ => grd (okB (U64 x.2.2.1 ∧ U64 x.2.2.2.1)) (some (Sp.binR x.1 x.2.1 x.2.2.1 x.2.2.2.1, ()))) (fun x _ r h => FO (run72 x.1 x.2.1 x.2.2.1 x.2.2.2.1) (ok72 x.1 x.2.1 x.2.2.1 x.2.2.2.1) h)
theorem ok102 (u s : Int) (b : Bool × Unit) : go102 u s b = some (if b.1 = true then s else u, b, ()) := by
  obtain ⟨b, -⟩ := b
  unfold go102; cases b <;> rfl
def c102 : Ctr Try.prog := mkCtr 102 Try.f102 Try.func102 [] ann102 [(0, (.i .i64)), (1, (.i .i64)), (2, (.ptr 0 0))] [(.cells 4 [.b])] (.i .i64) [(.cells 4 [.b])] (fun x y => some (if y.1.1 = true then x.2.1 else x.1, y.1, ())) (fun x y r h => FE (run102 x.1 x.2.1 y.1) (ok102 x.1 x.2.1 y.1) h)
end
end Go.Abs


set_option linter.unusedVariables false
set_option linter.unusedSectionVars false
set_option linter.unusedSimpArgs false
set_option maxHeartbeats 1000000
namespace Go.Abs
open Go Go.Proofs
noncomputable section
def ann74 : Ann := (.seq .w (.seq .w (.seq .w (.seq .w (.seq .w (.join ⟨[(0, (.i .i64)), (1, (.i .i64)), (2, (.i .u64)), (3, (.i .u64)), (9, (.fz (.int .i64))), (10, (.fz (.int .i64))), (11, (.full 0))], [(.lst 3 (.int .i64))]⟩ (.seq .w (.block (.loop ⟨[(0, (.i .i64)), (1, (.i .i64)), (2, (.i .u64)), (3, (.i .u64)), (9, (.fz (.int .i64))), (10, (.fz (.int .i64))), (11, (.full 0)), (12, (.i .i64))], [(.lst 3 (.int .i64))]⟩ [((.exit 0), ⟨[(0, (.i .i64)), (1, (.i .i64)), (2, (.i .u64)), (3, (.i .u64)), (9, (.fz (.int .i64))), (10, (.fz (.int .i64))), (11, (.full 0))], [(.lst 3 (.int .i64))]⟩)] (.join ⟨[(0, (.i .i64)), (1, (.i .i64)), (2, (.i .u64)), (3, (.i .u64)), (9, (.fz (.int .i64))), (10, (.fz (.int .i64))), (11, (.full 0)), (12, (.i .i64))], [(.lst 3 (.int .i64))]⟩ (.seq .w (.cond .o .o)) (.join ⟨[(0, (.i .i64)), (1, (.i .i64)), (2, (.i .u64)), (3, (.i .u64)), (9, (.fz (.int .i64))), (10, (.fz (.int .i64))), (11, (.full 0)), (12, (.i .i64))], [(.lst 3 (.int .i64))]⟩ (.block (.seq .w (.block (.seq .w (.cond .w (.seq .w (.cond .w (.seq .w (.cond .w .o))))))))) .w))))) (.seq .w (.join ⟨[(0, (.i .i64)), (1, (.i .i64)), (2, (.i .u64)), (3, (.i .u64)), (9, (.fz (.int .i64))), (10, (.fz (.int .i64))), (11, (.full 0)), (13, (.i .i64))], [(.lst 3 (.int .i64))]⟩ (.seq .w (.cond .w .o)) (.join ⟨[(0, (.i .i64)), (1, (.i .i64)), (2, (.i .u64)), (3, (.i .u64))], []⟩ (.seq .w (.block (.join ⟨[(0, (.i .i64)), (1, (.i .i64)), (2, (.i .u64)), (3, (.i .u64)), (9, (.fz (.int .i64))), (10, (.fz (.int .i64))), (11, (.full 0)), (13, (.i .i64)), (81, (.i .i64)), (82, .b)], [(.lst 3 (.int .i64))]⟩ (.seq .w (.cond .o (.seq .w (.cond .o .w)))) (.cond (.seq .w .o) (.seq .w (.cond (.seq .w .o) (.seq .w (.cond (.seq .w .o) (.seq .w (.cond (.seq .w .o) (.seq .w (.cond (.seq .w .o) (.seq .w (.cond (.seq .w .o) (.seq .w (.cond (.seq .w .o) (.seq .w (.cond (.seq .w .o) (.seq .w (.cond (.seq .w .o) (.seq .w (.cond (.seq .w .o) (.seq .o (.cond (.seq .o .o) (.seq .o (.cond (.seq .o .o) (.seq .o (.cond (.seq .o .o) (.join ⟨[(0, (.i .i64)), (1, (.i .i64)), (2, (.i .u64)), (3, (.i .u64)), (180, .b)], []⟩ (.seq .o (.cond .o .o)) (.cond (.join ⟨[(0, (.i .i64)), (2, (.i .u64)), (3, (.i .u64))], []⟩ (.seq .o (.cond (.join ⟨[(2, (.i .u64))], []⟩ (.seq .o (.cond (.seq .o .o) .o)) (.seq .o .o)) .o)) (.join ⟨[(2, (.i .u64)), (3, (.i .u64))], []⟩ (.seq .o (.cond (.seq .o .o) .o)) (.seq .o .o))) .o)))))))))))))))))))))))))))))) (.seq .o (.join ⟨[(15, (.i .u64))], []⟩ (.seq .o (.cond (.seq .o .o) .o)) (.seq .o .o))))))))))))
def go74_j3 : ((Int × (Int × (Int × (Int × (Bool × Unit))))) × Unit) → Option (Int × Unit) := (fun (z3 : ((Int × (Int × (Int × (Int × (Bool × Unit))))) × Unit)) => (bif z3.1.2.2.2.2.1 then
      (bif (decide (z3.1.2.2.2.1 = (0 : Int))) then
        (bif (decide (z3.1.1 = (5 : Int))) then
          (some ((Sp.mask z3.1.2.1), ()))
          else
          (some (z3.1.2.2.1, ())))
        else
        (bif (decide (z3.1.1 = (5 : Int))) then
          (grd (!(decide (z3.1.2.2.2.1 = (0 : Int))))
            (some ((Go.IntKind.wrap Go.IntKind.u64 (Int.tdiv z3.1.2.2.1 z3.1.2.2.2.1)), ())))
          else
          (grd (!(decide (z3.1.2.2.2.1 = (0 : Int))))
            (some ((Int.tmod z3.1.2.2.1 z3.1.2.2.2.1), ())))))
      else
      (callB (grd (okB ((U64 z3.1.2.2.1) ∧ ((U64 z3.1.2.2.2.1) ∧ ((Sp.low z3.1.2.1 z3.1.2.2.2.1) = z3.1.2.2.2.1))))
          (some (((Sp.sq z3.1.2.1 z3.1.2.2.1 z3.1.2.2.2.1), ((Sp.sr z3.1.2.1 z3.1.2.2.1 z3.1.2.2.2.1), ())), ())))
        (fun (r0 : ((Int × (Int × Unit)) × Unit)) => (bif (decide (z3.1.1 = (7 : Int))) then
            (some (r0.1.1, ()))
            else
            (some (r0.1.2.1, ())))))))
def go74_j2 : ((Int × (Int × (Int × (Int × ((List Int) × ((List Int) × (Unit × (Int × (Int × (Bool × Unit)))))))))) × ((List Int) × Unit)) → Option (Int × Unit) := (fun (z2 : ((Int × (Int × (Int × (Int × ((List Int) × ((List Int) × (Unit × (Int × (Int × (Bool × Unit)))))))))) × ((List Int) × Unit))) => (bif z2.1.2.2.2.2.2.2.2.2.2.1 then
      (callB (grd (okB (z2.2.1.length ≤ LEN))
          (some ((Sp.wd z2.2.1 z2.2.1.length), ())))
        (fun (r0 : (Int × Unit)) => (some (r0.1, ()))))
      else
      (bif (decide (z2.1.2.2.2.2.2.2.2.2.1 = (2 : Int))) then
        (callB (grd (okB (Sp.bitLs z2.1.2.2.2.2.1 z2.1.2.2.2.2.2.1 (0 : Int)))
            (some ((Sp.addL z2.1.2.2.2.2.1 z2.1.2.2.2.2.2.1 (0 : Int)), ())))
          (fun (r0 : ((List Int) × Unit)) => (callB (grd (okB (r0.1.length ≤ LEN))
                (some ((Sp.wd r0.1 r0.1.length), ())))
              (fun (r1 : (Int × Unit)) => (some (r1.1, ()))))))
        else
        (bif (decide (z2.1.2.2.2.2.2.2.2.2.1 = (3 : Int))) then
          (callB (grd (okB (Sp.bitLs z2.1.2.2.2.2.1 (Sp.bitsL (Go.IntKind.wrap Go.IntKind.u64 ((Sp.mask z2.1.2.1) - z2.1.2.2.2.1)) (Sp.width z2.1.2.1).toNat) (1 : Int)))
              (some ((Sp.addL z2.1.2.2.2.2.1 (Sp.bitsL (Go.IntKind.wrap Go.IntKind.u64 ((Sp.mask z2.1.2.1) - z2.1.2.2.2.1)) (Sp.width z2.1.2.1).toNat) (1 : Int)), ())))
            (fun (r0 : ((List Int) × Unit)) => (callB (grd (okB (r0.1.length ≤ LEN))
                  (some ((Sp.wd r0.1 r0.1.length), ())))
                (fun (r1 : (Int × Unit)) => (some (r1.1, ()))))))
          else
          (bif (decide (z2.1.2.2.2.2.2.2.2.2.1 = (4 : Int))) then
            (callB (grd (okB ((U64 z2.1.2.2.1) ∧ (U64 z2.1.2.2.2.1)))
                (some ((Sp.low z2.1.2.1 (z2.1.2.2.1 * z2.1.2.2.2.1)), ())))
              (fun (r0 : (Int × Unit)) => (some (r0.1, ()))))
            else
            (bif (decide (z2.1.2.2.2.2.2.2.2.2.1 = (12 : Int))) then
              (callB (grd (okB (U64 z2.1.2.2.2.1))
                  (some ((Sp.amount z2.1.2.1 z2.1.2.2.2.1), ())))
                (fun (r0 : (Int × Unit)) => (callB (grd (okB ((U64 z2.1.2.2.1) ∧ (((0 : Int) ≤ r0.1) ∧ (r0.1 ≤ (64 : Int)))))
                      (some ((Sp.low z2.1.2.1 (z2.1.2.2.1 * (Sp.pw r0.1.toNat))), ())))
                    (fun (r1 : (Int × Unit)) => (some (r1.1, ()))))))
              else
              (bif (decide (z2.1.2.2.2.2.2.2.2.2.1 = (13 : Int))) then
                (callB (grd (okB (U64 z2.1.2.2.2.1))
                    (some ((Sp.amount z2.1.2.1 z2.1.2.2.2.1), ())))
                  (fun (r0 : (Int × Unit)) => (callB (grd (okB ((U64 z2.1.2.2.1) ∧ (((0 : Int) ≤ r0.1) ∧ ((r0.1 ≤ (Sp.width z2.1.2.1)) ∧ (((0 : Int) = (0 : Int)) ∨ ((0 : Int) = (1 : Int)))))))
                        (some ((Sp.shrF z2.1.2.1 z2.1.2.2.1 r0.1 (0 : Int)), ())))
                      (fun (r1 : (Int × Unit)) => (some (r1.1, ()))))))
                else
                (bif (decide (z2.1.2.2.2.2.2.2.2.2.1 = (14 : Int))) then
                  (callB (grd (okB (U64 z2.1.2.2.2.1))
                      (some ((Sp.amount z2.1.2.1 z2.1.2.2.2.1), ())))
                    (fun (r0 : (Int × Unit)) => (callB (grd (okB ((U64 z2.1.2.2.1) ∧ (((0 : Int) ≤ r0.1) ∧ ((r0.1 ≤ (Sp.width z2.1.2.1)) ∧ ((z2.1.2.2.2.2.2.2.2.1 = (0 : Int)) ∨ (z2.1.2.2.2.2.2.2.2.1 = (1 : Int)))))))
                          (some ((Sp.shrF z2.1.2.1 z2.1.2.2.1 r0.1 z2.1.2.2.2.2.2.2.2.1), ())))
                        (fun (r1 : (Int × Unit)) => (some (r1.1, ()))))))
                  else
                  (bif (decide (z2.1.2.2.2.2.2.2.2.2.1 = (15 : Int))) then
                    (some ((Sp.one (decide (z2.1.2.2.1 = z2.1.2.2.2.1))), ()))
                    else
                    (bif (decide (z2.1.2.2.2.2.2.2.2.2.1 = (16 : Int))) then
                      (some ((Sp.one (!(decide (z2.1.2.2.1 = z2.1.2.2.2.1)))), ()))
                      else
                      (bif (decide (z2.1.2.2.2.2.2.2.2.2.1 = (17 : Int))) then
                        (some ((Sp.one (decide (z2.1.2.2.1 < z2.1.2.2.2.1))), ()))
                        else
                        (bif (decide (z2.1.2.2.2.2.2.2.2.2.1 = (18 : Int))) then
                          (some ((Sp.one (decide (z2.1.2.2.1 ≤ z2.1.2.2.2.1))), ()))
                          else
                          (bif (decide (z2.1.2.2.2.2.2.2.2.2.1 = (19 : Int))) then
                            (callB (grd (okB (U64 z2.1.2.2.1))
                                (some ((Sp.sg z2.1.2.1 z2.1.2.2.1), ())))
                              (fun (r0 : (Int × Unit)) => (callB (grd (okB (U64 z2.1.2.2.2.1))
                                    (some ((Sp.sg z2.1.2.1 z2.1.2.2.2.1), ())))
                                  (fun (r1 : (Int × Unit)) => (some ((Sp.one (decide (r0.1 < r1.1))), ()))))))
                            else
                            (bif (decide (z2.1.2.2.2.2.2.2.2.2.1 = (20 : Int))) then
                              (callB (grd (okB (U64 z2.1.2.2.1))
                                  (some ((Sp.sg z2.1.2.1 z2.1.2.2.1), ())))
                                (fun (r0 : (Int × Unit)) => (callB (grd (okB (U64 z2.1.2.2.2.1))
                                      (some ((Sp.sg z2.1.2.1 z2.1.2.2.2.1), ())))
                                    (fun (r1 : (Int × Unit)) => (some ((Sp.one (decide (r0.1 ≤ r1.1))), ()))))))
                              else
                              (jpO (go74_j3)
                                (fun (j0 : (((Int × (Int × (Int × (Int × (Bool × Unit))))) × Unit) → (Option (Int × Unit)))) => (bif (decide (z2.1.2.2.2.2.2.2.2.2.1 = (5 : Int))) then
                                    (j0 ((z2.1.1, (z2.1.2.1, (z2.1.2.2.1, (z2.1.2.2.2.1, (true, ()))))), ()))
                                    else
                                    (j0 ((z2.1.1, (z2.1.2.1, (z2.1.2.2.1, (z2.1.2.2.2.1, ((decide (z2.1.2.2.2.2.2.2.2.2.1 = (6 : Int))), ()))))), ())))))))))))))))))))
def go74_j1 : ((Int × (Int × (Int × (Int × ((List Int) × ((List Int) × (Unit × (Int × Unit)))))))) × ((List Int) × Unit)) → Option (Int × Unit) := (fun (z1 : ((Int × (Int × (Int × (Int × ((List Int) × ((List Int) × (Unit × (Int × Unit)))))))) × ((List Int) × Unit))) => (jpO (go74_j2)
      (fun (j0 : (((Int × (Int × (Int × (Int × ((List Int) × ((List Int) × (Unit × (Int × (Int × (Bool × Unit)))))))))) × ((List Int) × Unit)) → (Option (Int × Unit)))) => (bif (decide (z1.1.1 = (9 : Int))) then
          (j0 ((z1.1.1, (z1.1.2.1, (z1.1.2.2.1, (z1.1.2.2.2.1, (z1.1.2.2.2.2.1, (z1.1.2.2.2.2.2.1, ((), (z1.1.2.2.2.2.2.2.2.1, (z1.1.1, (true, ())))))))))), (z1.2.1, ())))
          else
          (bif (decide (z1.1.1 = (10 : Int))) then
            (j0 ((z1.1.1, (z1.1.2.1, (z1.1.2.2.1, (z1.1.2.2.2.1, (z1.1.2.2.2.2.1, (z1.1.2.2.2.2.2.1, ((), (z1.1.2.2.2.2.2.2.2.1, (z1.1.1, (true, ())))))))))), (z1.2.1, ())))
            else
            (j0 ((z1.1.1, (z1.1.2.1, (z1.1.2.2.1, (z1.1.2.2.2.1, (z1.1.2.2.2.2.1, (z1.1.2.2.2.2.2.1, ((), (z1.1.2.2.2.2.2.2.2.1, (z1.1.1, ((decide (z1.1.1 = (11 : Int))), ())))))))))), (z1.2.1, ()))))))))
def go74_l1 : ((Int × (Int × (Int × (Int × ((List Int) × ((List Int) × (Unit × (Int × Unit)))))))) × ((List Int) × Unit)) → Option (((Int × (Int × (Int × (Int × ((List Int) × ((List Int) × (Unit × (Int × Unit)))))))) × ((List Int) × Unit)) ⊕ ((Int × (Int × (Int × (Int × ((List Int) × ((List Int) × (Unit × Unit))))))) × ((List Int) × Unit))) := (fun (r0 : ((Int × (Int × (Int × (Int × ((List Int) × ((List Int) × (Unit × (Int × Unit)))))))) × ((List Int) × Unit))) => (bif (decide (r0.1.2.2.2.2.2.2.2.1 < ((r0.1.2.2.2.2.1.length : Nat) : Int))) then
      (bif (decide (r0.1.1 = (9 : Int))) then
        (grd (okB (((0 : Int) ≤ r0.1.2.2.2.2.2.2.2.1) ∧ (r0.1.2.2.2.2.2.2.2.1 < ((r0.1.2.2.2.2.1.length : Nat) : Int))))
          (grd (okB (((0 : Int) ≤ r0.1.2.2.2.2.2.2.2.1) ∧ (r0.1.2.2.2.2.2.2.2.1 < ((r0.1.2.2.2.2.2.1.length : Nat) : Int))))
            (grd (okB ((((r0.2.1.length + 1) * (8 : Nat)) ≤ (140737488355328 : Nat)) ∧ ((r0.2.1.length + 1) ≤ (281474976710656 : Nat))))
              (some (Sum.inl ((r0.1.1, (r0.1.2.1, (r0.1.2.2.1, (r0.1.2.2.2.1, (r0.1.2.2.2.2.1, (r0.1.2.2.2.2.2.1, ((), ((Go.IntKind.wrap Go.IntKind.i64 (r0.1.2.2.2.2.2.2.2.1 + (1 : Int))), ())))))))), ((r0.2.1 ++ ((Go.IntKind.wrap Go.IntKind.i64 ((r0.1.2.2.2.2.1.getD r0.1.2.2.2.2.2.2.2.1.toNat (0 : Int)) * (r0.1.2.2.2.2.2.1.getD r0.1.2.2.2.2.2.2.2.1.toNat (0 : Int)))) :: ([] : List Int))), ())))))))
        else
        (bif (decide (r0.1.1 = (10 : Int))) then
          (grd (okB (((0 : Int) ≤ r0.1.2.2.2.2.2.2.2.1) ∧ (r0.1.2.2.2.2.2.2.2.1 < ((r0.1.2.2.2.2.1.length : Nat) : Int))))
            (grd (okB (((0 : Int) ≤ r0.1.2.2.2.2.2.2.2.1) ∧ (r0.1.2.2.2.2.2.2.2.1 < ((r0.1.2.2.2.2.2.1.length : Nat) : Int))))
              (grd (okB ((((r0.2.1.length + 1) * (8 : Nat)) ≤ (140737488355328 : Nat)) ∧ ((r0.2.1.length + 1) ≤ (281474976710656 : Nat))))
                (some (Sum.inl ((r0.1.1, (r0.1.2.1, (r0.1.2.2.1, (r0.1.2.2.2.1, (r0.1.2.2.2.2.1, (r0.1.2.2.2.2.2.1, ((), ((Go.IntKind.wrap Go.IntKind.i64 (r0.1.2.2.2.2.2.2.2.1 + (1 : Int))), ())))))))), ((r0.2.1 ++ ((if ((r0.1.2.2.2.2.2.1.getD r0.1.2.2.2.2.2.2.2.1.toNat (0 : Int)) > (r0.1.2.2.2.2.1.getD r0.1.2.2.2.2.2.2.2.1.toNat (0 : Int))) then (r0.1.2.2.2.2.2.1.getD r0.1.2.2.2.2.2.2.2.1.toNat (0 : Int)) else (r0.1.2.2.2.2.1.getD r0.1.2.2.2.2.2.2.2.1.toNat (0 : Int))) :: ([] : List Int))), ())))))))
          else
          (bif (decide (r0.1.1 = (11 : Int))) then
            (grd (okB (((0 : Int) ≤ r0.1.2.2.2.2.2.2.2.1) ∧ (r0.1.2.2.2.2.2.2.2.1 < ((r0.1.2.2.2.2.1.length : Nat) : Int))))
              (grd (okB (((0 : Int) ≤ r0.1.2.2.2.2.2.2.2.1) ∧ (r0.1.2.2.2.2.2.2.2.1 < ((r0.1.2.2.2.2.2.1.length : Nat) : Int))))
                (grd (okB ((((r0.2.1.length + 1) * (8 : Nat)) ≤ (140737488355328 : Nat)) ∧ ((r0.2.1.length + 1) ≤ (281474976710656 : Nat))))
                  (some (Sum.inl ((r0.1.1, (r0.1.2.1, (r0.1.2.2.1, (r0.1.2.2.2.1, (r0.1.2.2.2.2.1, (r0.1.2.2.2.2.2.1, ((), ((Go.IntKind.wrap Go.IntKind.i64 (r0.1.2.2.2.2.2.2.2.1 + (1 : Int))), ())))))))), ((r0.2.1 ++ ((Int.tmod (Go.IntKind.wrap Go.IntKind.i64 ((r0.1.2.2.2.2.1.getD r0.1.2.2.2.2.2.2.2.1.toNat (0 : Int)) + (r0.1.2.2.2.2.2.1.getD r0.1.2.2.2.2.2.2.2.1.toNat (0 : Int)))) (2 : Int)) :: ([] : List Int))), ())))))))
            else
            (some (Sum.inl ((r0.1.1, (r0.1.2.1, (r0.1.2.2.1, (r0.1.2.2.2.1, (r0.1.2.2.2.2.1, (r0.1.2.2.2.2.2.1, ((), ((Go.IntKind.wrap Go.IntKind.i64 (r0.1.2.2.2.2.2.2.2.1 + (1 : Int))), ())))))))), (r0.2.1, ())))))))
      else
      (some (Sum.inr ((r0.1.1, (r0.1.2.1, (r0.1.2.2.1, (r0.1.2.2.2.1, (r0.1.2.2.2.2.1, (r0.1.2.2.2.2.2.1, ((), ()))))))), (r0.2.1, ()))))))
def go74 (x0 : Int) (x1 : Int) (x2 : Int) (x3 : Int) : (Option (Int × Unit)) :=
  (callB (whileO (go74_l1) ((x0, (x1, ((Sp.fit x1 x2), ((Sp.fit x1 x3), ((Sp.bitsL (Sp.fit x1 x2) (Sp.width x1).toNat), ((Sp.bitsL (Sp.fit x1 x3) (Sp.width x1).toNat), ((), ((0 : Int), ())))))))), (([] : List Int), ())))
    (fun (z0 : ((Int × (Int × (Int × (Int × ((List Int) × ((List Int) × (Unit × Unit))))))) × ((List Int) × Unit))) => (jpO (go74_j1)
        (fun (j0 : (((Int × (Int × (Int × (Int × ((List Int) × ((List Int) × (Unit × (Int × Unit)))))))) × ((List Int) × Unit)) → (Option (Int × Unit)))) => (callB (grd (okB (U64 z0.1.2.2.1))
              (some ((Sp.neg z0.1.2.1 z0.1.2.2.1), ())))
            (fun (r0 : (Bool × Unit)) => (bif r0.1 then
                (j0 ((z0.1.1, (z0.1.2.1, (z0.1.2.2.1, (z0.1.2.2.2.1, (z0.1.2.2.2.2.1, (z0.1.2.2.2.2.2.1, ((), ((1 : Int), ())))))))), (z0.2.1, ())))
                else
                (j0 ((z0.1.1, (z0.1.2.1, (z0.1.2.2.1, (z0.1.2.2.2.1, (z0.1.2.2.2.2.1, (z0.1.2.2.2.2.2.1, ((), ((0 : Int), ())))))))), (z0.2.1, ()))))))))))
theorem run74 (x0 : Int) (x1 : Int) (x2 : Int) (x3 : Int) : runF (P := Try.prog) [c76, c77, c79, c93, c107, c108, c109, c110, c111, c112, c113, c114, c115] Try.f74 ann74 [(0, (.i .i64)), (1, (.i .i64)), (2, (.i .u64)), (3, (.i .u64))] [] (.i .u64) [] (x0, (x1, (x2, (x3, ())))) () = go74 x0 x1 x2 x3 := by kernel_rfl
end
end Go.Abs


set_option linter.unusedVariables false
set_option linter.unusedSectionVars false
set_option linter.unusedSimpArgs false
set_option maxHeartbeats 1000000
namespace Go.Abs
open Go Go.Proofs
noncomputable section
theorem wrap_next {i : Nat} (h : i ≤ 64) : IntKind.i64.wrap ((i : Int) + 1) = ((i + 1 : Nat) : Int) := by
  unfold IntKind.wrap
  simp only [show IntKind.signed .i64 = true from rfl, show IntKind.bits .i64 = 64 from rfl, Bool.true_and, decide_eq_true_eq]
  rw [if_neg (by omega)]
  omega
theorem bit_mul (p q : Bool) : IntKind.i64.wrap (Sp.bit p * Sp.bit q) = Sp.bit (p && q) := by cases p <;> cases q <;> rfl
theorem bit_max (p q : Bool) : (if Sp.bit q > Sp.bit p then Sp.bit q else Sp.bit p) = Sp.bit (p || q) := by cases p <;> cases q <;> rfl
theorem bit_add (p q : Bool) : (IntKind.i64.wrap (Sp.bit p + Sp.bit q)).tmod 2 = Sp.bit (p ^^ q) := by cases p <;> cases q <;> rfl
def Sp.out74 (op : Int) (m k i : Nat) : List Int := if op = 9 then Sp.bitsN (m &&& k) i else if op = 10 then Sp.bitsN (m ||| k) i else if op = 11 then Sp.bitsN (m ^^^ k) i else []
theorem loop74 (op w a b : Int) (m k n : Nat) (hn : n ≤ 64) : whileO go74_l1 ((op, w, a, b, Sp.bitsN m n, Sp.bitsN k n, (), 0, ()), [], ()) = some ((op, w, a, b, Sp.bitsN m n, Sp.bitsN k n, (), ()), Sp.out74 op m k n, ()) := by
  have hl : ∀ y i : Nat, (Sp.bitsN y i).length = i := fun y i => bitsN_len y i
  refine whileO_to (st := fun i => ((op, w, a, b, Sp.bitsN m n, Sp.bitsN k n, (), (i : Int), ()), Sp.out74 op m k i, ())) (by simp [Sp.out74, Sp.bitsN]) n (fun i hi => ?_) ?_
  · have ga := bitsN_get (y := m) hi
    have gb := bitsN_get (y := k) hi
    have hw : IntKind.i64.wrap ((i : Int) + 1) = ((i + 1 : Nat) : Int) := wrap_next (by omega)
    unfold go74_l1
    simp only [hl, Int.toNat_natCast, ga, gb, hw, bit_mul, bit_max, bit_add]
    rw [decide_eq_true (show (i : Int) < ((n : Nat) : Int) by omega)]
    unfold Sp.out74
    by_cases h9 : op = 9
    · simp only [h9, if_pos, hl, decide_true, cond_true]
      rw [grd_ok (by omega), grd_ok (by omega), grd_ok (by omega), bitsN_succ, Nat.testBit_and]
    · by_cases h10 : op = 10
      · simp only [h10, if_pos, hl, decide_true, cond_true, show ¬((10 : Int) = 9) by decide, if_false, decide_false, cond_false]
        rw [grd_ok (by omega), grd_ok (by omega), grd_ok (by omega), bitsN_succ, Nat.testBit_or]
      · by_cases h11 : op = 11
        · simp only [h11, if_pos, hl, decide_true, cond_true, show ¬((11 : Int) = 9) by decide, show ¬((11 : Int) = 10) by decide, if_false, decide_false, cond_false]
          rw [grd_ok (by omega), grd_ok (by omega), grd_ok (by omega), bitsN_succ, Nat.testBit_xor]
        · simp only [h9, h10, h11, if_false, decide_false, cond_false, cond_true]
  · unfold go74_l1
    simp only [hl]
    rw [decide_eq_false (show ¬ (n : Int) < ((n : Nat) : Int) by omega)]
    rfl
theorem len_ok {y n : Nat} (hn : n ≤ 64) : (Sp.bitsN y n).length ≤ LEN := by rw [bitsN_len, lenVal]; omega
theorem low_self {w x : Int} (h : 0 ≤ x) (h2 : x < Sp.pw (Sp.wn w)) : Sp.low w x = x := Int.emod_eq_of_lt h h2
theorem wd_low {w : Int} {m n : Nat} (hn : n = Sp.wn w) : Sp.wd (Sp.bitsN m n) (Sp.bitsN m n).length = Sp.low w (m : Int) := by
  subst hn
  rw [bitsN_len, wd_word (wn_le w), low_nat]
theorem amount_low {w b : Int} (hw : 1 ≤ w ∧ w ≤ 64) : Sp.amount w b = if w ≤ b then w else b := by
  have : Sp.width w = w := by rw [← wn_eq]; unfold Sp.wn Sp.width; omega
  unfold Sp.amount; rw [this]
theorem wn_val {w : Int} (hw : 1 ≤ w ∧ w ≤ 64) : (Sp.wn w : Int) = w := by rw [wn_eq]; unfold Sp.width; omega
theorem shl_shift {w A B : Int} (hw : 1 ≤ w ∧ w ≤ 64) : Sp.low w (A * Sp.pw (if w ≤ B then w else B).toNat) = Sp.shift 12 w A B := by
  unfold Sp.shift
  by_cases h : w ≤ B
  · have : w.toNat = Sp.wn w := by have := wn_val hw; omega
    rw [if_pos h, if_pos h, if_neg (by simp), this]
    unfold Sp.low
    exact Int.mul_emod_left _ _
  · rw [if_neg h, if_neg h, if_pos rfl]
theorem div_top {w A : Int} (hA : 0 ≤ A ∧ A < Sp.pw (Sp.wn w)) : A / Sp.pw (Sp.wn w) = 0 := Int.ediv_eq_zero_of_lt hA.1 hA.2
theorem shr_shift {w A B : Int} (hw : 1 ≤ w ∧ w ≤ 64) (hA : 0 ≤ A ∧ A < Sp.pw (Sp.wn w)) : Sp.shrF w A (if w ≤ B then w else B) 0 = Sp.shift 13 w A B := by
  unfold Sp.shift Sp.shrF
  rw [low_self hA.1 hA.2, if_neg (by decide)]
  by_cases h : w ≤ B
  · have : w.toNat = Sp.wn w := by have := wn_val hw; omega
    rw [if_pos h, if_pos h, if_neg (by simp), this, div_top hA]
  · rw [if_neg h, if_neg h, if_neg (by decide), if_pos rfl]
theorem sar_shift {w A B : Int} (hw : 1 ≤ w ∧ w ≤ 64) (hB : 0 ≤ B) (hA : 0 ≤ A ∧ A < Sp.pw (Sp.wn w)) : Sp.shrF w A (if w ≤ B then w else B) (bif Sp.neg w A then 1 else 0) = Sp.shift 14 w A B := by
  have hv := wn_val hw
  unfold Sp.shift Sp.shrF Sp.neg Sp.sg
  rw [low_self hA.1 hA.2]
  by_cases h : w ≤ B
  · have : w.toNat = Sp.wn w := by omega
    rw [if_pos h, if_pos h, this, div_top hA]
    by_cases hn : Sp.pw (Sp.wn w) ≤ 2 * A ∧ Sp.wn w ≠ 0
    · rw [decide_eq_true hn]
      simp [Sp.mask, Sp.pw]
    · rw [decide_eq_false hn]
      simp
  · rw [if_neg h, if_neg h, if_neg (show ¬((14 : Int) = 12) by decide), if_neg (show ¬((14 : Int) = 13) by decide)]
    have hle : B.toNat ≤ Sp.wn w := by omega
    have hp := pw_pos B.toNat
    have hq := pw_pos (Sp.wn w - B.toNat)
    have hpw : Sp.pw (Sp.wn w) = Sp.pw (Sp.wn w - B.toNat) * Sp.pw B.toNat := by rw [← pw_add, show Sp.wn w - B.toNat + B.toNat = Sp.wn w by omega]
    have q0 : 0 ≤ A / Sp.pw B.toNat := Int.ediv_nonneg hA.1 (by omega)
    have q1 : A / Sp.pw B.toNat < Sp.pw (Sp.wn w - B.toNat) := Int.ediv_lt_of_lt_mul hp (by rw [← hpw]; exact hA.2)
    have hle2 : Sp.pw (Sp.wn w - B.toNat) ≤ Sp.pw (Sp.wn w) := by
      rw [hpw]
      have := Int.mul_le_mul_of_nonneg_left (show 1 ≤ Sp.pw B.toNat by omega) (show 0 ≤ Sp.pw (Sp.wn w - B.toNat) by omega)
      omega
    by_cases hn : Sp.pw (Sp.wn w) ≤ 2 * A ∧ Sp.wn w ≠ 0
    · rw [decide_eq_true hn, if_pos hn]
      have e : (A - Sp.pw (Sp.wn w)) / Sp.pw B.toNat = A / Sp.pw B.toNat - Sp.pw (Sp.wn w - B.toNat) := by
        rw [hpw, Int.sub_mul_ediv_right _ _ (by omega)]
      rw [e]
      simp only [cond_true, if_true]
      unfold Sp.low
      have : (A / Sp.pw B.toNat - Sp.pw (Sp.wn w - B.toNat)) % Sp.pw (Sp.wn w) = (A / Sp.pw B.toNat - Sp.pw (Sp.wn w - B.toNat) + Sp.pw (Sp.wn w)) % Sp.pw (Sp.wn w) := by rw [Int.add_emod_right]
      rw [this, Int.emod_eq_of_lt (by omega) (by omega)]
      omega
    · rw [decide_eq_false hn, if_neg hn]
      simp only [cond_false, show ¬((0 : Int) = 1) by decide, if_false]
      exact (low_self q0 (by omega)).symm
section
variable {w A B fill : Int} {m k n : Nat} {out : List Int}
theorem wrap_sub {x y : Int} (h0 : 0 ≤ y) (h1 : y ≤ x) (h2 : x < 18446744073709551616) : IntKind.u64.wrap (x - y) = x - y := by rw [wrap64]; omega
theorem add74 (a b c : Nat) (hn : n = Sp.wn w) (hc : c ≤ 1) : callB (grd (okB (Sp.bitLs (Sp.bitsN a n) (Sp.bitsN b n) c)) (some (Sp.addL (Sp.bitsN a n) (Sp.bitsN b n) c, ()))) (fun r0 : List Int × Unit => callB (grd (okB (r0.1.length ≤ LEN)) (some (Sp.wd r0.1 r0.1.length, ()))) (fun r1 : Int × Unit => (some (r1.1, ()) : Option (Int × Unit)))) = some (Sp.low w ((a + b + c : Nat) : Int), ()) := by
  have h64 : n ≤ 64 := by rw [hn]; exact wn_le w
  rw [grd_ok ⟨a, b, n, c, rfl, rfl, rfl, hc, h64⟩, callB_some, addL_bits _ _ _ _ h64]
  simp only []
  rw [grd_ok (len_ok h64), callB_some, wd_low hn]
theorem j2_rest {op : Int} (hw : 1 ≤ w ∧ w ≤ 64) (hA : U64 A ∧ A < Sp.pw (Sp.wn w)) (hB : U64 B ∧ B < Sp.pw (Sp.wn w)) (hm : A = (m : Int)) (hk : B = (k : Int)) (hn : n = Sp.wn w)
    (hop : Sp.isBinary op = true) (h9 : op ≠ 9) (h10 : op ≠ 10) (h11 : op ≠ 11) :
    go74_j2 ((op, w, A, B, Sp.bitsN m n, Sp.bitsN k n, (), (bif Sp.neg w A then 1 else 0), op, false, ()), out, ()) = some (Sp.binL op w A B, ()) := by
  have hlB : Sp.low w B = B := low_self hB.1.1 hB.2
  have hwid : Sp.width w = w := by rw [← wn_eq]; exact wn_val hw
  have c : op = 2 ∨ op = 3 ∨ op = 4 ∨ op = 5 ∨ op = 6 ∨ op = 7 ∨ op = 8 ∨ op = 12 ∨ op = 13 ∨ op = 14 ∨ op = 15 ∨ op = 16 ∨ op = 17 ∨ op = 18 ∨ op = 19 ∨ op = 20 := by
    unfold Sp.isBinary at hop
    simp only [Bool.and_eq_true, decide_eq_true_eq] at hop
    omega
  have hwid2 : (Sp.width w).toNat = n := by rw [hn]; rfl
  have am : 0 ≤ (if w ≤ B then w else B) ∧ (if w ≤ B then w else B) ≤ 64 ∧ (if w ≤ B then w else B) ≤ w := by
    have := hB.1.1
    split <;> omega
  have fl : (bif Sp.neg w A then (1 : Int) else 0) = 0 ∨ (bif Sp.neg w A then (1 : Int) else 0) = 1 := by cases Sp.neg w A <;> simp
  rcases c with rfl | rfl | rfl | rfl | rfl | rfl | rfl | rfl | rfl | rfl | rfl | rfl | rfl | rfl | rfl | rfl
  · unfold go74_j2
    simp only [cond_false, cond_true, decide_true]
    refine (add74 (w := w) m k 0 hn (by omega)).trans ?_
    rw [show ((m + k + 0 : Nat) : Int) = A + B by omega]
    rfl
  · unfold go74_j2
    have h1 : IntKind.u64.wrap (Sp.mask w - B) = Sp.mask w - B := wrap_sub hB.1.1 (by unfold Sp.mask; omega) (by have := (mask_u64 w).2; omega)
    have h2 : U64 (Sp.mask w - B) := ⟨by unfold Sp.mask; omega, by have := (mask_u64 w).2; have := hB.1.1; omega⟩
    simp only [cond_false, cond_true, decide_true, Int.reduceEq, decide_false, h1, hwid2, bitsL_nat h2]
    refine (add74 (w := w) m (Sp.mask w - B).toNat 1 hn (by omega)).trans ?_
    have e : ((m + (Sp.mask w - B).toNat + 1 : Nat) : Int) = A - B + Sp.pw (Sp.wn w) := by have := h2.1; unfold Sp.mask at *; omega
    rw [e]
    have : Sp.low w (A - B + Sp.pw (Sp.wn w)) = Sp.low w (A - B) := by unfold Sp.low; exact Int.add_emod_right _ _
    rw [this]
    rfl
  · unfold go74_j2
    simp only [cond_false, cond_true, decide_true, Int.reduceEq, decide_false]
    rw [grd_ok ⟨hA.1, hB.1⟩, callB_some]
    rfl
  · unfold go74_j2 go74_j3
    simp only [cond_false, cond_true, decide_true, Int.reduceEq, decide_false, jpO_eq]
    by_cases h0 : B = 0
    · rw [decide_eq_true h0]
      simp [Sp.binL, Sp.divs, h0]
    · have hw : IntKind.u64.wrap (A.tdiv B) = A / B := by
        rw [Int.tdiv_eq_ediv_of_nonneg hA.1.1, wrap64]
        have := Int.ediv_nonneg hA.1.1 hB.1.1
        have := Int.ediv_le_self B hA.1.1
        have := hA.1.2
        omega
      rw [decide_eq_false h0, cond_false, Bool.not_false, hw]
      simp [Sp.binL, Sp.divs, h0, grd]
  · unfold go74_j2 go74_j3
    simp only [cond_false, cond_true, decide_true, Int.reduceEq, decide_false, jpO_eq]
    by_cases h0 : B = 0
    · rw [decide_eq_true h0]
      simp [Sp.binL, Sp.divs, h0]
    · rw [decide_eq_false h0, cond_false, Bool.not_false, Int.tmod_eq_emod_of_nonneg hA.1.1]
      simp [Sp.binL, Sp.divs, h0, grd]
  · unfold go74_j2 go74_j3
    simp only [cond_false, cond_true, decide_true, Int.reduceEq, decide_false, jpO_eq]
    rw [grd_ok ⟨hA.1, hB.1, hlB⟩, callB_some]
    rfl
  · unfold go74_j2 go74_j3
    simp only [cond_false, cond_true, decide_true, Int.reduceEq, decide_false, jpO_eq]
    rw [grd_ok ⟨hA.1, hB.1, hlB⟩, callB_some]
    rfl
  · unfold go74_j2
    simp only [cond_false, cond_true, decide_true, Int.reduceEq, decide_false]
    rw [grd_ok hB.1, callB_some]
    simp only [amount_low hw]
    rw [grd_ok ⟨hA.1, am.1, am.2.1⟩, callB_some, shl_shift hw]
    rfl
  · unfold go74_j2
    simp only [cond_false, cond_true, decide_true, Int.reduceEq, decide_false]
    rw [grd_ok hB.1, callB_some]
    simp only [amount_low hw]
    rw [grd_ok ⟨hA.1, am.1, by rw [hwid]; exact am.2.2, by simp⟩, callB_some, shr_shift hw ⟨hA.1.1, hA.2⟩]
    rfl
  · unfold go74_j2
    simp only [cond_false, cond_true, decide_true, Int.reduceEq, decide_false]
    rw [grd_ok hB.1, callB_some]
    simp only [amount_low hw]
    rw [grd_ok ⟨hA.1, am.1, by rw [hwid]; exact am.2.2, fl⟩, callB_some, sar_shift hw hB.1.1 ⟨hA.1.1, hA.2⟩]
    rfl
  · rfl
  · rfl
  · rfl
  · rfl
  · unfold go74_j2
    simp only [cond_false, cond_true, decide_true, Int.reduceEq, decide_false]
    rw [grd_ok hA.1, callB_some, grd_ok hB.1, callB_some]
    rfl
  · unfold go74_j2
    simp only [cond_false, cond_true, decide_true, Int.reduceEq, decide_false]
    rw [grd_ok hA.1, callB_some, grd_ok hB.1, callB_some]
    rfl
end
theorem bits_and {w A B : Int} {m k : Nat} (hm : A = (m : Int)) (hk : B = (k : Int)) (hA : A < Sp.pw (Sp.wn w)) : Sp.low w ((m &&& k : Nat) : Int) = Sp.land A B := by
  unfold Sp.land
  rw [hm, hk, Int.toNat_natCast, Int.toNat_natCast]
  refine low_self (by omega) ?_
  have : m &&& k ≤ m := Nat.and_le_left
  omega
theorem bits_or {w A B : Int} {m k : Nat} (hm : A = (m : Int)) (hk : B = (k : Int)) (hA : A < Sp.pw (Sp.wn w)) (hB : B < Sp.pw (Sp.wn w)) : Sp.low w ((m ||| k : Nat) : Int) = Sp.lor A B := by
  unfold Sp.lor
  rw [hm, hk, Int.toNat_natCast, Int.toNat_natCast]
  refine low_self (by omega) ?_
  unfold Sp.pw at *
  have := Nat.or_lt_two_pow (x := m) (y := k) (n := Sp.wn w) (by omega) (by omega)
  omega
theorem bits_xor {w A B : Int} {m k : Nat} (hm : A = (m : Int)) (hk : B = (k : Int)) (hA : A < Sp.pw (Sp.wn w)) (hB : B < Sp.pw (Sp.wn w)) : Sp.low w ((m ^^^ k : Nat) : Int) = Sp.lxor A B := by
  unfold Sp.lxor
  rw [hm, hk, Int.toNat_natCast, Int.toNat_natCast]
  refine low_self (by omega) ?_
  unfold Sp.pw at *
  have := Nat.xor_lt_two_pow (x := m) (y := k) (n := Sp.wn w) (by omega) (by omega)
  omega
theorem ok74 (op w a b : Int) (h : U64 a ∧ U64 b ∧ 1 ≤ w ∧ w ≤ 64 ∧ Sp.isBinary op = true) : go74 op w a b = some (Sp.bin op w a b, ()) := by
  obtain ⟨ha, hb, hw1, hw2, hop⟩ := h
  unfold go74 Sp.bin
  rw [fit_low ha, fit_low hb]
  have hA := low_u64 w a
  have hB := low_u64 w b
  have rA := (low_range w a).2
  have rB := (low_range w b).2
  rw [bitsL_nat hA, bitsL_nat hB]
  have hm : Sp.low w a = ((Sp.low w a).toNat : Int) := by have := hA.1; omega
  have hk : Sp.low w b = ((Sp.low w b).toNat : Int) := by have := hB.1; omega
  generalize Sp.low w a = A at *
  generalize Sp.low w b = B at *
  generalize A.toNat = m at *
  generalize B.toNat = k at *
  have hn : (Sp.width w).toNat = Sp.wn w := rfl
  rw [hn]
  refine callB_of (loop74 op w A B m k _ (wn_le w)) ?_
  simp only [jpO_eq]
  rw [grd_ok hA, callB_some]
  simp only []
  have e : ∀ (x y : Option (Int × Unit)) (c : Bool), x = y → (bif c then x else y) = y := by rintro x y c rfl; cases c <;> rfl
  have hj : ∀ b : Bool, go74_j1 ((op, w, A, B, Sp.bitsN m (Sp.wn w), Sp.bitsN k (Sp.wn w), (), (bif b then 1 else 0), ()), Sp.out74 op m k (Sp.wn w), ()) = (bif b then go74_j1 ((op, w, A, B, Sp.bitsN m (Sp.wn w), Sp.bitsN k (Sp.wn w), (), 1, ()), Sp.out74 op m k (Sp.wn w), ()) else go74_j1 ((op, w, A, B, Sp.bitsN m (Sp.wn w), Sp.bitsN k (Sp.wn w), (), 0, ()), Sp.out74 op m k (Sp.wn w), ())) := fun b => by cases b <;> rfl
  rw [← hj]
  unfold go74_j1
  simp only [jpO_eq]
  by_cases h9 : op = 9
  · rw [decide_eq_true h9, cond_true]
    have : Sp.out74 op m k (Sp.wn w) = Sp.bitsN (m &&& k) (Sp.wn w) := by unfold Sp.out74; rw [if_pos h9]
    rw [this]
    unfold go74_j2
    simp only [cond_true]
    rw [grd_ok (len_ok (wn_le w)), callB_some, wd_low rfl, bits_and hm hk rA]
    simp [Sp.binL, h9]
  · rw [decide_eq_false h9, cond_false]
    by_cases h10 : op = 10
    · rw [decide_eq_true h10, cond_true]
      have : Sp.out74 op m k (Sp.wn w) = Sp.bitsN (m ||| k) (Sp.wn w) := by unfold Sp.out74; rw [if_neg h9, if_pos h10]
      rw [this]
      unfold go74_j2
      simp only [cond_true]
      rw [grd_ok (len_ok (wn_le w)), callB_some, wd_low rfl, bits_or hm hk rA rB]
      simp [Sp.binL, h10]
    · rw [decide_eq_false h10, cond_false]
      by_cases h11 : op = 11
      · rw [decide_eq_true h11]
        have : Sp.out74 op m k (Sp.wn w) = Sp.bitsN (m ^^^ k) (Sp.wn w) := by unfold Sp.out74; rw [if_neg h9, if_neg h10, if_pos h11]
        rw [this]
        unfold go74_j2
        simp only [cond_true]
        rw [grd_ok (len_ok (wn_le w)), callB_some, wd_low rfl, bits_xor hm hk rA rB]
        simp [Sp.binL, h11]
      · rw [decide_eq_false h11]
        exact j2_rest ⟨hw1, hw2⟩ ⟨hA, rA⟩ ⟨hB, rB⟩ hm hk rfl hop h9 h10 h11
def c74 : Ctr Try.prog := mkCtr 74 Try.f74 Try.func74 [c76, c77, c79, c93, c107, c108, c109, c110, c111, c112, c113, c114, c115] ann74 [(0, (.i .i64)), (1, (.i .i64)), (2, (.i .u64)), (3, (.i .u64))] [] (.i .u64) [] (fun x _ => grd (okB (U64 x.2.2.1 ∧ U64 x.2.2.2.1 ∧ 1 ≤ x.2.1 ∧ x.2.1 ≤ 64 ∧ Sp.isBinary x.1 = true)) (some (Sp.bin x.1 x.2.1 x.2.2.1 x.2.2.2.1, ()))) (fun x _ r h => FO (run74 x.1 x.2.1 x.2.2.1 x.2.2.2.1) (ok74 x.1 x.2.1 x.2.2.1 x.2.2.2.1) h)
end
end Go.Abs


set_option linter.unusedVariables false
set_option linter.unusedSectionVars false
set_option linter.unusedSimpArgs false
set_option maxHeartbeats 1000000
namespace Go.Abs
open Go Go.Proofs
noncomputable section
def ann71 : Ann := (.seq .o (.seq .o (.join ⟨[], []⟩ (.seq .o (.block (.seq .o (.cond (.seq .o .o) (.seq .o (.cond (.seq .o .o) (.seq .o (.cond (.seq .o .o) (.seq .o (.cond (.seq .o .o) (.seq .o (.cond (.seq .o .o) (.join ⟨[(0, (.i .i64)), (6, (.fn 102 [(.ptr 0 0)])), (8, (.i .i64)), (23, .b)], [(.cells 4 [.b])]⟩ (.seq .o (.cond .o .o)) (.cond (.seq .o .o) (.join ⟨[(0, (.i .i64)), (6, (.fn 102 [(.ptr 0 0)])), (8, (.i .i64)), (26, .b)], [(.cells 4 [.b])]⟩ (.seq .o (.cond .o .o)) (.cond (.seq .o .o) (.seq .o (.cond (.seq .o .o) (.seq .o (.cond (.seq .o .o) (.seq .o (.cond (.seq .o .o) (.seq .o (.cond (.seq .o .o) (.seq .o (.cond (.seq .o .o) (.join ⟨[(0, (.i .i64)), (6, (.fn 102 [(.ptr 0 0)])), (8, (.i .i64)), (41, .b)], [(.cells 4 [.b])]⟩ (.seq .o (.cond .o .o)) (.cond (.seq .o .o) (.join ⟨[(0, (.i .i64)), (6, (.fn 102 [(.ptr 0 0)])), (48, .b)], [(.cells 4 [.b])]⟩ (.seq .o (.cond .o .o)) (.cond (.seq .o .o) .o)))))))))))))))))))))))))))))) (.seq .o .o))))
def go71_j4 : ((Int × ((Unit × Unit) × (Bool × Unit))) × ((Bool × Unit) × Unit)) → Option ((Int × (Bool × Unit)) × Unit) := (fun (z3 : ((Int × ((Unit × Unit) × (Bool × Unit))) × ((Bool × Unit) × Unit))) => (bif z3.1.2.2.1 then
      (some (((if (z3.2.1.1 = true) then (20 : Int) else (18 : Int)), ((decide (z3.1.1 = (16 : Int))), ())), ()))
      else
      (some (((0 : Int), (false, ())), ()))))
def go71_j3 : ((Int × ((Unit × Unit) × (Int × (Bool × Unit)))) × ((Bool × Unit) × Unit)) → Option ((Int × (Bool × Unit)) × Unit) := (fun (z2 : ((Int × ((Unit × Unit) × (Int × (Bool × Unit)))) × ((Bool × Unit) × Unit))) => (bif z2.1.2.2.2.1 then
      (some (((if (z2.2.1.1 = true) then (19 : Int) else (17 : Int)), ((decide (z2.1.1 = (15 : Int))), ())), ()))
      else
      (jpO (go71_j4)
        (fun (j0 : (((Int × ((Unit × Unit) × (Bool × Unit))) × ((Bool × Unit) × Unit)) → (Option ((Int × (Bool × Unit)) × Unit)))) => (bif (decide (z2.1.2.2.1 = (14 : Int))) then
            (j0 ((z2.1.1, (((), ()), (true, ()))), ((z2.2.1.1, ()), ())))
            else
            (j0 ((z2.1.1, (((), ()), ((decide (z2.1.2.2.1 = (16 : Int))), ()))), ((z2.2.1.1, ()), ()))))))))
def go71_j2 : ((Int × ((Unit × Unit) × (Int × (Bool × Unit)))) × ((Bool × Unit) × Unit)) → Option ((Int × (Bool × Unit)) × Unit) := (fun (z1 : ((Int × ((Unit × Unit) × (Int × (Bool × Unit)))) × ((Bool × Unit) × Unit))) => (bif z1.1.2.2.2.1 then
      (some (((10 : Int), (false, ())), ()))
      else
      (bif (decide (z1.1.2.2.1 = (8 : Int))) then
        (some (((11 : Int), (false, ())), ()))
        else
        (bif (decide (z1.1.2.2.1 = (9 : Int))) then
          (some (((12 : Int), (false, ())), ()))
          else
          (bif (decide (z1.1.2.2.1 = (10 : Int))) then
            (some (((if (z1.2.1.1 = true) then (14 : Int) else (13 : Int)), (false, ())), ()))
            else
            (bif (decide (z1.1.2.2.1 = (11 : Int))) then
              (some (((15 : Int), (false, ())), ()))
              else
              (bif (decide (z1.1.2.2.1 = (12 : Int))) then
                (some (((16 : Int), (false, ())), ()))
                else
                (jpO (go71_j3)
                  (fun (j0 : (((Int × ((Unit × Unit) × (Int × (Bool × Unit)))) × ((Bool × Unit) × Unit)) → (Option ((Int × (Bool × Unit)) × Unit)))) => (bif (decide (z1.1.2.2.1 = (13 : Int))) then
                      (j0 ((z1.1.1, (((), ()), (z1.1.2.2.1, (true, ())))), ((z1.2.1.1, ()), ())))
                      else
                      (j0 ((z1.1.1, (((), ()), (z1.1.2.2.1, ((decide (z1.1.2.2.1 = (15 : Int))), ())))), ((z1.2.1.1, ()), ())))))))))))))
def go71_j1 : ((Int × ((Unit × Unit) × (Int × (Bool × Unit)))) × ((Bool × Unit) × Unit)) → Option ((Int × (Bool × Unit)) × Unit) := (fun (z0 : ((Int × ((Unit × Unit) × (Int × (Bool × Unit)))) × ((Bool × Unit) × Unit))) => (bif z0.1.2.2.2.1 then
      (some (((9 : Int), (false, ())), ()))
      else
      (jpO (go71_j2)
        (fun (j0 : (((Int × ((Unit × Unit) × (Int × (Bool × Unit)))) × ((Bool × Unit) × Unit)) → (Option ((Int × (Bool × Unit)) × Unit)))) => (bif (decide (z0.1.2.2.1 = (7 : Int))) then
            (j0 ((z0.1.1, (((), ()), (z0.1.2.2.1, (true, ())))), ((z0.2.1.1, ()), ())))
            else
            (j0 ((z0.1.1, (((), ()), (z0.1.2.2.1, ((decide (z0.1.2.2.1 = (18 : Int))), ())))), ((z0.2.1.1, ()), ()))))))))
def go71 (x0 : Int) (x1 : Bool) : (Option ((Int × (Bool × Unit)) × Unit)) :=
  (bif (decide (x0 = (1 : Int))) then
    (some (((2 : Int), (false, ())), ()))
    else
    (bif (decide (x0 = (2 : Int))) then
      (some (((3 : Int), (false, ())), ()))
      else
      (bif (decide (x0 = (3 : Int))) then
        (some (((4 : Int), (false, ())), ()))
        else
        (bif (decide (x0 = (4 : Int))) then
          (some (((if (x1 = true) then (7 : Int) else (5 : Int)), (false, ())), ()))
          else
          (bif (decide (x0 = (5 : Int))) then
            (some (((if (x1 = true) then (8 : Int) else (6 : Int)), (false, ())), ()))
            else
            (jpO (go71_j1)
              (fun (j0 : (((Int × ((Unit × Unit) × (Int × (Bool × Unit)))) × ((Bool × Unit) × Unit)) → (Option ((Int × (Bool × Unit)) × Unit)))) => (bif (decide (x0 = (6 : Int))) then
                  (j0 ((x0, (((), ()), (x0, (true, ())))), ((x1, ()), ())))
                  else
                  (j0 ((x0, (((), ()), (x0, ((decide (x0 = (17 : Int))), ())))), ((x1, ()), ())))))))))))
theorem run71 (x0 : Int) (x1 : Bool) : runF (P := Try.prog) [c102] Try.f71 ann71 [(0, (.i .i64)), (1, .b)] [] (.tup [(.i .i64), .b]) [] (x0, (x1, ())) () = go71 x0 x1 := by kernel_rfl
def ann31 : Ann := (.seq .o (.seq .o .o))
def go31 (x0 : Typ) (x1 : Typ) (x2 : Int) : (Option (Int × Unit)) :=
  (callB (grd (okB (U64 x2))
      (some ((Sp.extend x0.width x1.width x2 x0.signed), ())))
    (fun (r0 : (Int × Unit)) => (some (r0.1, ()))))
theorem run31 (x0 : Typ) (x1 : Typ) (x2 : Int) : runF (P := Try.prog) [c75] Try.f31 ann31 [(0, (.st 7)), (1, (.st 7)), (2, (.i .u64))] [] (.i .u64) [] (x0, (x1, (x2, ()))) () = go31 x0 x1 x2 := by kernel_rfl
def ann73 : Ann := (.seq .o (.seq .o (.join ⟨[(0, (.i .i64)), (1, .b), (5, (.full 0))], [(.lst 3 (.int .i64))]⟩ (.seq .o (.cond (.seq .o .o) .o)) (.join ⟨[(0, (.i .i64)), (5, (.full 0))], [(.lst 3 (.int .i64))]⟩ (.seq .o (.cond (.seq .o .o) .o)) (.join ⟨[(0, (.i .i64)), (5, (.full 0))], [(.lst 3 (.int .i64))]⟩ (.seq .o (.block (.seq .o (.cond (.seq .o .o) (.seq .o (.cond (.seq .o .o) (.seq .o (.cond (.seq .o .o) (.join ⟨[(0, (.i .i64)), (5, (.full 0)), (21, (.i .i64)), (28, .b)], [(.lst 3 (.int .i64))]⟩ (.seq .o (.cond .o .o)) (.cond (.seq .o .o) (.join ⟨[(0, (.i .i64)), (5, (.full 0)), (31, .b)], [(.lst 3 (.int .i64))]⟩ (.seq .o (.cond .o .o)) (.cond (.seq .o .o) .o)))))))))))) (.seq .o .o))))))
def go73_j2 : ((Int × (Unit × (Bool × Unit))) × ((List Int) × Unit)) → Option (Int × Unit) := (fun (z1 : ((Int × (Unit × (Bool × Unit))) × ((List Int) × Unit))) => (bif z1.1.2.2.1 then
      (some ((20 : Int), ()))
      else
      (grd (okB (((0 : Int) ≤ z1.1.1) ∧ (z1.1.1 < ((z1.2.1.length : Nat) : Int))))
        (grd (Nat.blt z1.1.1.toNat z1.2.1.length)
          (some ((z1.2.1.getD z1.1.1.toNat (0 : Int)), ()))))))
def go73_j1 : ((Int × (Unit × (Int × (Bool × Unit)))) × ((List Int) × Unit)) → Option (Int × Unit) := (fun (z0 : ((Int × (Unit × (Int × (Bool × Unit)))) × ((List Int) × Unit))) => (bif z0.1.2.2.2.1 then
      (some ((19 : Int), ()))
      else
      (jpO (go73_j2)
        (fun (j0 : (((Int × (Unit × (Bool × Unit))) × ((List Int) × Unit)) → (Option (Int × Unit)))) => (bif (decide (z0.1.2.2.1 = (14 : Int))) then
            (j0 ((z0.1.1, ((), (true, ()))), (z0.2.1, ())))
            else
            (j0 ((z0.1.1, ((), ((decide (z0.1.2.2.1 = (16 : Int))), ()))), (z0.2.1, ()))))))))
def go73 (x0 : Int) (x1 : Bool) : (Option (Int × Unit)) :=
  (bif (decide (x0 < (1 : Int))) then
    (some ((0 : Int), ()))
    else
    (bif (decide (((19 : Nat) : Int) ≤ x0)) then
      (some ((0 : Int), ()))
      else
      (bif (!x1) then
        (grd (okB (((0 : Int) ≤ x0) ∧ (x0 < ((19 : Nat) : Int))))
          (grd (Nat.blt x0.toNat 19)
            (some ((((0 : Int) :: ((2 : Int) :: ((3 : Int) :: ((4 : Int) :: ((5 : Int) :: ((6 : Int) :: ((9 : Int) :: ((10 : Int) :: ((11 : Int) :: ((12 : Int) :: ((13 : Int) :: ((15 : Int) :: ((16 : Int) :: ((17 : Int) :: ((18 : Int) :: ((17 : Int) :: ((18 : Int) :: ((9 : Int) :: ((10 : Int) :: ([] : List Int)))))))))))))))))))).getD x0.toNat (0 : Int)), ()))))
        else
        (bif (decide (x0 = (4 : Int))) then
          (some ((7 : Int), ()))
          else
          (bif (decide (x0 = (5 : Int))) then
            (some ((8 : Int), ()))
            else
            (bif (decide (x0 = (10 : Int))) then
              (some ((14 : Int), ()))
              else
              (jpO (go73_j1)
                (fun (j0 : (((Int × (Unit × (Int × (Bool × Unit)))) × ((List Int) × Unit)) → (Option (Int × Unit)))) => (bif (decide (x0 = (13 : Int))) then
                    (j0 ((x0, ((), (x0, (true, ())))), (((0 : Int) :: ((2 : Int) :: ((3 : Int) :: ((4 : Int) :: ((5 : Int) :: ((6 : Int) :: ((9 : Int) :: ((10 : Int) :: ((11 : Int) :: ((12 : Int) :: ((13 : Int) :: ((15 : Int) :: ((16 : Int) :: ((17 : Int) :: ((18 : Int) :: ((17 : Int) :: ((18 : Int) :: ((9 : Int) :: ((10 : Int) :: ([] : List Int)))))))))))))))))))), ())))
                    else
                    (j0 ((x0, ((), (x0, ((decide (x0 = (15 : Int))), ())))), (((0 : Int) :: ((2 : Int) :: ((3 : Int) :: ((4 : Int) :: ((5 : Int) :: ((6 : Int) :: ((9 : Int) :: ((10 : Int) :: ((11 : Int) :: ((12 : Int) :: ((13 : Int) :: ((15 : Int) :: ((16 : Int) :: ((17 : Int) :: ((18 : Int) :: ((17 : Int) :: ((18 : Int) :: ((9 : Int) :: ((10 : Int) :: ([] : List Int)))))))))))))))))))), ()))))))))))))
theorem run73 (x0 : Int) (x1 : Bool) : runF (P := Try.prog) [] Try.f73 ann73 [(0, (.i .i64)), (1, .b)] [] (.i .i64) [] (x0, (x1, ())) () = go73 x0 x1 := by kernel_rfl
def Sp.src (op : Int) (s : Bool) : Int :=
  if op = 1 then 2 else if op = 2 then 3 else if op = 3 then 4 else if op = 4 then (if s = true then 7 else 5) else if op = 5 then (if s = true then 8 else 6)
  else if op = 6 ∨ op = 17 then 9 else if op = 7 ∨ op = 18 then 10 else if op = 8 then 11 else if op = 9 then 12 else if op = 10 then (if s = true then 14 else 13)
  else if op = 11 then 15 else if op = 12 then 16 else if op = 13 ∨ op = 15 then (if s = true then 19 else 17) else if op = 14 ∨ op = 16 then (if s = true then 20 else 18) else 0
def Sp.swap (op : Int) : Bool := decide (op = 15) || decide (op = 16)
theorem op_cases (op : Int) : (op < 1 ∨ 18 < op) ∨ op = 1 ∨ op = 2 ∨ op = 3 ∨ op = 4 ∨ op = 5 ∨ op = 6 ∨ op = 7 ∨ op = 8 ∨ op = 9 ∨ op = 10 ∨ op = 11 ∨ op = 12 ∨ op = 13 ∨ op = 14 ∨ op = 15 ∨ op = 16 ∨ op = 17 ∨ op = 18 := by omega
theorem src_out {op : Int} (h : op < 1 ∨ 18 < op) (s : Bool) : Sp.src op s = 0 ∧ Sp.swap op = false := by
  have e : ∀ n : Int, 1 ≤ n → n ≤ 18 → ¬ op = n := fun n h1 h2 => by omega
  unfold Sp.src Sp.swap
  simp [e 1 (by decide) (by decide), e 2 (by decide) (by decide), e 3 (by decide) (by decide), e 4 (by decide) (by decide), e 5 (by decide) (by decide), e 6 (by decide) (by decide), e 7 (by decide) (by decide), e 8 (by decide) (by decide), e 9 (by decide) (by decide), e 10 (by decide) (by decide), e 11 (by decide) (by decide), e 12 (by decide) (by decide), e 13 (by decide) (by decide), e 14 (by decide) (by decide), e 15 (by decide) (by decide), e 16 (by decide) (by decide), e 17 (by decide) (by decide), e 18 (by decide) (by decide)]
theorem ok71 (op : Int) (s : Bool) : go71 op s = some ((Sp.src op s, Sp.swap op, ()), ()) := by
  rcases op_cases op with h | h | h | h | h | h | h | h | h | h | h | h | h | h | h | h | h | h | h
  · obtain ⟨e1, e2⟩ := src_out h s
    rw [e1, e2]
    have e : ∀ n : Int, 1 ≤ n → n ≤ 18 → ¬ op = n := fun n h1 h2 => by omega
    unfold go71 go71_j1 go71_j2 go71_j3 go71_j4
    simp [e 1 (by decide) (by decide), e 2 (by decide) (by decide), e 3 (by decide) (by decide), e 4 (by decide) (by decide), e 5 (by decide) (by decide), e 6 (by decide) (by decide), e 7 (by decide) (by decide), e 8 (by decide) (by decide), e 9 (by decide) (by decide), e 10 (by decide) (by decide), e 11 (by decide) (by decide), e 12 (by decide) (by decide), e 13 (by decide) (by decide), e 14 (by decide) (by decide), e 15 (by decide) (by decide), e 16 (by decide) (by decide), e 17 (by decide) (by decide), e 18 (by decide) (by decide)]
  all_goals (subst h; cases s <;> rfl)
def c71 : Ctr Try.prog := mkCtr 71 Try.f71 Try.func71 [c102] ann71 [(0, (.i .i64)), (1, .b)] [] (.tup [(.i .i64), .b]) [] (fun x _ => some ((Sp.src x.1 x.2.1, Sp.swap x.1, ()), ())) (fun x _ r h => FE (run71 x.1 x.2.1) (ok71 x.1 x.2.1) h)
theorem ok31 (a b : Typ) (x : Int) (hx : U64 x) : go31 a b x = some (Sp.extend a.width b.width x a.signed, ()) := by
  unfold go31; rw [grd_ok hx]; rfl
def c31 : Ctr Try.prog := mkCtr 31 Try.f31 Try.func31 [c75] ann31 [(0, (.st 7)), (1, (.st 7)), (2, (.i .u64))] [] (.i .u64) [] (fun x _ => grd (okB (U64 x.2.2.1)) (some (Sp.extend x.1.width x.2.1.width x.2.2.1 x.1.signed, ()))) (fun x _ r h => FO (run31 x.1 x.2.1 x.2.2.1) (ok31 x.1 x.2.1 x.2.2.1) h)
theorem ok73 (op : Int) (s : Bool) : go73 op s = some (Sp.src op s, ()) := by
  rcases op_cases op with h | h | h | h | h | h | h | h | h | h | h | h | h | h | h | h | h | h | h
  · obtain ⟨e1, e2⟩ := src_out h s
    rw [e1]
    unfold go73
    rcases h with h | h
    · rw [decide_eq_true h]; rfl
    · rw [decide_eq_false (show ¬ op < 1 by omega), decide_eq_true (show ((19 : Nat) : Int) ≤ op by omega)]; rfl
  all_goals
    subst h
    unfold go73 go73_j1 go73_j2
    cases s <;> simp (maxSteps := 1000000) (disch := ((try dsimp only); omega)) only [↓grd_dec, ↓grd_blt, ↓grd_true, ↓jpO_eq, ↓callB_some, ↓callB_grd, ↓bif_decide, ↓sumO_inl, ↓sumO_inr, ↓if_pos, ↓if_neg, ↓cond_true, ↓cond_false, ↓bif_not, Int.toNat_natCast, Bool.not_true, Bool.not_false, decide_true, decide_false, Bool.false_eq_true, ↓if_true, ↓if_false, Int.natCast_add, Int.cast_ofNat_Int, Bool.not_eq_true', decide_eq_false_iff_not, not_true_eq_false, not_false_eq_true] <;> simp <;> first | done | rfl | (rw [grd_ok trivial]; rfl)
def c73 : Ctr Try.prog := mkCtr 73 Try.f73 Try.func73 [] ann73 [(0, (.i .i64)), (1, .b)] [] (.i .i64) [] (fun x _ => some (Sp.src x.1 x.2.1, ())) (fun x _ r h => FE (run73 x.1 x.2.1) (ok73 x.1 x.2.1) h)
end
end Go.Abs


set_option linter.unusedVariables false
set_option linter.unusedSectionVars false
set_option linter.unusedSimpArgs false
set_option maxHeartbeats 1000000
namespace Go.Abs
open Go Go.Proofs
noncomputable section
def ann29 : Ann := (.seq .o (.seq .o (.join ⟨[(0, (.i .i64)), (2, (.i .u64)), (3, (.i .u64)), (5, (.ptr 0 0)), (9, (.i .i64)), (10, .b)], [(.box 57 (.st 7))]⟩ (.seq .o (.cond (.seq .o .o) .o)) (.join ⟨[(0, (.i .i64)), (2, (.i .u64)), (3, (.i .u64)), (5, (.ptr 0 0)), (9, (.i .i64))], [(.box 57 (.st 7))]⟩ (.seq .o (.cond .o .o)) (.seq .o (.join ⟨[(2, (.i .u64)), (3, (.i .u64)), (9, (.i .i64)), (11, (.i .i64))], []⟩ (.seq .o (.cond .o .o)) (.seq .o (.seq .o .o))))))))
def go29_j2 : ((Int × (Int × (Int × (Int × Unit)))) × Unit) → Option (Int × Unit) := (fun (z1 : ((Int × (Int × (Int × (Int × Unit)))) × Unit)) => (callB (grd (okB ((U64 z1.1.1) ∧ (U64 z1.1.2.1)))
        (some ((Sp.binR z1.1.2.2.1 z1.1.2.2.2.1 z1.1.1 z1.1.2.1), ())))
      (fun (r0 : ((Int × (Int × Unit)) × Unit)) => (some (r0.1.1, ())))))
def go29_j1 : ((Int × (Int × (Int × (Unit × (Int × Unit))))) × (Typ × Unit)) → Option (Int × Unit) := (fun (z0 : ((Int × (Int × (Int × (Unit × (Int × Unit))))) × (Typ × Unit))) => (jpO (go29_j2)
      (fun (j0 : (((Int × (Int × (Int × (Int × Unit)))) × Unit) → (Option (Int × Unit)))) => (bif (decide (z0.1.1 = (17 : Int))) then
          (j0 ((z0.1.2.1, (z0.1.2.2.1, (z0.1.2.2.2.2.1, ((1 : Int), ())))), ()))
          else
          (bif (decide (z0.1.1 = (18 : Int))) then
            (j0 ((z0.1.2.1, (z0.1.2.2.1, (z0.1.2.2.2.2.1, ((1 : Int), ())))), ()))
            else
            (j0 ((z0.1.2.1, (z0.1.2.2.1, (z0.1.2.2.2.2.1, (z0.2.1.width, ())))), ())))))))
def go29 (x0 : Int) (x1 : Typ) (x2 : Int) (x3 : Int) : (Option (Int × Unit)) :=
  (bif (decide (x1.width < (1 : Int))) then
    (some ((0 : Int), ()))
    else
    (bif (decide ((64 : Int) < x1.width)) then
      (some ((0 : Int), ()))
      else
      (bif (decide ((Sp.src x0 x1.signed) = (0 : Int))) then
        (some ((0 : Int), ()))
        else
        (jpO (go29_j1)
          (fun (j0 : (((Int × (Int × (Int × (Unit × (Int × Unit))))) × (Typ × Unit)) → (Option (Int × Unit)))) => (bif (Sp.swap x0) then
              (j0 ((x0, (x3, (x2, ((), ((Sp.src x0 x1.signed), ()))))), (x1, ())))
              else
              (j0 ((x0, (x2, (x3, ((), ((Sp.src x0 x1.signed), ()))))), (x1, ())))))))))
theorem run29 (x0 : Int) (x1 : Typ) (x2 : Int) (x3 : Int) : runF (P := Try.prog) [c71, c72] Try.f29 ann29 [(0, (.i .i64)), (1, (.st 7)), (2, (.i .u64)), (3, (.i .u64))] [] (.i .u64) [] (x0, (x1, (x2, (x3, ())))) () = go29 x0 x1 x2 x3 := by kernel_rfl
def Sp.srcW (op w : Int) : Int := if op = 17 ∨ op = 18 then 1 else w
def Sp.apply (op : Int) (t : Typ) (a b : Int) : Int :=
  if t.width < 1 ∨ 64 < t.width ∨ Sp.src op t.signed = 0 then 0
  else if Sp.swap op = true then Sp.bin (Sp.src op t.signed) (Sp.srcW op t.width) b a else Sp.bin (Sp.src op t.signed) (Sp.srcW op t.width) a b
theorem src_bin {op : Int} {s : Bool} (h : Sp.src op s ≠ 0) : Sp.isBinary (Sp.src op s) = true := by
  rcases op_cases op with h' | h' | h' | h' | h' | h' | h' | h' | h' | h' | h' | h' | h' | h' | h' | h' | h' | h' | h'
  · exact absurd (src_out h' s).1 h
  all_goals (subst h'; cases s <;> rfl)
theorem ok29 (op : Int) (t : Typ) (a b : Int) (h : U64 a ∧ U64 b) : go29 op t a b = some (Sp.apply op t a b, ()) := by
  have j1 : ∀ x y o : Int, U64 x → U64 y → Sp.isBinary o = true → 1 ≤ t.width → t.width ≤ 64 → go29_j1 ((op, x, y, (), o, ()), t, ()) = some (Sp.bin o (Sp.srcW op t.width) x y, ()) := fun x y o hx hy ho h1 h2 => by
    have j2 : ∀ w : Int, 1 ≤ w → w ≤ 64 → go29_j2 ((x, y, o, w, ()), ()) = some (Sp.bin o w x y, ()) := fun w h1 h2 => by
      unfold go29_j2
      rw [grd_ok ⟨hx, hy⟩]
      simp only [callB_some, Sp.binR]
      rw [if_pos ⟨ho, h1, h2⟩]
    unfold go29_j1 Sp.srcW
    simp only [jpO_eq, bif_decide, j2 1 (by decide) (by decide), j2 t.width h1 h2]
    by_cases e1 : op = 17
    · simp [e1]
    · by_cases e2 : op = 18 <;> simp [e1, e2]
  unfold go29 Sp.apply
  by_cases h1 : t.width < 1
  · rw [if_pos (.inl h1), decide_eq_true h1]; rfl
  by_cases h2 : 64 < t.width
  · rw [if_pos (.inr (.inl h2)), decide_eq_true h2, decide_eq_false h1]; rfl
  by_cases h3 : Sp.src op t.signed = 0
  · rw [if_pos (.inr (.inr h3)), decide_eq_true h3, decide_eq_false h1, decide_eq_false h2]; rfl
  rw [if_neg (by simp [h1, h2, h3]), decide_eq_false h1, decide_eq_false h2, decide_eq_false h3]
  have hb := src_bin h3
  simp only [cond_false, jpO_eq, j1 _ _ _ h.1 h.2 hb (by omega) (by omega), j1 _ _ _ h.2 h.1 hb (by omega) (by omega)]
  cases Sp.swap op <;> rfl
def c29 : Ctr Try.prog := mkCtr 29 Try.f29 Try.func29 [c71, c72] ann29 [(0, (.i .i64)), (1, (.st 7)), (2, (.i .u64)), (3, (.i .u64))] [] (.i .u64) [] (fun x _ => grd (okB (U64 x.2.2.1 ∧ U64 x.2.2.2.1)) (some (Sp.apply x.1 x.2.1 x.2.2.1 x.2.2.2.1, ()))) (fun x _ r h => FO (run29 x.1 x.2.1 x.2.2.1 x.2.2.2.1) (ok29 x.1 x.2.1 x.2.2.1 x.2.2.2.1) h)
end
end Go.Abs


set_option linter.unusedVariables false
set_option linter.unusedSectionVars false
set_option linter.unusedSimpArgs false
set_option maxHeartbeats 1000000
namespace Go.Abs
open Go Go.Proofs
noncomputable section
def ann30 : Ann := (.seq .o (.seq .o (.join ⟨[(0, (.i .i64)), (2, (.i .u64)), (3, (.i .u64)), (5, (.ptr 0 0)), (9, (.i .i64))], [(.box 57 (.st 7))]⟩ (.seq .o (.cond (.seq .o .o) .o)) (.seq .o (.join ⟨[(2, (.i .u64)), (3, (.i .u64)), (9, (.i .i64)), (10, (.i .i64))], []⟩ (.seq .o (.block (.join ⟨[(2, (.i .u64)), (3, (.i .u64)), (9, (.i .i64)), (10, (.i .i64)), (23, (.i .i64)), (24, .b)], []⟩ (.seq .o (.cond .o .o)) (.cond (.seq .o .o) (.join ⟨[(2, (.i .u64)), (3, (.i .u64)), (9, (.i .i64)), (10, (.i .i64)), (32, .b)], []⟩ (.seq .o (.cond .o .o)) (.cond (.seq .o .o) .o)))))) (.join ⟨[(2, (.i .u64)), (3, (.i .u64)), (9, (.i .i64)), (10, (.i .i64))], []⟩ (.seq .o (.cond (.seq .o .o) .o)) (.seq .o .o)))))))
def go30_j2 : ((Int × (Int × (Int × (Int × (Bool × Unit))))) × Unit) → Option (Int × Unit) := (fun (z1 : ((Int × (Int × (Int × (Int × (Bool × Unit))))) × Unit)) => (bif z1.1.2.2.2.2.1 then
      (callB (grd (okB ((U64 z1.1.1) ∧ ((U64 z1.1.2.1) ∧ (((1 : Int) ≤ (1 : Int)) ∧ (((1 : Int) ≤ (64 : Int)) ∧ ((Sp.isBinary z1.1.2.2.2.1) = true))))))
          (some ((Sp.bin z1.1.2.2.2.1 (1 : Int) z1.1.1 z1.1.2.1), ())))
        (fun (r0 : (Int × Unit)) => (some (r0.1, ()))))
      else
      (bif (decide (z1.1.2.2.2.1 = (0 : Int))) then
        (some ((0 : Int), ()))
        else
        (callB (grd (okB ((U64 z1.1.1) ∧ ((U64 z1.1.2.1) ∧ (((1 : Int) ≤ z1.1.2.2.1) ∧ ((z1.1.2.2.1 ≤ (64 : Int)) ∧ ((Sp.isBinary z1.1.2.2.2.1) = true))))))
            (some ((Sp.bin z1.1.2.2.2.1 z1.1.2.2.1 z1.1.1 z1.1.2.1), ())))
          (fun (r0 : (Int × Unit)) => (some (r0.1, ())))))))
def go30_j1 : ((Int × (Int × (Int × (Int × (Int × (Bool × Unit)))))) × Unit) → Option (Int × Unit) := (fun (z0 : ((Int × (Int × (Int × (Int × (Int × (Bool × Unit)))))) × Unit)) => (bif z0.1.2.2.2.2.2.1 then
      (callB (grd (okB ((U64 z0.1.2.1) ∧ ((U64 z0.1.1) ∧ (((1 : Int) ≤ z0.1.2.2.1) ∧ ((z0.1.2.2.1 ≤ (64 : Int)) ∧ ((Sp.isBinary z0.1.2.2.2.1) = true))))))
          (some ((Sp.bin z0.1.2.2.2.1 z0.1.2.2.1 z0.1.2.1 z0.1.1), ())))
        (fun (r0 : (Int × Unit)) => (some (r0.1, ()))))
      else
      (jpO (go30_j2)
        (fun (j0 : (((Int × (Int × (Int × (Int × (Bool × Unit))))) × Unit) → (Option (Int × Unit)))) => (bif (decide (z0.1.2.2.2.2.1 = (17 : Int))) then
            (j0 ((z0.1.1, (z0.1.2.1, (z0.1.2.2.1, (z0.1.2.2.2.1, (true, ()))))), ()))
            else
            (j0 ((z0.1.1, (z0.1.2.1, (z0.1.2.2.1, (z0.1.2.2.2.1, ((decide (z0.1.2.2.2.2.1 = (18 : Int))), ()))))), ())))))))
def go30 (x0 : Int) (x1 : Typ) (x2 : Int) (x3 : Int) : (Option (Int × Unit)) :=
  (bif (decide (x1.width < (1 : Int))) then
    (some ((0 : Int), ()))
    else
    (bif (decide ((64 : Int) < x1.width)) then
      (some ((0 : Int), ()))
      else
      (jpO (go30_j1)
        (fun (j0 : (((Int × (Int × (Int × (Int × (Int × (Bool × Unit)))))) × Unit) → (Option (Int × Unit)))) => (bif (decide (x0 = (15 : Int))) then
            (j0 ((x2, (x3, (x1.width, ((Sp.src x0 x1.signed), (x0, (true, ())))))), ()))
            else
            (j0 ((x2, (x3, (x1.width, ((Sp.src x0 x1.signed), (x0, ((decide (x0 = (16 : Int))), ())))))), ())))))))
theorem run30 (x0 : Int) (x1 : Typ) (x2 : Int) (x3 : Int) : runF (P := Try.prog) [c73, c74] Try.f30 ann30 [(0, (.i .i64)), (1, (.st 7)), (2, (.i .u64)), (3, (.i .u64))] [] (.i .u64) [] (x0, (x1, (x2, (x3, ())))) () = go30 x0 x1 x2 x3 := by kernel_rfl
def ann28 : Ann := (.seq .o (.seq .o .o))
def go28  : (Option (Bool × Unit)) :=
  (callB (grd (okB ((U64 (9 : Int)) ∧ (U64 (8 : Int))))
      (some ((Sp.apply (1 : Int) (Typ.mk (4 : Int) false) (9 : Int) (8 : Int)), ())))
    (fun (r0 : (Int × Unit)) => (some ((decide (r0.1 = (1 : Int))), ()))))
theorem run28  : runF (P := Try.prog) [c29] Try.f28 ann28 [] [] .b [] () () = go28 := by kernel_rfl
theorem ok30 (op : Int) (t : Typ) (a b : Int) (h : U64 a ∧ U64 b) : go30 op t a b = some (Sp.apply op t a b, ()) := by
  unfold go30 Sp.apply
  by_cases h1 : t.width < 1
  · rw [if_pos (.inl h1), decide_eq_true h1]; rfl
  by_cases h2 : 64 < t.width
  · rw [if_pos (.inr (.inl h2)), decide_eq_true h2, decide_eq_false h1]; rfl
  have w1 : 1 ≤ t.width := by omega
  have w2 : t.width ≤ 64 := by omega
  rw [decide_eq_false h1, decide_eq_false h2]
  have j1 : ∀ x : Bool, x = Sp.swap op → go30_j1 ((a, b, t.width, Sp.src op t.signed, op, x, ()), ()) = some ((if t.width < 1 ∨ 64 < t.width ∨ Sp.src op t.signed = 0 then 0 else if Sp.swap op = true then Sp.bin (Sp.src op t.signed) (Sp.srcW op t.width) b a else Sp.bin (Sp.src op t.signed) (Sp.srcW op t.width) a b), ()) := by
    rintro x rfl
    unfold go30_j1
    by_cases hs : Sp.swap op = true
    · have h15 : op = 15 ∨ op = 16 := by unfold Sp.swap at hs; simpa using hs
      have hne : Sp.src op t.signed ≠ 0 := by rcases h15 with rfl | rfl <;> cases t.signed <;> decide
      have hw : Sp.srcW op t.width = t.width := by unfold Sp.srcW; rw [if_neg (by omega)]
      rw [if_neg (by simp [h1, h2, hne]), if_pos hs, hs, hw]
      simp only [cond_true]
      rw [grd_ok ⟨h.2, h.1, w1, w2, src_bin hne⟩, callB_some]
    · rw [if_neg hs]
      have hs' : Sp.swap op = false := by simpa using hs
      rw [hs']
      simp only [cond_false, jpO_eq]
      by_cases h17 : op = 17 ∨ op = 18
      · have hne : Sp.src op t.signed ≠ 0 := by rcases h17 with rfl | rfl <;> cases t.signed <;> decide
        have hw : Sp.srcW op t.width = 1 := by unfold Sp.srcW; rw [if_pos h17]
        rw [if_neg (by simp [h1, h2, hne]), hw]
        have j2 : ∀ y : Bool, y = true → go30_j2 ((a, b, t.width, Sp.src op t.signed, y, ()), ()) = some (Sp.bin (Sp.src op t.signed) 1 a b, ()) := by
          rintro y rfl
          unfold go30_j2
          simp only [cond_true]
          rw [grd_ok ⟨h.1, h.2, by decide, by decide, src_bin hne⟩, callB_some]
        rcases h17 with e | e
        · rw [decide_eq_true e, cond_true, j2 _ rfl]
        · rw [decide_eq_true e, decide_eq_false (show ¬ op = 17 by omega), cond_false, j2 _ rfl]
      · have hw : Sp.srcW op t.width = t.width := by unfold Sp.srcW; rw [if_neg h17]
        rw [decide_eq_false (show ¬ op = 17 by omega), decide_eq_false (show ¬ op = 18 by omega), cond_false, hw]
        unfold go30_j2
        simp only [cond_false]
        by_cases h0 : Sp.src op t.signed = 0
        · rw [decide_eq_true h0, if_pos (.inr (.inr h0))]; rfl
        · rw [decide_eq_false h0, if_neg (by simp [h1, h2, h0]), cond_false, grd_ok ⟨h.1, h.2, w1, w2, src_bin h0⟩, callB_some]
  simp only [cond_false, jpO_eq]
  by_cases h15 : op = 15
  · rw [decide_eq_true h15, cond_true, j1 _ (by simp [Sp.swap, h15])]
  · rw [decide_eq_false h15, cond_false, j1 _ (by simp [Sp.swap, h15])]
def c30 : Ctr Try.prog := mkCtr 30 Try.f30 Try.func30 [c73, c74] ann30 [(0, (.i .i64)), (1, (.st 7)), (2, (.i .u64)), (3, (.i .u64))] [] (.i .u64) [] (fun x _ => grd (okB (U64 x.2.2.1 ∧ U64 x.2.2.2.1)) (some (Sp.apply x.1 x.2.1 x.2.2.1 x.2.2.2.1, ()))) (fun x _ r h => FO (run30 x.1 x.2.1 x.2.2.1 x.2.2.2.1) (ok30 x.1 x.2.1 x.2.2.1 x.2.2.2.1) h)
theorem ok28 : go28 = some (true, ()) := by
  unfold go28
  rw [grd_ok ⟨⟨by decide, by decide⟩, ⟨by decide, by decide⟩⟩, callB_some]
  rfl
def c28 : Ctr Try.prog := mkCtr 28 Try.f28 Try.func28 [c29] ann28 [] [] .b [] (fun x _ => some (true, ())) (fun x _ r h => FE run28 ok28 h)
end
end Go.Abs


set_option linter.unusedVariables false
namespace Go.Abs
open Go Go.Proofs
section
variable {P : Program} {t : TypeId}
theorem weightsAll_in {H : Type} {el : TypeId} {l : List (DataW H)} {d : DataW H} (hd : d ∈ l) (h : (DataW.weightsAll P el l).all (· ≤ reachBytes) = true) : Wt P el d := by
  unfold Wt
  rw [List.all_eq_true] at h ⊢
  exact fun m hm => h m (weightsAll_mem hd m hm)
theorem Opens.elt {n : Nat} {el : TypeId} (hu : P.underlying t = some (.array n el)) {i : Nat} (hi : i < n) {s : Nat} {α : Type} {e : α → Nat → T} {ok : α → Prop} (O : Opens P el s e ok)
    {H : Type} {enc : TypeId × Value → H} {w : World} {spare : Nat → Bool} {fuel : Nat} {cs : List Value} {x : DataW H × List MemPlace} (hx : DataW.trod enc P w 0 spare true fuel t cs = some x) (hw : Wt P t x.1) :
    ∃ a, ok a ∧ ∀ j, j < s → ∃ c, cs[i * s + j]? = some c ∧ Reads (Below' w) w (e a j) c := by
  obtain ⟨xs, m, rfl, rfl, hl, hxl, hx⟩ := DataW.trod_array hu hx
  have h := hx i hi
  have hi' : i < xs.length := by omega
  rw [List.getElem?_eq_getElem hi', O.sz] at h
  obtain ⟨a, hok, hlen, hr⟩ := O.out H enc w spare m _ _ h (by
    simp only [Wt, DataW.weights, hu] at hw
    exact weightsAll_in (List.mem_map.2 ⟨xs[i], List.getElem_mem hi', rfl⟩) hw)
  refine ⟨a, hok, fun j hj => ?_⟩
  obtain ⟨c, hc1, hc2⟩ := hr j hj
  refine ⟨c, ?_, hc2⟩
  rw [← hc1, List.getElem?_take, if_pos (by omega), List.getElem?_drop]
theorem Opens.lenA {n : Nat} {el : TypeId} (hu : P.underlying t = some (.array n el)) {H : Type} {enc : TypeId × Value → H} {w : World} {spare : Nat → Bool} {fuel : Nat} {cs : List Value} {x : DataW H × List MemPlace} (hx : DataW.trod enc P w 0 spare true fuel t cs = some x) :
    cs.length = P.cellsOf t := by
  obtain ⟨xs, m, rfl, rfl, hl, hxl, hx⟩ := DataW.trod_array hu hx
  exact hl
theorem Opens.topA {k : Nat} {el : TypeId} (hu : P.underlying t = some (.array k el)) {n : Nat} {α : Type} {e : α → Nat → T} {ok : α → Prop} (O : Opens P t n e ok)
    {H : Type} {enc : TypeId × Value → H} {W : World} {spare : Nat → Bool} {r : Reach} {base : Nat} {v : Value} {d : DataW H} {ps : List MemPlace}
    (hval : Value.okWide P W r base t v) (h : DataW.Trod enc P W 0 spare true t v d ps) (hw : Wt P t d) :
    ∃ a, ok a ∧ VRel Heap.none noι (Below' W) W (.agg n (fun j => .t (e a j))) v := by
  simp only [Value.okWide, hu] at hval
  obtain ⟨cs, rfl, -, -⟩ := hval
  obtain ⟨fuel, hf⟩ := h
  obtain ⟨a, hok, hl, hr⟩ := O.out H enc W spare fuel _ _ hf hw
  refine ⟨a, hok, cs, rfl, by simpa [Value.cells] using hl, fun j hj => ?_⟩
  obtain ⟨c, hc1, hc2⟩ := hr j hj
  exact ⟨c, by simpa [Value.cells] using hc1, hc2.plain, hc2⟩
end
def Typ.ok (x : Typ) : Prop := I64 x.width ∧ True
theorem opTyp : Opens Try.prog 57 2 Typ.e Typ.ok := ⟨by kernel_rfl, fun H enc w spare fuel cs x hx hw => by
  obtain ⟨a0, k0, r0⟩ := Opens.fld Try.underlying57 (i := 0) (off := 0) rfl rfl opI hx hw
  obtain ⟨a1, k1, r1⟩ := Opens.fld Try.underlying57 (i := 1) (off := 1) rfl rfl opB hx hw
  refine ⟨⟨a0, a1⟩, ⟨k0, k1⟩, (Opens.len Try.underlying57 hx).trans (by kernel_rfl), fun j hj => ?_⟩
  match j, hj with
  | 0, _ => exact r0 0 (by decide)
  | 1, _ => exact r1 0 (by decide)
  | n + 2, h => exact absurd h (by omega)⟩
def Typs2.e (x : Typ × Typ) : Nat → T
  | 0 => x.1.e 0
  | 1 => x.1.e 1
  | 2 => x.2.e 0
  | 3 => x.2.e 1
  | _ => .any
theorem opTyps2 : Opens Try.prog 58 4 Typs2.e (fun x => Typ.ok x.1 ∧ Typ.ok x.2) := ⟨by kernel_rfl, fun H enc w spare fuel cs x hx hw => by
  obtain ⟨a0, k0, r0⟩ := Opens.elt Try.underlying58 (i := 0) (by decide) opTyp hx hw
  obtain ⟨a1, k1, r1⟩ := Opens.elt Try.underlying58 (i := 1) (by decide) opTyp hx hw
  refine ⟨(a0, a1), ⟨k0, k1⟩, (Opens.lenA Try.underlying58 hx).trans (by kernel_rfl), fun j hj => ?_⟩
  match j, hj with
  | 0, _ => exact r0 0 (by decide)
  | 1, _ => exact r0 1 (by decide)
  | 2, _ => exact r1 0 (by decide)
  | 3, _ => exact r1 1 (by decide)
  | n + 4, h => exact absurd h (by omega)⟩
def Words2.e (x : Int × Int) : Nat → T
  | 0 => .int .u64 x.1
  | 1 => .int .u64 x.2
  | _ => .any
theorem opWords2 : Opens Try.prog 59 2 Words2.e (fun x => U64 x.1 ∧ U64 x.2) := ⟨by kernel_rfl, fun H enc w spare fuel cs x hx hw => by
  obtain ⟨a0, k0, r0⟩ := Opens.elt Try.underlying59 (i := 0) (by decide) opU hx hw
  obtain ⟨a1, k1, r1⟩ := Opens.elt Try.underlying59 (i := 1) (by decide) opU hx hw
  refine ⟨(a0, a1), ⟨k0, k1⟩, (Opens.lenA Try.underlying59 hx).trans (by kernel_rfl), fun j hj => ?_⟩
  match j, hj with
  | 0, _ => exact r0 0 (by decide)
  | 1, _ => exact r1 0 (by decide)
  | n + 2, h => exact absurd h (by omega)⟩
end Go.Abs


set_option linter.unusedVariables false
set_option linter.unusedSectionVars false
set_option linter.unusedSimpArgs false
set_option maxHeartbeats 1000000
namespace Go.Abs
open Go Go.Proofs
noncomputable section
def ann8 : Ann := (.seq .o (.join ⟨[(0, (.i .i64)), (4, (.ptr 0 0)), (5, (.ptr 1 0))], [(.cells 58 [(.i .i64), .b, (.i .i64), .b]), (.cells 59 [(.i .u64), (.i .u64)])]⟩ (.seq .o (.cond (.seq .o .o) .o)) (.seq .o .o)))
def go8 (x0 : Int) (x1 : (Int × (Bool × (Int × (Bool × Unit))))) (x2 : (Int × (Int × Unit))) : (Option (Bool × Unit)) :=
  (callB (grd (okB ((U64 x2.1) ∧ (U64 x2.2.1)))
      (some ((Sp.apply x0 (Typ.mk x1.1 x1.2.1) x2.1 x2.2.1), ())))
    (fun (r0 : (Int × Unit)) => (callB (grd (okB ((U64 x2.1) ∧ (U64 x2.2.1)))
          (some ((Sp.apply x0 (Typ.mk x1.1 x1.2.1) x2.1 x2.2.1), ())))
        (fun (r1 : (Int × Unit)) => (bif (decide (r0.1 = r1.1)) then
            (callB (grd (okB (U64 x2.1))
                (some ((Sp.extend x1.1 x1.2.2.1 x2.1 x1.2.1), ())))
              (fun (r2 : (Int × Unit)) => (callB (grd (okB (U64 x2.1))
                    (some ((Sp.extend x1.1 x1.2.2.1 x2.1 x1.2.1), ())))
                  (fun (r3 : (Int × Unit)) => (some ((decide (r2.1 = r3.1)), ()))))))
            else
            (some (false, ())))))))
theorem run8 (x0 : Int) (x1 : (Int × (Bool × (Int × (Bool × Unit))))) (x2 : (Int × (Int × Unit))) : runF (P := Try.prog) [c28, c29, c30, c31, c32] Try.f8 ann8 [(0, (.i .i64)), (1, (.agg [(.i .i64), .b, (.i .i64), .b])), (2, (.agg [(.i .u64), (.i .u64)]))] [] .b [] (x0, (x1, (x2, ()))) () = go8 x0 x1 x2 := by kernel_rfl
theorem ok8 (x0 : Int) (x1 : Int × (Bool × (Int × (Bool × Unit)))) (x2 : Int × (Int × Unit)) (h : U64 x2.1 ∧ U64 x2.2.1) : go8 x0 x1 x2 = some (true, ()) := by
  unfold go8
  simp only [grd_ok h, grd_ok h.1, callB_some, decide_true, cond_true]
def c8 : Ctr Try.prog := mkCtr 8 Try.f8 Try.func8 [c28, c29, c30, c31, c32] ann8 [(0, (.i .i64)), (1, (.agg [(.i .i64), .b, (.i .i64), .b])), (2, (.agg [(.i .u64), (.i .u64)]))] [] .b [] (fun x _ => grd (okB (U64 x.2.2.1.1 ∧ U64 x.2.2.1.2.1)) (some (true, ()))) (fun x _ r h => FO (run8 x.1 x.2.1 x.2.2.1) (ok8 x.1 x.2.1 x.2.2.1) h)
theorem PC.wk {P : Program} {f : FuncId} {args args' : List V} {v : V} (h : PC P f args v) (hl : args'.length = args.length) (hw : ∀ j, j < args.length → Wk (args'.getD j .un) (args.getD j .un)) : PC P f args' v :=
  ⟨fun F w cargs h1 h2 h3 => h.out F w cargs h1 (by rw [← hl]; exact h2) (fun j hj => hw j hj _ _ _ _ _ (h3 j (by rw [hl]; exact hj)))⟩
theorem interpOperators_pc (a : Int) (ha : I64 a) (t : Typ × Typ) (ht : Typ.ok t.1 ∧ Typ.ok t.2) (x : Int × Int) (hx : U64 x.1 ∧ U64 x.2) : PC Try.prog 8 [.t (.int .i64 a), .agg 4 (fun j => .t (Typs2.e t j)), .agg 2 (fun j => .t (Words2.e x j))] (.t (.bool true)) := by
  have h := Ctr.pc (c := c8) (us := [.i .i64 a, .agg [.i .i64 t.1.width, .b t.1.signed, .i .i64 t.2.width, .b t.2.signed], .agg [.i .u64 x.1, .i .u64 x.2]]) (z := ⟨[], (a, (t.1.width, t.1.signed, t.2.width, t.2.signed, ()), (x.1, x.2, ()), ()), ()⟩) rfl rfl (res := (true, ())) (grd_ok hx)
  refine h.wk rfl (fun j hj => ?_)
  match j, hj with
  | 0, _ => exact Wk.refl _
  | 1, _ =>
    refine Wk.agg fun j hj => ?_
    match j, hj with
    | 0, _ => exact Wk.refl _
    | 1, _ => exact Wk.refl _
    | 2, _ => exact Wk.refl _
    | 3, _ => exact Wk.refl _
    | n + 4, h => exact absurd h (by show ¬ n + 4 < 4; omega)
  | 2, _ =>
    refine Wk.agg fun j hj => ?_
    match j, hj with
    | 0, _ => exact Wk.refl _
    | 1, _ => exact Wk.refl _
    | n + 2, h => exact absurd h (by show ¬ n + 2 < 2; omega)
  | n + 3, h => exact absurd h (by show ¬ n + 3 < 3; omega)
end
end Go.Abs

