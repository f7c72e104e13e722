/-
Calls of functions by their contracts: the rule.
No statement of the program is proved here.
-/
import Derived.Test.YtlcholjffgaemaaH5
set_option linter.unusedVariables false
set_option linter.unusedSimpArgs false
set_option linter.unusedSectionVars false
namespace Go.Abs
open Go

variable {P : Program} {d : Option Tmp} {ty : TypeId} {L : List GOp} {ρ : Type}

section
variable [SU] [Codes] {Q : Exit → ESt → Prop}
theorem ixK_of {ks : List (Option Nat)} (hn : nodK ks = true) {i j : Nat} (h : nthK ks i = some j) : ixK ks j = some i := by
  cases hx : ixK ks j with
  | none => exact absurd h (ixK_none hx i)
  | some x => rw [nodK_out hn (ixK_out hx) h]
def nK (ks : List (Option Nat)) (n0 : Nat) : Id → Option Id := fun i => match ixK ks i.k with
  | some x => some ⟨x, i.p⟩
  | none => if i.k < n0 then none else some ⟨i.k - n0 + ks.length, i.p⟩
theorem ren_slots {g : Nat → Option Nat} {len len' : Len} {k k' : Nat} {o : OD} {p : List Nat} (h : o.slot len k p ≠ .unborn) : SlotLike (o.slot len k p) ((renO g o).slot len' k' p) := by
  cases o with
  | none => exact absurd rfl h
  | dead => trivial
  | lst v =>
    simp only [renO, OD.slot] at h ⊢
    cases hv : v.at p with
    | none => rw [hv] at h; exact absurd rfl h
    | some a => exact ⟨rfl, rfl, rfl, rfl⟩
  | cells e l =>
    cases p with
    | cons x y => exact absurd rfl h
    | nil => exact ⟨rfl, rfl, by simp only [renEs_len], rfl⟩
  | hole v q r c => simp only [renO, OD.slot]; cases (OD.hole v q r c).slot len k p <;> trivial
  | mp s τ g =>
    cases p with
    | cons x y => exact absurd rfl h
    | nil => trivial
theorem ren_unborn {g : Nat → Option Nat} {len len' : Len} {k k' : Nat} {o : OD} {p : List Nat} (h : o.slot len k p = .unborn) : (renO g o).slot len' k' p = .unborn ∨ (renO g o).slot len' k' p = .dead := by
  cases o with
  | none => exact .inl rfl
  | dead => cases h
  | lst v => simp only [renO, OD.slot] at h ⊢; cases hv : v.at p <;> rw [hv] at h <;> first | exact .inl rfl | cases h
  | cells e l => cases p <;> first | (cases h; done) | exact .inl rfl
  | hole v q r c => exact .inr rfl
  | mp s τ g => cases p <;> first | (cases h; done) | exact .inl rfl
/-- An object under another name. -/
theorem ren_live {K : V → V → Prop} (C : KCl K) {g : Nat → Option Nat} {len len' : Len} {k k' : Nat} {o : OD} {p : List Nat} {a' : AObj} (h : (renO g o).slot len' k' p = .live a')
    (hE : ∀ u : EV, K (toV len u) (toV len' (renE g u))) (hs : ∀ q n, K (.sref ⟨k, q⟩ 0 0 n) (.sref ⟨k', q⟩ 0 0 n)) :
    ∃ a, o.slot len k p = .live a ∧ a'.elem = a.elem ∧ a'.sz = a.sz ∧ a'.n = a.n ∧ ∀ r, r < a'.n → ∀ c, c < a'.sz → K (a.get r c) (a'.get r c) := by
  cases o with
  | none => cases h
  | dead => cases h
  | hole v q r c => cases h
  | mp s τ g => cases p <;> cases h
  | cells e l =>
    cases p with
    | cons x y => cases h
    | nil =>
      injection h with h; subst h
      refine ⟨_, rfl, rfl, by simp only [renEs_len], rfl, fun r hr c hc => ?_⟩
      show K (toVs len l c) (toVs len' (renEs g l) c)
      rw [toVs_eq, toVs_eq]
      have e : (renEs g l).getD c .un = renE g (l.getD c .un) := by
        have : ∀ (l : List EV) (c : Nat), (renEs g l).getD c .un = renE g (l.getD c .un) := by
          intro l
          induction l with
          | nil => intro c; simp [renEs, renE]
          | cons a l ih => intro c; cases c with
            | zero => simp [renEs]
            | succ c => simpa [renEs] using ih c
        exact this l c
      rw [e]; exact hE _
  | lst v =>
    simp only [renO, OD.slot] at h ⊢
    cases hv : v.at p with
    | none => rw [hv] at h; cases h
    | some a =>
      rw [hv] at h
      injection h with h; subst h
      refine ⟨_, rfl, rfl, rfl, rfl, fun r hr c hc => ?_⟩
      show K (cellV len k p r c (cellC a.τ (a.row r) c)) (cellV len' k' p r c (cellC a.τ (a.row r) c))
      cases hcc : cellC a.τ (a.row r) c with
      | ev u =>
        have hd := cellC_dat _ _ _ _ hcc
        have := hE u
        have e : renE g u = u := by cases u <;> first | (cases hd; done) | simp only [renE]
        rw [e] at this; exact this
      | own t e l => exact hs _ _
def seqT : Nat → List (Nat × Sh) → Bool
  | _, [] => true
  | j, (i, _) :: l => Nat.beq i j && seqT (j + 1) l
theorem seqT_env : ∀ {l : List (Nat × Sh)} {n : Nat} {x : DT l}, seqT n l = true → ∀ j, nthE (mkArgs l x) j = mkEnv l x (n + j)
  | [], n, x, h, j => by simp [mkArgs, mkEnv, nthE]
  | (i, a) :: l, n, x, h, j => by
    simp only [seqT, Bool.and_eq_true] at h
    obtain rfl := natBeq h.1
    cases j with
    | zero => simp only [mkArgs, nthE, mkEnv, Nat.add_zero, Nat.beq_refl, cond_true]
    | succ j =>
      simp only [mkArgs, nthE, mkEnv, natBeq_ne (show ¬ i + (j + 1) = i by omega), cond_false]
      rw [seqT_env h.2 j, Nat.add_assoc, Nat.add_comm 1 j]
theorem mkArgs_len : ∀ (l : List (Nat × Sh)) (x : DT l), (mkArgs l x).length = l.length
  | [], _ => rfl
  | _ :: l, x => by simp [mkArgs, mkArgs_len l x.2]
/-- What the callee does not get it does not hand back. -/
def deadOk : List OSh → List OSh → Bool
  | [], _ => true
  | .dead :: os, .dead :: ro => deadOk os ro
  | .dead :: _, _ => false
  | _ :: os, _ :: ro => deadOk os ro
  | _ :: _, [] => false
theorem deadOk_out : ∀ {os ro : List OSh}, deadOk os ro = true → os.length ≤ ro.length ∧ ∀ j, nthO os j = some .dead → nthO ro j = some .dead
  | [], ro, _ => ⟨Nat.zero_le _, fun j h => by cases h⟩
  | o :: os, [], h => by cases o <;> cases h
  | o :: os, o' :: ro, h => by
    have key : deadOk os ro = true ∧ (o = .dead → o' = .dead) := by
      cases o <;> first
        | exact ⟨h, fun e => by cases e⟩
        | (cases o' <;> first | exact ⟨h, fun _ => rfl⟩ | cases h)
    obtain ⟨h1, h2⟩ := deadOk_out key.1
    refine ⟨by simpa using h1, fun j hj => ?_⟩
    cases j with
    | zero => injection hj with hj; subst hj; show some o' = _; rw [key.2 rfl]
    | succ j => exact h2 j hj
theorem mkObj_dead : ∀ {l : List OSh} {y : DO l} {j : Nat}, nthO l j = some .dead → mkObj l y j = .dead
  | [], _, _, h => by cases h
  | o :: l, y, 0, h => by injection h with h; subst h; rfl
  | _ :: l, y, j + 1, h => mkObj_dead (l := l) h
theorem mkObj_ne : ∀ {l : List OSh} {y : DO l} {j : Nat}, j < l.length → mkObj l y j ≠ .none
  | [], _, _, h => absurd h (Nat.not_lt_zero _)
  | o :: l, y, 0, h => mkO_ne o y.1
  | _ :: l, y, j + 1, h => mkObj_ne (l := l) (by simpa using h)
theorem mkO_root {o : OSh} {x : o.D} {len : Len} {k : Nat} : (mkO o x).slot len k [] ≠ .unborn := by
  cases o <;> simp only [mkO, OD.slot, LV.at_nil] <;> simp
theorem mkObj_root : ∀ {l : List OSh} {y : DO l} {j : Nat} {len : Len} {k : Nat}, j < l.length → (mkObj l y j).slot len k [] ≠ .unborn
  | [], _, _, _, _, h => absurd h (Nat.not_lt_zero _)
  | o :: l, y, 0, _, _, h => mkO_root
  | _ :: l, y, j + 1, _, _, h => mkObj_root (l := l) (by simpa using h)

theorem call_rel {E : Env} {ι : Id → Option Nat} {F : Nat → Prop} {s : ESt} {w : World} (r : RelH E ι F (toH s.heap) w) (hf : Fair s) (c : Ctr P) {ks : List (Option Nat)} (hn : nodK ks = true) (hlt : ltKs s.heap.next ks = true)
    (hq : seqT 0 c.ar = true) (hd : deadOk c.os c.ro = true) {us : List EV} {x : DT c.ar} {y : DO c.os} (hx : exT ks (nthE us) c.ar = some x) (hy : exOs ks s.heap c.os ks = some y) {res : c.rv.D × DO c.ro} (hF : c.F x y = some res)
    (hlen : lenOk s.heap (mkH c.os.length c.ro res.2) ks 0 = true) {cargs : Array Value} (hsz : c.ar.length = cargs.size) (ha : ∀ j, j < cargs.size → VRel (toH s.heap) ι F w (toV s.heap.len (nthE us j)) (cargs.getD j undef)) :
    Calls P c.f cargs w fun e w' => ∃ cv ι' F', e = .returned cv ∧ RelH E ι' F' (toH (callH s.heap ks (mkH c.os.length c.ro res.2))) w' ∧
      (∀ u v, Born (toH s.heap) (toV s.heap.len u) → VRel (toH s.heap) ι F w (toV s.heap.len u) v → VRel (toH (callH s.heap ks (mkH c.os.length c.ro res.2))) ι' F' w' (toV (callH s.heap ks (mkH c.os.length c.ro res.2)).len (scrub (nestF ks) u)) v) ∧
      VRel (toH (callH s.heap ks (mkH c.os.length c.ro res.2))) ι' F' w' (toV (callH s.heap ks (mkH c.os.length c.ro res.2)).len (renE (outK ks s.heap.next) (mkE c.rv res.1))) cv := by
  obtain ⟨ks_len, hobjs⟩ := exOs_at _ _ _ hy
  obtain ⟨hdl, hdd⟩ := deadOk_out hd
  let Hl := mkH c.os.length c.os y
  let Hl' := mkH c.os.length c.ro res.2
  let H' := callH s.heap ks Hl'
  have pt : Part (toH s.heap) (toH Hl) (mK ks) := part_ok hy hn
  have hR : Roots ks s.heap Hl (mK ks) := roots_ok hy
  have r2 := pt.rel r
  have hargs : ∀ j, j < (mkArgs c.ar x).length → VRel (toH Hl) (mι (mK ks) ι) F w (toV Hl.len (nthE (mkArgs c.ar x) j)) (cargs.getD j undef) := fun j hj => by
    rw [mkArgs_len] at hj
    rw [seqT_env hq j, Nat.zero_add]
    have := exT_ok (Z := fun _ => False) hR c.ar x hx j _ _ _ _ _ r (ha j (by omega))
    rw [FZ_none] at this
    exact this
  refine ((c.ok x y res hF).out _ _ _ _ cargs r2 (by rw [mkArgs_len]; exact hsz) hargs).mono fun e w' ⟨v, ι3, F3, Hx, cv, h1, r3, hv, h4, h5⟩ => ?_
  subst h4
  subst h5
  -- names
  have lt0 : ∀ {i k : Nat}, nthK ks i = some k → k < s.heap.next := fun h => ltKs_out hlt h
  have objk : ∀ {j i : Nat}, ixK ks j = some i → H'.obj j = renO (outK ks s.heap.next) (Hl'.obj i) := fun h => by simp only [H', callH, h]
  have objo : ∀ {j : Nat}, ixK ks j = none → j < s.heap.next → H'.obj j = scrubO (nestF ks) (s.heap.obj j) := fun {j} h h2 => by
    show (match ixK ks j with | some i => _ | none => bif Nat.blt j s.heap.next then _ else _) = _
    rw [h]
    dsimp only
    rw [blt_true h2]; rfl
  have objn : ∀ {j : Nat}, ixK ks j = none → ¬ j < s.heap.next → H'.obj j = renO (outK ks s.heap.next) (Hl'.obj (j - s.heap.next + ks.length)) := fun {j} h h2 => by
    show (match ixK ks j with | some i => _ | none => bif Nat.blt j s.heap.next then _ else _) = _
    rw [h]
    dsimp only
    rw [blt_false (Nat.le_of_not_lt h2)]; rfl
  have nnk : ∀ {j i : Nat} {p : List Nat}, ixK ks j = some i → nK ks s.heap.next ⟨j, p⟩ = some ⟨i, p⟩ := fun h => by simp only [nK, h]
  have nno : ∀ {j : Nat} {p : List Nat}, ixK ks j = none → j < s.heap.next → nK ks s.heap.next ⟨j, p⟩ = none := fun h h2 => by simp only [nK, h, if_pos h2]
  have nnn : ∀ {j : Nat} {p : List Nat}, ixK ks j = none → ¬ j < s.heap.next → nK ks s.heap.next ⟨j, p⟩ = some ⟨j - s.heap.next + ks.length, p⟩ := fun h h2 => by simp only [nK, h, if_neg h2]
  have oldlt : ∀ {id : Nat} {p : List Nat}, (toH s.heap).slot ⟨id, p⟩ ≠ .unborn → id < s.heap.next := fun h => Classical.byContradiction fun hc => h (hf.next ⟨_, _⟩ (Nat.le_of_not_lt hc))
  have outo : ∀ {i : Id}, nK ks s.heap.next i = none → ixK ks i.k = none ∧ i.k < s.heap.next := fun {i} h => by
    simp only [nK] at h
    cases hi : ixK ks i.k with
    | some x => rw [hi] at h; cases h
    | none =>
      rw [hi] at h
      simp only at h
      by_cases hl : i.k < s.heap.next
      · exact ⟨rfl, hl⟩
      · rw [if_neg hl] at h; cases h
  have nsome : ∀ {i x : Id}, nK ks s.heap.next i = some x → H'.obj i.k = renO (outK ks s.heap.next) (Hl'.obj x.k) ∧ x.p = i.p ∧ ((x.k < ks.length ∧ nthK ks x.k = some i.k) ∨ (¬ i.k < s.heap.next ∧ x.k = i.k - s.heap.next + ks.length)) := fun {i x} h => by
    cases hi : ixK ks i.k with
    | some z =>
      have := nnk (p := i.p) hi
      have h : nK ks s.heap.next ⟨i.k, i.p⟩ = some x := h
      rw [this] at h
      injection h with h; subst h
      exact ⟨objk hi, rfl, .inl ⟨nthK_lt (ixK_out hi), ixK_out hi⟩⟩
    | none =>
      by_cases hl : i.k < s.heap.next
      · have h : nK ks s.heap.next ⟨i.k, i.p⟩ = some x := h
        rw [nno hi hl] at h; cases h
      · have h : nK ks s.heap.next ⟨i.k, i.p⟩ = some x := h
        rw [nnn hi hl] at h
        injection h with h; subst h
        exact ⟨objn hi hl, rfl, .inr ⟨hl, rfl⟩⟩
  have slot_like : ∀ {i x : Id}, nK ks s.heap.next i = some x → (toH Hl').slot x ≠ .unborn → SlotLike ((toH Hl').slot x) ((toH H').slot i) := fun {i x} h hu => by
    obtain ⟨e1, e2, _⟩ := nsome h
    show SlotLike _ ((H'.obj i.k).slot H'.len i.k i.p)
    rw [e1, ← e2]
    exact ren_slots hu
  have root_in : ∀ {id i : Nat}, ixK ks id = some i → (toH H').slot ⟨id, []⟩ = .dead ∨ (SlotLike ((toH s.heap).slot ⟨id, []⟩) ((toH Hl).slot ⟨i, []⟩) ∧ SlotLike ((toH Hl').slot ⟨i, []⟩) ((toH H').slot ⟨id, []⟩)) := fun {id i} h => by
    have hi := ixK_out h
    have hil : i < c.os.length := by rw [ks_len]; exact nthK_lt hi
    have hil2 : i < c.ro.length := Nat.lt_of_lt_of_le hil hdl
    have hu : (toH Hl').slot ⟨i, []⟩ ≠ .unborn := mkObj_root (l := c.ro) (y := res.2) hil2
    have sl := slot_like (i := ⟨id, []⟩) (nnk h) hu
    rcases hR.sm i id hi with hdead | ⟨q1, q2, q3⟩
    · left
      -- the callee did not get it
      obtain ⟨o, ho, _⟩ := hobjs i hil
      have hod : o = .dead := by
        have hdead : (mkObj c.os y i).slot Hl.len i [] = .dead := hdead
        have key : ∀ (l : List OSh) (y : DO l) (j : Nat) (o : OSh), nthO l j = some o → (mkObj l y j).slot Hl.len i [] = .dead → o = .dead := by
          intro l
          induction l with
          | nil => intro y j o h; cases h
          | cons a l ih =>
            intro y j o h hdd
            cases j with
            | zero =>
              injection h with h; subst h
              cases a <;> simp only [mkObj, mkO, OD.slot, LV.at_nil] at hdd <;> first | rfl | cases hdd
            | succ j => exact ih y.2 j o h hdd
        exact key _ _ _ _ ho hdead
      subst hod
      show (H'.obj id).slot _ _ _ = _
      rw [objk h]
      show (renO _ (mkObj c.ro res.2 i)).slot _ _ _ = _
      rw [mkObj_dead (hdd i ho)]; rfl
    · exact .inr ⟨q1, sl⟩
  have bk : Back (toH s.heap) (toH Hl) (toH Hl') (toH H') (mK ks) (nK ks s.heap.next) := by
    refine ⟨rfl, fun i hi => ?_, fun i hi his => ?_, fun i j x h1 h2 => ?_, fun i hi hp => ?_⟩
    · have hi : s.heap.next + (c.ro.length - ks.length) ≤ i.k := hi
      have h1 : ixK ks i.k = none := by
        cases hx : ixK ks i.k with
        | none => rfl
        | some z => have := lt0 (ixK_out hx); omega
      show (H'.obj i.k).slot _ _ _ = _
      rw [objn h1 (by omega)]
      show (renO _ (mkObj c.ro res.2 (i.k - s.heap.next + ks.length))).slot _ _ _ = _
      rw [mkObj_out _ _ _ (by omega)]; rfl
    · obtain ⟨h1, h2⟩ := outo hi
      refine ⟨fun x hx e => ?_, ?_⟩
      · obtain ⟨a, p⟩ := x
        simp only [mK] at e
        cases ha : nthK ks a with
        | none => rw [ha] at e; cases e
        | some k =>
          rw [ha] at e
          injection e with e
          subst e
          exact ixK_none h1 a ha
      · show SlotLike ((s.heap.obj i.k).slot s.heap.len i.k i.p) ((H'.obj i.k).slot H'.len i.k i.p)
        have his : ((H'.obj i.k).slot H'.len i.k i.p).is := his
        rw [objo h1 h2] at his ⊢
        refine scrub_slots fun hu => ?_
        rw [scrub_unborn.2 hu] at his; exact his
    · obtain ⟨a1, a2, a3⟩ := nsome h1
      obtain ⟨b1, b2, b3⟩ := nsome h2
      obtain ⟨ik, ip⟩ := i
      obtain ⟨jk, jp⟩ := j
      have hp : ip = jp := a2.symm.trans b2
      subst hp
      have : ik = jk := by
        rcases a3 with ⟨q1, q2⟩ | ⟨q1, q2⟩ <;> rcases b3 with ⟨p1, p2⟩ | ⟨p1, p2⟩
        · rw [q2] at p2; injection p2
        · omega
        · omega
        · simp only at q1 q2 p1 p2; omega
      rw [this]
    · by_cases hu : (toH s.heap).slot i = .unborn
      · exact .inl hu
      · right
        obtain ⟨j, p⟩ := i
        simp only at hp
        subst hp
        have hl := oldlt hu
        cases hx : ixK ks j with
        | none =>
          right; left
          refine ⟨nno hx hl, ?_⟩
          show SlotLike _ ((H'.obj j).slot H'.len j [])
          rw [objo hx hl]
          exact scrub_slots hu
        | some i =>
          rcases root_in hx with hdead | ⟨q1, q2⟩
          · exact .inl hdead
          · exact .inr (.inr ⟨⟨i, []⟩, nnk hx, mK_at (ixK_out hx), rfl, q1, q2⟩)
  let ι5 := ι4 (nK ks s.heap.next) ι ι3
  have CX : KCl (fun u u' => ∀ v, VRel (toH s.heap) ι F w u v → VRel (toH H') ι5 F3 w' u' v) :=
    KCl.of (fun x v h => r3.ext (.t x) v h) (fun n g v h => r3.ext (.fp n g) v h)
  have CY : KCl (fun u u' => ∀ v, VRel (toH Hl') ι3 F3 w' u v → VRel (toH H') ι5 F3 w' u' v) := KCl.of (fun x v h => h) (fun n g v h => h)
  -- names of the callee's
  have gn : ∀ {i j : Nat} {p : List Nat}, outK ks s.heap.next i = some j → nK ks s.heap.next ⟨j, p⟩ = some ⟨i, p⟩ ∧ H'.obj j = renO (outK ks s.heap.next) (Hl'.obj i) := fun {i j p} h => by
    simp only [outK] at h
    by_cases hi : i < ks.length
    · rw [blt_true hi, cond_true] at h
      have := ixK_of hn h
      exact ⟨nnk this, objk this⟩
    · rw [blt_false (Nat.le_of_not_lt hi), cond_false] at h
      injection h with h
      have h1 : ixK ks j = none := by
        cases hx : ixK ks j with
        | none => rfl
        | some z => have := lt0 (ixK_out hx); omega
      have e : j - s.heap.next + ks.length = i := by omega
      refine ⟨by rw [nnn h1 (by omega), e], by rw [objn h1 (by omega), e]⟩
  have leafY : ∀ {x i : Id}, nK ks s.heap.next i = some x → (∀ rr cc v, VRel (toH Hl') ι3 F3 w' (.ptr x 0 rr cc) v → VRel (toH H') ι5 F3 w' (.ptr i 0 rr cc) v) ∧ (∀ rr cc v, VRel (toH Hl') ι3 F3 w' (.sref x 0 rr cc) v → VRel (toH H') ι5 F3 w' (.sref i 0 rr cc) v) ∧ ∀ v, VRel (toH Hl') ι3 F3 w' (.mref x) v → VRel (toH H') ι5 F3 w' (.mref i) v := fun {x i} h => by
    have e4 : ι5 i = ι3 x := ι4_some h
    refine ⟨fun rr cc v ⟨a, b⟩ => ⟨a, ?_⟩, fun rr cc v ⟨a, b⟩ => ⟨a, ?_⟩, fun v ⟨a, b⟩ => ⟨a, ?_⟩⟩
    · have hl := slot_like h (fun e => by rw [e] at b; exact b)
      cases hs : (toH H').slot i with
      | dead => trivial
      | mp _ _ => trivial
      | unborn => rw [hs] at hl; cases hs' : (toH Hl').slot x <;> rw [hs'] at hl <;> exact hl.elim
      | live o' =>
        rw [hs] at hl
        cases hs' : (toH Hl').slot x with
        | live o =>
          rw [hs'] at hl b
          obtain ⟨q1, q2, q3, q4⟩ := hl
          show 0 ≤ o'.ver ∧ _
          rw [e4, q1, q3]; exact b
        | unborn => rw [hs'] at hl; exact hl.elim
        | dead => rw [hs'] at hl; exact hl.elim
        | mp _ _ => rw [hs'] at hl; exact hl.elim
    · have hl := slot_like h (fun e => by rw [e] at b; exact b)
      cases hs : (toH H').slot i with
      | dead => trivial
      | mp _ _ => trivial
      | unborn => rw [hs] at hl; cases hs' : (toH Hl').slot x <;> rw [hs'] at hl <;> exact hl.elim
      | live o' =>
        rw [hs] at hl
        cases hs' : (toH Hl').slot x with
        | live o =>
          rw [hs'] at hl b
          obtain ⟨q1, q2, q3, q4⟩ := hl
          show 0 ≤ o'.ver ∧ _
          rw [e4, q1, q2, q3, q4]; exact b
        | unborn => rw [hs'] at hl; exact hl.elim
        | dead => rw [hs'] at hl; exact hl.elim
        | mp _ _ => rw [hs'] at hl; exact hl.elim
    · have hl := slot_like h (fun e => by rw [e] at b; exact b)
      cases hs : (toH H').slot i with
      | dead => trivial
      | live _ => trivial
      | unborn => rw [hs] at hl; cases hs' : (toH Hl').slot x <;> rw [hs'] at hl <;> exact hl.elim
      | mp _ _ =>
        rw [hs] at hl
        cases hs' : (toH Hl').slot x with
        | mp _ _ => rw [hs'] at b; show ∃ b, ι5 i = some b ∧ _; rw [e4]; exact b
        | unborn => rw [hs'] at hl; exact hl.elim
        | dead => rw [hs'] at hl; exact hl.elim
        | live _ => rw [hs'] at hl; exact hl.elim
  have EY : ∀ u : EV, ∀ v, VRel (toH Hl') ι3 F3 w' (toV Hl'.len u) v → VRel (toH H') ι5 F3 w' (toV H'.len (renE (outK ks s.heap.next) u)) v := fun u => CY.ren (len := Hl'.len) (len' := H'.len)
    (fun id p rr cc j hj => (leafY (gn (p := p) hj).1).1 rr cc) (fun id p rr cc j hj => (leafY (gn (p := p) hj).1).2.1 rr cc)
    (fun id p j hj => by show (H'.obj j).len p = (Hl'.obj id).len p; rw [(gn (p := p) hj).2, renO_len]) (fun id j hj => (leafY (gn (p := []) hj).1).2.2) u
  -- names of the caller's
  have leafX : ∀ {id : Nat} {p : List Nat}, (toH s.heap).slot ⟨id, p⟩ ≠ .unborn → nestF ks id p = none → (toH H').slot ⟨id, p⟩ = .dead ∨ ((∀ ver rr cc v, VRel (toH s.heap) ι F w (.ptr ⟨id, p⟩ ver rr cc) v → VRel (toH H') ι5 F3 w' (.ptr ⟨id, p⟩ ver rr cc) v) ∧
      (∀ ver rr cc v, VRel (toH s.heap) ι F w (.sref ⟨id, p⟩ ver rr cc) v → VRel (toH H') ι5 F3 w' (.sref ⟨id, p⟩ ver rr cc) v) ∧ (∀ v, VRel (toH s.heap) ι F w (.mref ⟨id, p⟩) v → VRel (toH H') ι5 F3 w' (.mref ⟨id, p⟩) v)) := fun {id p} hb hfn => by
    have hl := oldlt hb
    cases hx : ixK ks id with
    | none =>
      right
      have hsl : SlotLike ((toH s.heap).slot ⟨id, p⟩) ((toH H').slot ⟨id, p⟩) := by
        show SlotLike _ ((H'.obj id).slot H'.len id p)
        rw [objo hx hl]; exact scrub_slots hb
      exact keep_out r pt r3 (nno hx hl) hsl (fun his => (bk.out _ (nno hx hl) his).1)
    | some i =>
      have hp : p = [] := by
        cases p with
        | nil => rfl
        | cons a b => simp only [nestF, hx] at hfn; cases hfn
      subst hp
      rcases root_in hx with hdead | ⟨q1, q2⟩
      · exact .inl hdead
      · exact .inr (keep_in r r3 (nnk hx) (mK_at (ixK_out hx)) rfl q1 q2)
  have EX : ∀ u : EV, Born (toH s.heap) (toV s.heap.len u) → ∀ v, VRel (toH s.heap) ι F w (toV s.heap.len u) v → VRel (toH H') ι5 F3 w' (toV H'.len (scrub (nestF ks) u)) v := fun u hb => CX.scrub (H := toH s.heap) (len := s.heap.len) (len' := H'.len) (f := nestF ks)
    (fun id p rr cc hb hfn => by
      rcases leafX hb hfn with hdead | h
      · exact fun v h => ⟨h.1, by rw [hdead]; trivial⟩
      · exact h.1 0 rr cc)
    (fun id p rr cc hb hfn => by
      rcases leafX hb hfn with hdead | h
      · exact fun v h => ⟨h.1, by rw [hdead]; trivial⟩
      · exact h.2.1 0 rr cc)
    (fun id p hb hfn => by
      have hl := oldlt hb
      cases hx : ixK ks id with
      | none =>
        left
        exact EHeap.len_scrub (objo hx hl) p
      | some i =>
        have hp : p = [] := by
          cases p with
          | nil => rfl
          | cons a b => simp only [nestF, hx] at hfn; cases hfn
        subst hp
        rcases lenOk_out hlen (ixK_out hx) with e | e
        · right
          rw [Nat.zero_add] at e
          intro n n' v h
          refine ⟨h.1, ?_⟩
          have : (toH H').slot ⟨id, []⟩ = .dead := by
            show (H'.obj id).slot _ _ _ = _
            rw [objk hx]
            show (renO _ (Hl'.obj i)).slot _ _ _ = _
            have e : Hl'.obj i = .dead := e
            rw [e]; rfl
          rw [this]; trivial
        · left
          rw [Nat.zero_add] at e
          show (H'.obj id).len [] = _
          rw [objk hx, renO_len]
          exact e)
    (fun id hb hfn => by
      rcases leafX hb hfn with hdead | h
      · exact fun v h => ⟨h.1, by rw [hdead]; trivial⟩
      · exact h.2.2)
    (fun id p u h => by
      simp only [nestF] at h
      cases p with
      | nil => cases h
      | cons a b =>
        cases hx : ixK ks id <;> rw [hx] at h <;> first | (cases h; done) | (injection h with h; exact h.symm)) u hb
  refine ⟨cv, ι5, F3, h1, Back.rel r pt r3 bk (fun i o' hi ho => ?_) (fun i x o' hi ho => ?_) (fun i sb g' hi hm => ?_) (fun i x sb g' hi hm => ?_), fun u v hb h => EX u hb v h, EY _ _ hv⟩
  · obtain ⟨h1, h2⟩ := outo hi
    obtain ⟨j, p⟩ := i
    have ho : (H'.obj j).slot H'.len j p = .live o' := ho
    have hobj := objo h1 h2
    -- an untouched object
    have kcell : ∀ (p : List Nat) (r c : Nat) (x : Cell), (∀ u, x = .ev u → u.dat = true) → Born (toH s.heap) (cellV s.heap.len j p r c x) → ∀ v, VRel (toH s.heap) ι F w (cellV s.heap.len j p r c x) v → VRel (toH H') ι5 F3 w' (cellV H'.len j p r c x) v := fun p r c x hd hx => by
      cases x with
      | ev u =>
        have := EX u hx
        have e : scrub (nestF ks) u = u := by
          have hd := hd u rfl
          cases u <;> first | (cases hd; done) | simp only [scrub]
        rw [e] at this
        exact this
      | own t e l =>
        intro v hv
        simp only [cellV] at hx hv ⊢
        have hfn : nestF ks j (p ++ [c, r]) = none := by
          simp only [nestF]
          cases p ++ [c, r] <;> simp [h1]
        rcases leafX hx hfn with hdead | h
        · exact ⟨hv.1, by rw [hdead]; trivial⟩
        · exact h.2.1 _ _ _ v hv
    rw [hobj] at ho
    cases hO : s.heap.obj j with
    | none => rw [hO] at ho; cases ho
    | dead => rw [hO] at ho; cases ho
    | lst v =>
      rw [hO] at ho
      simp only [scrubO, OD.slot] at ho
      cases hv : v.at p with
      | none => rw [hv] at ho; cases ho
      | some a =>
        rw [hv] at ho
        injection ho with ho; subst ho
        have hat : s.heap.at j p = some a := by simp only [EHeap.at, hO]; exact hv
        exact ⟨_, slot_lst hat, fun r hr c hc => kcell p r c _ (cellC_dat _ _ _) (hf.obj _ _ (slot_lst hat) r hr c hc)⟩
    | cells e l =>
      rw [hO] at ho
      cases p with
      | cons x y => cases ho
      | nil =>
        injection ho with ho; subst ho
        refine ⟨_, slot_cells hO, fun r hr c hc => ?_⟩
        have hc : c < l.length := by simpa only [scrubs_len] using hc
        have hr : r < 1 := hr
        have hbb := hf.obj _ _ (slot_cells hO) r hr c hc
        show ∀ v, VRel _ _ _ _ (toVs s.heap.len l c) v → VRel _ _ _ _ (toVs H'.len (scrubs (nestF ks) l) c) v
        have hbb : Born (toH s.heap) (toVs s.heap.len l c) := hbb
        rw [toVs_eq] at hbb ⊢
        rw [toVs_eq]
        have e : (scrubs (nestF ks) l).getD c .un = scrub (nestF ks) (l.getD c .un) := by
          have : ∀ (l : List EV) (c : Nat), (scrubs (nestF ks) l).getD c .un = scrub (nestF ks) (l.getD c .un) := by
            intro l
            induction l with
            | nil => intro c; simp [scrubs, scrub]
            | cons a l ih => intro c; cases c with
              | zero => simp [scrubs]
              | succ c => simpa [scrubs] using ih c
          exact this l c
        rw [e]
        exact EX _ hbb
    | hole v q r c =>
      rw [hO] at ho
      simp only [scrubO, OD.slot] at ho
      split at ho
      · cases ho
      · rename_i hnn
        cases hv : v.at p with
        | none => rw [hv] at ho; cases ho
        | some a =>
          rw [hv] at ho
          injection ho with ho; subst ho
          have hl : (toH s.heap).slot ⟨j, p⟩ = .live (a.holed s.heap.len j p q r c) := by
            show (s.heap.obj j).slot _ _ _ = _
            rw [hO]; simp only [OD.slot, hv, if_neg hnn]
          refine ⟨_, hl, fun r' hr c' hc => ?_⟩
          have hbb := hf.obj _ _ hl r' hr c' hc
          simp only [LV.holed] at hbb ⊢
          split
          · exact fun v _ => trivial
          · rename_i hne
            rw [if_neg hne] at hbb
            exact kcell p r' c' _ (cellC_dat _ _ _) hbb
    | mp sb τ g =>
      rw [hO] at ho
      cases p <;> cases ho
  · obtain ⟨e1, e2, _⟩ := nsome hi
    obtain ⟨j, p⟩ := i
    obtain ⟨xk, xp⟩ := x
    simp only at e1 e2
    subst e2
    have ho : (H'.obj j).slot H'.len j xp = .live o' := ho
    rw [e1] at ho
    have hgx : ∀ q, nK ks s.heap.next ⟨j, q⟩ = some ⟨xk, q⟩ := fun q => by
      simp only [nK] at hi ⊢
      cases hx : ixK ks j with
      | some z => rw [hx] at hi; injection hi with hi; injection hi with hi _; subst hi; rfl
      | none =>
        rw [hx] at hi
        simp only at hi ⊢
        by_cases hl : j < s.heap.next
        · rw [if_pos hl] at hi; cases hi
        · rw [if_neg hl] at hi ⊢
          injection hi with hi; injection hi with hi _; rw [hi]
    obtain ⟨a, q1, q2, q3, q4, q5⟩ := ren_live CY (k := xk) ho EY (fun q n => (leafY (hgx q)).2.1 0 n)
    exact ⟨a, q1, q2, q3, q4, q5⟩
  · obtain ⟨h1, h2⟩ := outo hi
    obtain ⟨j, p⟩ := i
    have hm : (H'.obj j).slot H'.len j p = .mp sb g' := hm
    rw [objo h1 h2] at hm
    obtain ⟨q1, q2⟩ := scrub_mp (len := s.heap.len) hm
    refine ⟨g', q1, fun key => ?_⟩
    rcases q2 key with e | ⟨y, e⟩
    · exact .inl ⟨e, e⟩
    · exact .inr ⟨_, _, e, e, fun v h => CX.t y v h⟩
  · obtain ⟨e1, e2, _⟩ := nsome hi
    obtain ⟨j, p⟩ := i
    obtain ⟨xk, xp⟩ := x
    simp only at e1 e2
    subst e2
    have hm : (H'.obj j).slot H'.len j xp = .mp sb g' := hm
    rw [e1] at hm
    obtain ⟨τ, g, m1, m2, m3⟩ := slot_mp hm
    subst m2
    have hO : Hl'.obj xk = .mp sb τ g := by
      cases hO : Hl'.obj xk <;> rw [hO] at m1 <;> first | (cases m1; done) | (simp only [renO] at m1; exact m1)
    refine ⟨g', by show (Hl'.obj xk).slot _ _ _ = _; rw [hO, m3]; rfl, fun key => ?_⟩
    subst m3
    dsimp only
    split
    · exact .inr ⟨_, _, rfl, rfl, fun v h => h⟩
    · exact .inl ⟨rfl, rfl⟩
end
end Go.Abs
