/-
Shapes of states: a state told by its shape, and a part of memory told by its shape.
No statement of the program is proved here.
-/
import Derived.Test.YtlcholjffgaemaaH3
set_option linter.unusedVariables false
set_option linter.unusedSimpArgs false
set_option linter.unusedSectionVars false
namespace Go.Abs
open Go

section
variable [SU] [Codes]
variable {ks : List (Option Nat)} {H : EHeap} {lo : Nat} {os : List OSh} {y : DO os}
theorem mkH_slot {j : Nat} {p : List Nat} : (toH (mkH lo os y)).slot ⟨j, p⟩ = (mkObj os y j).slot (mkH lo os y).len j p := rfl
theorem mkH_len {j : Nat} {p : List Nat} : (mkH lo os y).len j p = (mkObj os y j).len p := rfl
theorem memK_out : ∀ {l : List (Option Nat)} {k j : Nat}, nthK l j = some k → memK k l = true
  | [], _, _, h => by cases h
  | some x :: l, k, 0, h => by injection h with h; subst h; simp [memK]
  | none :: l, k, 0, h => by cases h
  | some x :: l, k, j + 1, h => by simp only [memK, Bool.or_eq_true]; exact .inr (memK_out (l := l) h)
  | none :: l, k, j + 1, h => memK_out (l := l) h
theorem nodK_out : ∀ {l : List (Option Nat)} {i j k : Nat}, nodK l = true → nthK l i = some k → nthK l j = some k → i = j
  | [], _, _, _, _, h, _ => by cases h
  | some x :: l, 0, 0, k, _, _, _ => rfl
  | none :: l, 0, _, k, _, h, _ => by cases h
  | none :: l, _ + 1, 0, k, _, _, h => by cases h
  | none :: l, i + 1, j + 1, k, hn, h1, h2 => by rw [nodK_out (l := l) hn h1 h2]
  | some x :: l, 0, j + 1, k, hn, h1, h2 => by
    injection h1 with h1; subst h1
    simp only [nodK, Bool.and_eq_true, Bool.not_eq_true'] at hn
    rw [memK_out (l := l) h2] at hn; cases hn.1
  | some x :: l, i + 1, 0, k, hn, h1, h2 => by
    injection h2 with h2; subst h2
    simp only [nodK, Bool.and_eq_true, Bool.not_eq_true'] at hn
    rw [memK_out (l := l) h1] at hn; cases hn.1
  | some x :: l, i + 1, j + 1, k, hn, h1, h2 => by
    simp only [nodK, Bool.and_eq_true] at hn
    rw [nodK_out (l := l) hn.2 h1 h2]

theorem cellsV_slot {len : Len} {k : Nat} {e : TypeId} {l : List EV} {p : List Nat} {o' : AObj} (h : (OD.cells e l).slot len k p = .live o') : p = [] ∧ o' = { elem := e, sz := l.length, ver := 0, n := 1, get := fun _ c => toVs len l c } := by
  cases p with
  | cons _ _ => cases h
  | nil => injection h with h; exact ⟨rfl, h.symm⟩
theorem mK_at {j k : Nat} {p : List Nat} (h : nthK ks j = some k) : mK ks ⟨j, p⟩ = some ⟨k, p⟩ := by simp only [mK, h]
theorem mK_no {j : Nat} {p : List Nat} (h : nthK ks j = none) : mK ks ⟨j, p⟩ = none := by simp only [mK, h]
/-- The same list, at another root. -/
theorem lst_same {H H' : EHeap} {j k : Nat} {v : LV} (ho : H.obj k = .lst v) (ho' : H'.obj j = .lst v) {m : Id → Option Id} {Z : Id → Prop} (hm : ∀ p, m ⟨j, p⟩ = some ⟨k, p⟩) :
    ∀ p o', (toH H').slot ⟨j, p⟩ = .live o' → ∃ o, (toH H).slot ⟨k, p⟩ = .live o ∧ o'.ver = o.ver ∧ o'.elem = o.elem ∧ o'.sz = o.sz ∧ o'.n = o.n ∧ ∀ r, r < o'.n → ∀ c, c < o'.sz → KG (toH H) (toH H') m Z (o.get r c) (o'.get r c) := fun p o' h => by
  have h : (H'.obj j).slot H'.len j p = .live o' := h
  rw [ho'] at h
  simp only [OD.slot] at h
  cases hv : v.at p with
  | none => rw [hv] at h; cases h
  | some a =>
    rw [hv] at h
    injection h with h
    subst h
    have hat : H.at k p = some a := by simp only [EHeap.at, ho]; exact hv
    have hat' : H'.at j p = some a := by simp only [EHeap.at, ho']; exact hv
    refine ⟨_, slot_lst hat, rfl, rfl, rfl, rfl, fun r hr c hc => ?_⟩
    show KG _ _ _ _ (cellV H.len k p r c (cellC a.τ (a.row r) c)) (cellV H'.len j p r c (cellC a.τ (a.row r) c))
    cases hcc : cellC a.τ (a.row r) c with
    | ev u => exact KG.dat (cellC_dat _ _ _ _ hcc)
    | own t e l =>
      have h1 : (toH H).slot ⟨k, p ++ [c, r]⟩ = .live (LV.obj H.len k (p ++ [c, r]) ⟨t, e, l⟩) := slot_lst (by rw [EHeap.at_append hat, LV.at_one, LV.kid_of hcc])
      have h2 : (toH H').slot ⟨j, p ++ [c, r]⟩ = .live (LV.obj H'.len j (p ++ [c, r]) ⟨t, e, l⟩) := slot_lst (by rw [EHeap.at_append hat', LV.at_one, LV.kid_of hcc])
      exact KG.srefL (by rw [h1, h2]; exact ⟨rfl, rfl, rfl, rfl⟩) (hm _)
theorem mkO_ne (o : OSh) (x : o.D) : mkO o x ≠ .none := by cases o <;> simp [mkO]

/-- What is read off roots is true of them. -/
theorem roots_ok (h : exOs ks H os ks = some y) : Roots ks H (mkH lo os y) (mK ks) := by
  obtain ⟨e1, e2⟩ := exOs_at os ks y h
  refine ⟨fun j k hj => ?_, fun j hj hl => ?_⟩
  · obtain ⟨o, -, hx⟩ := e2 j (by rw [e1]; exact nthK_lt hj)
    rcases hx with ⟨k', x, q1, q2, q3⟩ | ⟨x, q1, q2, q3⟩
    · rw [hj] at q1; injection q1 with q1; subst q1
      rw [mkH_slot, mkH_len, q3]
      have rd := exO_read o x q2
      cases rd with
      | dead => exact .inl rfl
      | lst ho => exact .inr ⟨by show SlotLike ((H.obj k).slot H.len k []) _; rw [ho, slot_flatLst]; simp only [mkO]; rw [slot_flatLst]; exact ⟨rfl, rfl, rfl, rfl⟩, by unfold EHeap.len; rw [ho]; rfl, mK_at hj⟩
      | box ho => exact .inr ⟨by show SlotLike ((H.obj k).slot H.len k []) _; rw [ho, slot_flatLst]; simp only [mkO]; rw [slot_flatLst]; exact ⟨rfl, rfl, rfl, rfl⟩, by unfold EHeap.len; rw [ho]; rfl, mK_at hj⟩
      | cells ho hx =>
        refine .inr ⟨?_, by unfold EHeap.len; rw [ho]; rfl, mK_at hj⟩
        have := (slot_cells ho)
        rw [this]
        exact ⟨rfl, rfl, (exEs_len _ _ _ hx).symm, rfl⟩
      | boxc ho hf hx =>
        refine .inr ⟨?_, by unfold EHeap.len; rw [ho]; simp only [mkO, OD.len, LV.at_nil]; rfl, mK_at hj⟩
        show SlotLike ((H.obj k).slot H.len k []) _
        rw [ho, slot_flatLst]
        have := exEs_len _ _ _ hx
        rw [cellsE_len] at this
        exact ⟨rfl, rfl, this.symm, rfl⟩
      | mp ho => exact .inr ⟨by show SlotLike ((H.obj k).slot H.len k []) _; rw [ho]; trivial, by unfold EHeap.len; rw [ho]; rfl, mK_at hj⟩
    · rw [hj] at q1; cases q1
  · obtain ⟨o, -, hx⟩ := e2 j (by rw [e1]; exact hl)
    rcases hx with ⟨k', x, q1, q2, q3⟩ | ⟨x, q1, q2, q3⟩
    · rw [hj] at q1; cases q1
    · rw [mkH_slot, mkH_len, q3]
      cases o with
      | dead => exact .inl rfl
      | lst e τ =>
        simp only [exV] at q2
        obtain ⟨hf, q2⟩ := bif_none q2
        injection q2 with q2
        subst q2
        refine .inr ⟨_, slot_flatLst, rfl, ?_⟩
        simp only [mkO, OD.len, LV.at_nil]; rfl
      | _ => cases q2
where
  exEs_len : ∀ (l : List Sh) (us : List EV) (x : DS l), exEs ks l us = some x → us.length = (mkEs l x).length
    | [], us, x, h => by cases us <;> first | rfl | cases h
    | a :: l, us, x, h => by
      cases us with
      | nil => cases h
      | cons u us =>
        simp only [exEs] at h
        split at h
        · split at h
          · rename_i x2 h2
            injection h with h; subst h
            simp only [mkEs, List.length_cons, exEs_len l us x2 h2]
          · cases h
        · cases h

theorem objs_ok {Z : Id → Prop} (h : exOs ks H os ks = some y) : ∀ i o', (toH (mkH lo os y)).slot i = .live o' → (mK ks i = none ∧ o'.n = 0) ∨ ∃ x o, mK ks i = some x ∧ (toH H).slot x = .live o ∧ o'.ver = o.ver ∧ o'.elem = o.elem ∧ o'.sz = o.sz ∧ o'.n = o.n ∧
    ∀ r, r < o'.n → ∀ c, c < o'.sz → KG (toH H) (toH (mkH lo os y)) (mK ks) Z (o.get r c) (o'.get r c) := by
  have hR : Roots ks H (mkH lo os y) (mK ks) := roots_ok h
  obtain ⟨e1, e2⟩ := exOs_at os ks y h
  rintro ⟨j, p⟩ o' hl
  by_cases hj : j < os.length
  · obtain ⟨o, -, hx⟩ := e2 j hj
    rcases hx with ⟨k, x, q1, q2, q3⟩ | ⟨x, q1, q2, q3⟩
    · right
      have rd := exO_read o x q2
      have same : ∀ {e : TypeId} {τ : Ty} {l : List τ.D}, H.obj k = .lst ⟨e, τ, l⟩ → mkO o x = .lst ⟨e, τ, l⟩ → ∃ x o, mK ks ⟨j, p⟩ = some x ∧ (toH H).slot x = .live o ∧ o'.ver = o.ver ∧ o'.elem = o.elem ∧ o'.sz = o.sz ∧ o'.n = o.n ∧
          ∀ r, r < o'.n → ∀ c, c < o'.sz → KG (toH H) (toH (mkH lo os y)) (mK ks) Z (o.get r c) (o'.get r c) := fun ho1 ho2 => by
        obtain ⟨o1, r1, r2, r3, r4, r5, r6⟩ := lst_same (H := H) (H' := mkH lo os y) (j := j) (k := k) (m := mK ks) (Z := Z) ho1 (q3.trans ho2) (fun p => mK_at q1) p o' hl
        exact ⟨⟨k, p⟩, o1, mK_at q1, r1, r2, r3, r4, r5, r6⟩
      rw [mkH_slot, q3] at hl
      cases rd with
      | dead => cases hl
      | lst ho => exact same ho rfl
      | box ho => exact same ho rfl
      | @cells e l ms x ho hx =>
        obtain ⟨rfl, rfl⟩ := cellsV_slot hl
        obtain ⟨f1, f2⟩ := exEs_ok hR l ms x hx (Z := Z)
        refine ⟨⟨k, []⟩, _, mK_at q1, slot_cells ho, rfl, rfl, f1.symm, rfl, fun r hr c hc => ?_⟩
        exact f2 c (by rw [f1]; exact hc)
      | @boxc e l τ z x ho hf hx =>
        obtain ⟨rfl, rfl⟩ := cellsV_slot hl
        obtain ⟨f1, f2⟩ := exEs_ok hR l _ x hx (Z := Z)
        have hat : H.at k [] = some ⟨e, τ, [z]⟩ := by simp only [EHeap.at, ho, LV.at_nil]
        rw [cellsE_len] at f1 f2
        refine ⟨⟨k, []⟩, _, mK_at q1, slot_lst hat, rfl, rfl, f1.symm, rfl, fun r hr c hc => ?_⟩
        have hc : c < (mkEs l x).length := hc
        have hr : r < 1 := hr
        obtain rfl : r = 0 := by omega
        have := f2 c (by omega)
        rw [cellsE_at _ _ _ _ _ _ _ _ _ (by omega), Nat.zero_add] at this
        have e3 := cellE_V (v := ⟨e, τ, [z]⟩) hat 0 c
        have e4 : LV.row ⟨e, τ, [z]⟩ 0 = z := rfl
        rw [e4] at e3
        rw [e3] at this
        exact this
      | mp ho => simp only [mkO] at hl; cases p <;> cases hl
    · left
      refine ⟨mK_no q1, ?_⟩
      rw [mkH_slot, q3] at hl
      cases o with
      | dead => cases hl
      | lst e τ =>
        simp only [exV] at q2
        obtain ⟨hf, q2⟩ := bif_none q2
        injection q2 with q2
        subst q2
        simp only [mkO, OD.slot] at hl
        cases p with
        | nil => rw [LV.at_nil] at hl; injection hl with hl; subst hl; rfl
        | cons a b => rw [LV.at_flat (v := ⟨e, τ, []⟩) hf (a :: b) (by simp)] at hl; cases hl
      | _ => cases q2
  · rw [mkH_slot, mkObj_out os y j (Nat.le_of_not_lt hj)] at hl; cases hl
theorem maps_ok {Z : Id → Prop} (h : exOs ks H os ks = some y) : ∀ i s g', (toH (mkH lo os y)).slot i = .mp s g' → ∃ x g, mK ks i = some x ∧ (toH H).slot x = .mp s g ∧ ∀ k, (g k = none ∧ g' k = none) ∨ ∃ u u', g k = some u ∧ g' k = some u' ∧ KG (toH H) (toH (mkH lo os y)) (mK ks) Z u u' := by
  obtain ⟨e1, e2⟩ := exOs_at os ks y h
  rintro ⟨j, p⟩ s g' hl
  by_cases hj : j < os.length
  · obtain ⟨o, -, hx⟩ := e2 j hj
    rw [mkH_slot] at hl
    obtain ⟨τ, g, r1, r2, r3⟩ := slot_mp hl
    rcases hx with ⟨k, x, q1, q2, q3⟩ | ⟨x, q1, q2, q3⟩
    · rw [q3] at r1
      have rd := exO_read o x q2
      cases rd with
      | mp ho =>
        injection r1 with a b c
        subst a; subst b
        obtain rfl := eq_of_heq c
        subst r2
        refine ⟨⟨k, []⟩, g', mK_at q1, by show (H.obj k).slot _ _ _ = _; rw [ho, r3]; rfl, fun key => ?_⟩
        subst r3
        dsimp only
        split
        · exact .inr ⟨_, _, rfl, rfl, KG.t _⟩
        · exact .inl ⟨rfl, rfl⟩
      | _ => cases r1
    · rw [q3] at r1
      cases o with
      | mp s τ => cases q2
      | _ => cases r1
  · rw [mkH_slot, mkObj_out os y j (Nat.le_of_not_lt hj)] at hl; cases hl
theorem mK_inj (hn : nodK ks = true) {i j x : Id} (h1 : mK ks i = some x) (h2 : mK ks j = some x) : i = j := by
  obtain ⟨a, p⟩ := i
  obtain ⟨b, q⟩ := j
  simp only [mK] at h1 h2
  cases ha : nthK ks a with
  | none => rw [ha] at h1; cases h1
  | some k =>
    cases hb : nthK ks b with
    | none => rw [hb] at h2; cases h2
    | some k' =>
      rw [ha] at h1; rw [hb] at h2
      injection h1 with h1; injection h2 with h2
      subst h1
      injection h2 with h2 h3
      subst h2; subst h3
      rw [nodK_out hn ha hb]
theorem mkH_next : Nx (toH (mkH lo os y)) := fun i hi => by
  obtain ⟨j, p⟩ := i
  have hi : os.length ≤ j := hi
  rw [mkH_slot, mkObj_out os y j hi]; rfl

/-- A part of memory, told by its shape. -/
theorem part_ok (h : exOs ks H os ks = some y) (hn : nodK ks = true) : Part (toH H) (toH (mkH os.length os y)) (mK ks) where
  next := mkH_next
  lo := rfl
  obj := objs_ok h
  mp := maps_ok h
  inj i j x _ _ h1 h2 := mK_inj hn h1 h2

theorem lowK_out : ∀ {n j : Nat} {ks : List (Option Nat)} {os : List OSh}, lowK n j ks os = true → ∀ i, i < n → nthO os i = some .dead ∨ nthK ks i = some (j + i)
  | 0, _, _, _, _, i, hi => absurd hi (Nat.not_lt_zero _)
  | n + 1, j, [], _, h, i, hi => by cases h
  | n + 1, j, _ :: _, [], h, i, hi => by cases h
  | n + 1, j, k :: ks, o :: os, h, i, hi => by
    simp only [lowK, Bool.and_eq_true] at h
    cases i with
    | zero =>
      cases o with
      | dead => exact .inl rfl
      | _ =>
        right
        cases k with
        | none => exact absurd h.1 (by simp)
        | some k => obtain rfl := natBeq h.1; rfl
    | succ i =>
      rcases lowK_out h.2 i (by omega) with h | h
      · exact .inl h
      · right
        show nthK ks i = _
        rw [h]; congr 1; omega
structure SSh where
  sl : List (Nat × Sh)
  os : List OSh
/-- A state told by its shape. -/
def mkS (nt lo : Nat) (sh : SSh) (x : DT sh.sl) (y : DO sh.os) : ESt := ⟨nt, mkEnv sh.sl x, mkH lo sh.os y⟩
def exS (s : ESt) (ks : List (Option Nat)) (sh : SSh) : Option (DT sh.sl × DO sh.os) := bif nodK ks && lowK s.heap.lo 0 ks sh.os then (match exT ks s.env sh.sl with
  | some x => match exOs ks s.heap sh.os ks with
    | some y => some (x, y)
    | none => none
  | none => none) else none
theorem exS_ok {s : ESt} {sh : SSh} {x : DT sh.sl} {y : DO sh.os} (h : exS s ks sh = some (x, y)) : WeakT s (mkS s.nt s.heap.lo sh x y) := by
  unfold exS at h
  obtain ⟨hb, h⟩ := bif_none h
  simp only [Bool.and_eq_true] at hb
  obtain ⟨hn, hlo⟩ := hb
  split at h
  · rename_i x' hx
    split at h
    · rename_i y' hy
      injection h with h
      injection h with h1 h2
      subst h1; subst h2
      have hR : Roots ks s.heap (mkH s.heap.lo sh.os y') (mK ks) := roots_ok hy
      obtain ⟨e1, e2⟩ := exOs_at _ _ _ hy
      refine Weak.gen (mK ks) (fun _ => False) rfl ⟨rfl, mkH_next, fun i o' ho => ?_, fun i sb g' hm => ?_, fun i j x _ _ h1 h2 => mK_inj hn h1 h2, fun i hi hp => ?_⟩ (fun t => exT_ok hR sh.sl x' hx t)
      · rcases objs_ok (Z := fun _ => False) hy i o' ho with h | ⟨x, o, a, b, c, d, e, f, g⟩
        · exact .inl h
        · exact .inr ⟨x, o, a, b, fun h => h, d, e, Nat.le_of_eq f, g⟩
      · obtain ⟨x, g, a, b, c⟩ := maps_ok (Z := fun _ => False) hy i sb g' hm
        exact ⟨x, g, a, b, fun h => h, c⟩
      · obtain ⟨j, p⟩ := i
        simp only at hp hi
        subst hp
        right
        have hi : j < s.heap.lo := hi
        rcases lowK_out hlo j hi with h | h
        · left
          have hj : j < sh.os.length := by
            refine Classical.byContradiction fun hn => ?_
            have : ∀ (l : List OSh) (j : Nat), l.length ≤ j → nthO l j = none := by
              intro l
              induction l with
              | nil => intro j _; rfl
              | cons o l ih => intro j hj; cases j with
                | zero => simp at hj
                | succ j => exact ih j (by simpa using hj)
            rw [this _ _ (Nat.le_of_not_lt hn)] at h; cases h
          obtain ⟨o, ho, hx⟩ := e2 j hj
          rw [h] at ho
          injection ho with ho
          subst ho
          rcases hx with ⟨k, x, _, _, q3⟩ | ⟨x, _, _, q3⟩ <;> (show (mkObj sh.os y' j).slot _ _ _ = _; rw [q3]; rfl)
        · rw [Nat.zero_add] at h
          rcases hR.sm j j h with hd | ⟨q1, q2, q3⟩
          · exact .inl hd
          · exact .inr ⟨q3, q1⟩
    · cases h
  · cases h
/-- The names are found by themselves. -/
def ksFor (s : ESt) (sh : SSh) : List (Option Nat) := ksOf (bindO s.heap sh.os 0 (bindT s.env sh.sl (idsOf s.heap.lo 0))) sh.os 0
end
end Go.Abs
