/-
Texts of the proof, part 4: K1 G10 H1 H2 H3 H4 H5 H6.
No statement of the program is proved here.
-/
import Derived.Test.YtlcholjffgaemaaM3
set_option linter.unusedVariables false
set_option linter.unusedSimpArgs false
set_option linter.unusedSectionVars false
namespace Go.Abs
open Go
noncomputable section
variable {P : Program} {d : Option Tmp} {ty : TypeId} {L : List GOp} {ρ : Type}
section
variable [SU] [Codes] {Q : Exit -> ESt -> Prop}
theorem LV.at_even : ∀ (p : List Nat) (v a : LV), v.at p = some a -> p.length % 2 = 0
 | [], _, _, _ => rfl
 | [x], v, a, h => by rw [LV.at_odd] at h; cases h
 | c :: r :: p, v, a, h => by
  rw [LV.at_cons] at h
  cases hk : v.kid c r with
  | none => rw [hk] at h; cases h
  | some k =>
   rw [hk] at h
   have := LV.at_even p k a h
   simp only [List.length_cons]; omega
def attF (id k n : Nat) : Nat -> List Nat -> Option EV := fun j q => bif Nat.beq j k then some .un else bif Nat.beq j id && Nat.ble n q.length then some .un else none
theorem attF_none {id k n j : Nat} {q : List Nat} (h : attF id k n j q = none) : j ≠ k /\ ¬ (j = id /\ n <= q.length) := by
 unfold attF at h
 cases e1 : Nat.beq j k with
 | true => rw [e1] at h; cases h
 | false =>
  rw [e1] at h
  simp only [cond_false] at h
  refine ⟨fun e => by subst e; simp at e1, fun ⟨e2, e3⟩ => ?_⟩
  subst e2
  rw [Nat.beq_refl, Nat.ble_eq_true_of_le e3] at h
  cases h
theorem attF_some {id k n j : Nat} {q : List Nat} {u : EV} (h : attF id k n j q = some u) : u = .un := by
 unfold attF at h
 cases e1 : Nat.beq j k with
 | true => rw [e1] at h; injection h with h; exact h.symm
 | false =>
  rw [e1] at h
  simp only [cond_false] at h
  cases e2 : Nat.beq j id && Nat.ble n q.length with
  | true => rw [e2] at h; injection h with h; exact h.symm
  | false => rw [e2] at h; cases h
theorem attF_not {id k n j : Nat} {q : List Nat} (h1 : j ≠ k) (h2 : j = id -> q.length < n) : attF id k n j q = none := by
 unfold attF
 rw [natBeq_ne h1, cond_false]
 by_cases e : j = id
 ·have : Nat.ble n q.length = false := by
   cases hb : Nat.ble n q.length with
   | false => rfl
   | true => have := Nat.le_of_ble_eq_true hb; have := h2 e; omega
  rw [this, Bool.and_false, cond_false]
 ·rw [natBeq_ne e, Bool.false_and, cond_false]
def attM (id k : Nat) (P : List Nat) : Id -> Option Id := fun i => if i.k = id then (if P <+: i.p then some ⟨k, i.p.drop P.length⟩ else some i) else if i.k = k then none else some i
def EHeap.att (H : EHeap) (id k : Nat) (P : List Nat) (root' : LV) : EHeap :=
 { H with obj := fun j => bif Nat.beq j id then .lst root' else bif Nat.beq j k then .dead else scrubO (attF id k P.length) (H.obj j) }
def ESt.att (s : ESt) (id k : Nat) (P : List Nat) (root' : LV) : ESt := { s with env := fun t => scrub (attF id k P.length) (s.env t), heap := s.heap.att id k P root' }
theorem weak_att {s : ESt} {id k : Nat} {p : List Nat} {root v root' w : LV} {r c : Nat} {y : v.τ.D} {H1 : Heap} {o1 : AObj} (hf : Fair s) (hik : id ≠ k) (ho : s.heap.obj id = .lst root) (hk : s.heap.obj k = .lst w) (hv : root.at p = some v) (hr : r < v.l.length)
  (hc : c < v.τ.sz) (hy1 : cellC v.τ y c = .own w.e w.τ w.l) (hy2 : ∀ c', c' ≠ c -> cellC v.τ y c' = cellC v.τ (v.row r) c') (hp : root.put p (v.setRow r y) = some root')
  (hs1 : ∀ i, H1.slot i = if i = ⟨id, p⟩ then .live o1 else (toH s.heap).slot i) (hlo : H1.lo = s.heap.lo)
  (h1 : o1.ver = 0) (h2 : o1.elem = v.e) (h3 : o1.sz = v.τ.sz) (h4 : o1.n = v.l.length)
  (h5 : ∀ i, i < v.l.length -> ∀ j, j < v.τ.sz -> (¬ (i = r /\ j = c) /\ o1.get i j = (v.obj s.heap.len id p).get i j) \/ (i = r /\ j = c /\ Wk (o1.get i j) (.sref ⟨k, []⟩ 0 0 w.l.length)))
  (d : Option Tmp) : Weak (((toSt s).on H1).put d .un) (toSt ((s.att id k (p ++ [c, r]) root').put d .un)) := by
 let PP : List Nat := p ++ [c, r]
 let m : Id -> Option Id := attM id k PP
 let f := attF id k PP.length
 let H' := s.heap.att id k PP root'
 obtain ⟨a1, a2, a3, a4⟩ := LV.put_ok p root v root' r c y hv hr hy2 hp
 have hpe := LV.at_even p root v hv
 have hPP : PP.length = p.length + 2 := by simp [PP]
 have atP : ∀ q, root'.at (PP ++ q) = w.at q := fun q => by
  have e1 : root'.at PP = some ⟨w.e, w.τ, w.l⟩ := by
   rw [LV.at_append _ _ _ _ a1, LV.at_one]
   refine LV.kid_of ?_
   rw [LV.setRow_row hr, if_pos rfl]
   exact hy1
  rw [LV.at_append _ _ _ _ e1]
 have hobj : ∀ j, j ≠ id -> j ≠ k -> H'.obj j = scrubO f (s.heap.obj j) := fun j e1 e2 => by simp only [H', EHeap.att, natBeq_ne e1, natBeq_ne e2, cond_false]; rfl
 have hobji : H'.obj id = .lst root' := by simp only [H', EHeap.att, Nat.beq_refl, cond_true]
 have hobjk : H'.obj k = .dead := by simp only [H', EHeap.att, natBeq_ne (fun e => hik e.symm), cond_false, Nat.beq_refl, cond_true]
 have hsl : ∀ q, (toH s.heap).slot ⟨id, q⟩ = (OD.lst root).slot s.heap.len id q := fun q => by show (s.heap.obj id).slot _ _ _ = _; rw [ho]
 have hslk : ∀ q, (toH s.heap).slot ⟨k, q⟩ = (OD.lst w).slot s.heap.len k q := fun q => by show (s.heap.obj k).slot _ _ _ = _; rw [hk]
 have hsl' : ∀ q, (toH H').slot ⟨id, q⟩ = (OD.lst root').slot H'.len id q := fun q => by show (H'.obj id).slot _ _ _ = _; rw [hobji]
 have fn : ∀ j q, f j q = none -> j ≠ k /\ ¬ (j = id /\ PP <+: q) := fun j q h => by
  obtain ⟨e1, e2⟩ := attF_none h
  exact ⟨e1, fun ⟨x, y⟩ => e2 ⟨x, y.length_le⟩⟩
 have mo : ∀ j q, j ≠ id -> j ≠ k -> m ⟨j, q⟩ = some ⟨j, q⟩ := fun j q e1 e2 => by simp only [m, attM, if_neg e1, if_neg e2]
 have mi : ∀ q, ¬ PP <+: q -> m ⟨id, q⟩ = some ⟨id, q⟩ := fun q e => by simp only [m, attM, if_true, if_neg e]
 have mp : ∀ q, m ⟨id, PP ++ q⟩ = some ⟨k, q⟩ := fun q => by
  simp only [m, attM, if_true]
  rw [if_pos ⟨q, rfl⟩]
  simp
 have mk : ∀ q, m ⟨k, q⟩ = none := fun q => by simp only [m, attM, if_neg (fun e : k = id => hik e.symm), if_true]
 have hkk : ScrubOk f s.heap H1 H' m (fun _ => False) := ⟨fun j q u h => by
   have : u = .un := attF_some h
   rw [this]; simp only [toV]; exact KG.un,
  fun j q h hb => by
   obtain ⟨e1, e2⟩ := fn j q h
   by_cases hj : j = id
   ·subst hj
    have hq : ¬ PP <+: q := fun e => e2 ⟨rfl, e⟩
    refine .inr ⟨?_, mi q hq⟩
    rw [hsl', hs1]
    rw [hsl] at hb
    simp only [OD.slot] at hb ⊢
    by_cases hqp : q = p
    ·subst hqp
     rw [if_pos rfl, a1]
     exact ⟨h1.symm, h2.symm, h3.symm, by show (v.l.set r y).length = o1.n; rw [List.length_set, h4]⟩
    ·rw [if_neg (fun e => hqp (by injection e)), hsl]
     simp only [OD.slot]
     rcases a2 q hq with ⟨x1, x2⟩ | ⟨x, x', x1, x2, x3⟩
     ·rw [x2] at hb; exact absurd rfl hb
     ·rw [x1, x2]; exact ⟨rfl, x3.e, by show x'.τ.sz = x.τ.sz; rw [x3.τ], x3.n⟩
   ·refine .inr ⟨?_, mo j q hj e1⟩
    rw [hs1, if_neg (fun e => hj (by injection e))]
    show SlotLike _ ((H'.obj j).slot H'.len j q)
    rw [hobj j hj e1]
    exact scrub_slots hb,
  fun j q h hb => by
   obtain ⟨e1, e2⟩ := fn j q h
   by_cases hj : j = id
   ·subst hj
    have hq : ¬ PP <+: q := fun e => e2 ⟨rfl, e⟩
    unfold EHeap.len
    rw [hobji, ho]
    simp only [OD.len]
    rcases a2 q hq with ⟨x1, x2⟩ | ⟨x, x', x1, x2, x3⟩
    ·rw [x1, x2]
    ·rw [x1, x2]; simp only [x3.n]
   ·exact EHeap.len_scrub (hobj j hj e1) q⟩
 have fo : ∀ j, j ≠ id -> j ≠ k -> ∀ q, f j q = none := fun j e1 e2 q => attF_not e2 (fun e => absurd e e1)
 have lenP : H'.len id PP = some w.l.length := by
  unfold EHeap.len
  rw [hobji]
  simp only [OD.len]
  have := atP []
  rw [List.append_nil, LV.at_nil] at this
  rw [this]
 -- cells of the list that moves
 have cellM : ∀ (q : List Nat) (a : LV), w.at q = some a -> ∀ r' c', r' < a.l.length -> KG H1 (toH H') m (fun _ => False) (cellV s.heap.len k q r' c' (cellC a.τ (a.row r') c')) (cellV H'.len id (PP ++ q) r' c' (cellC a.τ (a.row r') c')) := fun q a ha r' c' hr' => by
  cases hx : cellC a.τ (a.row r') c' with
  | ev u => exact KG.dat (cellC_dat _ _ _ _ hx)
  | own t e l =>
   simp only [cellV]
   have e1 : (toH s.heap).slot ⟨k, q ++ [c', r']⟩ = .live (LV.obj s.heap.len k (q ++ [c', r']) ⟨t, e, l⟩) := by
    rw [hslk]
    exact kid_born ha hx
   have e2 : (toH H').slot ⟨id, PP ++ q ++ [c', r']⟩ = .live (LV.obj H'.len id (PP ++ q ++ [c', r']) ⟨t, e, l⟩) := by
    rw [hsl']
    exact kid_born (by rw [atP]; exact ha) hx
   refine KG.sref (o := LV.obj s.heap.len k (q ++ [c', r']) ⟨t, e, l⟩) (by rw [hs1, if_neg (fun e => hik (by injection e with e _; exact e.symm))]; exact e1) e2 ?_ rfl rfl rfl rfl (by show 0 + l.length <= l.length; omega)
   have := mp (q ++ [c', r'])
   rwa [<- List.append_assoc] at this
 have idlive : (toH s.heap).slot ⟨id, []⟩ ≠ .unborn := by rw [hsl]; simp only [OD.slot, LV.at_nil]; intro e; cases e
 have klive : (toH s.heap).slot ⟨k, []⟩ ≠ .unborn := by rw [hslk]; simp only [OD.slot, LV.at_nil]; intro e; cases e
 have kdead : ∀ q, (toH H').slot ⟨k, q⟩ = .dead := fun q => by show (H'.obj k).slot _ _ _ = _; rw [hobjk]; rfl
 have hs1n : ∀ j q, (j = id -> q ≠ p) -> H1.slot ⟨j, q⟩ = (toH s.heap).slot ⟨j, q⟩ := fun j q e => by
  rw [hs1, if_neg (fun e2 => by injection e2 with e2 e3; exact e e2 e3)]
 -- cells of the lists that stay
 have cellS : ∀ (q : List Nat) (a a' : LV), root.at q = some a -> root'.at q = some a' -> q.length % 2 = 0 -> ¬ PP <+: q -> ∀ r' c' (x x' : Cell), ¬ (q = p /\ r' = r /\ c' = c) -> x = cellC a.τ (a.row r') c' -> x' = cellC a'.τ (a'.row r') c' -> x.Sim x' ->
   KG H1 (toH H') m (fun _ => False) (cellV s.heap.len id q r' c' x) (cellV H'.len id q r' c' x') := fun q a a' ha ha' hqe hnq r' c' x x' hne hx hx' hsim => by
  cases x with
  | ev u =>
   cases x' with
   | own t e l => exact hsim.elim
   | ev u' =>
    have : u = u' := hsim
    subst this
    exact KG.dat (cellC_dat _ _ _ _ hx.symm)
  | own t e l =>
   cases x' with
   | ev u => exact hsim.elim
   | own t' e' l' =>
    obtain ⟨rfl, rfl, hl⟩ := hsim
    simp only [cellV]
    have np : ¬ PP <+: q ++ [c', r'] := fun ⟨z, hz⟩ => by
     have hlen := congrArg List.length hz
     simp only [List.length_append, List.length_cons, List.length_nil] at hlen
     by_cases hz0 : z = []
     ·subst hz0
      rw [List.append_nil] at hz
      have h2 : p = q /\ [c, r] = [c', r'] := List.append_inj' hz rfl
      have h3 := h2.2
      simp only [List.cons.injEq, and_true] at h3
      exact hne ⟨h2.1.symm, h3.2.symm, h3.1.symm⟩
     ·have hzl : z.length ≠ 0 := fun e => hz0 (List.eq_nil_of_length_eq_zero e)
      refine hnq (List.prefix_of_prefix_length_le ⟨z, hz⟩ (List.prefix_append q [c', r']) ?_)
      omega
    rw [hl]
    have e1 : (toH s.heap).slot ⟨id, q ++ [c', r']⟩ = .live (LV.obj s.heap.len id (q ++ [c', r']) ⟨t, e, l⟩) := by rw [hsl]; exact kid_born ha hx.symm
    have e2 : (toH H').slot ⟨id, q ++ [c', r']⟩ = .live (LV.obj H'.len id (q ++ [c', r']) ⟨t, e, l'⟩) := by rw [hsl']; exact kid_born ha' hx'.symm
    by_cases hqp : q ++ [c', r'] = p
    ·have hv2 : root.at (q ++ [c', r']) = some ⟨t, e, l⟩ := by rw [LV.at_append _ _ _ _ ha, LV.at_one, LV.kid_of hx.symm]
     have hvv : v = ⟨t, e, l⟩ := by rw [hqp, hv] at hv2; injection hv2
     refine KG.sref (o := o1) (by rw [hs1, if_pos (by rw [hqp])]) e2 (mi _ np) h1.symm rfl ?_ ?_ (by show 0 + l'.length <= l'.length; omega)
     ·rw [h3, hvv]; rfl
     ·rw [h2, hvv]; rfl
    ·exact KG.sref (o := LV.obj s.heap.len id (q ++ [c', r']) ⟨t, e, l⟩) (by rw [hs1n _ _ (fun _ => hqp)]; exact e1) e2 (mi _ np) rfl rfl rfl rfl (by show 0 + l'.length <= l'.length; omega)
 have gen : Gen H1 (toH H') m (fun _ => False) := by
  refine Gen.scrub (fun j => j = id \/ j = k) hkk hf.obj (fun j hj => ?_) (fun i hi o' ho' => ?_) (fun i hi sb g' hm => ?_) (fun i j x hi h1' h2' e1 e2 => ?_) (by rw [hlo]; rfl) (fun i hi => ?_) (fun i hi hil hip => ?_)
  ·have e1 : j ≠ id := fun e => hj (.inl e)
   have e2 : j ≠ k := fun e => hj (.inr e)
   exact ⟨fo j e1 e2, hobj j e1 e2, fun q => mo j q e1 e2, fun q h => h, fun q => hs1n j q (fun e => absurd e e1)⟩
  ·obtain ⟨j, q⟩ := i
   by_cases hj : j = id
   ·subst hj
    rw [hsl'] at ho'
    simp only [OD.slot] at ho'
    cases ha' : root'.at q with
    | none => rw [ha'] at ho'; cases ho'
    | some a' =>
     rw [ha'] at ho'
     injection ho' with ho'; subst ho'
     by_cases hq : PP <+: q
     ·obtain ⟨q', rfl⟩ := hq
      rw [atP] at ha'
      refine .inr ⟨⟨k, q'⟩, LV.obj s.heap.len k q' a', mp q', ?_, fun h => h, rfl, rfl, Nat.le_refl _, fun r' hr' c' _ => cellM q' a' ha' r' c' hr'⟩
      rw [hs1n _ _ (fun e => absurd e.symm hik), hslk]
      simp only [OD.slot, ha']
     ·by_cases hqp : q = p
      ·subst hqp
       rw [a1] at ha'
       injection ha' with ha'; subst ha'
       refine .inr ⟨⟨j, q⟩, o1, mi q hq, by rw [hs1, if_pos rfl], fun h => h, h2.symm, h3.symm, by rw [h4]; show (v.l.set r y).length <= _; rw [List.length_set]; exact Nat.le_refl _, fun r' hr' c' hc' => ?_⟩
       have hr' : r' < v.l.length := by
        have : r' < (v.l.set r y).length := hr'
        rwa [List.length_set] at this
       have hc' : c' < v.τ.sz := hc'
       have er : (v.setRow r y).row r' = if r' = r then y else v.row r' := LV.setRow_row hr r'
       show KG _ _ _ _ _ (cellV H'.len j q r' c' (cellC v.τ ((v.setRow r y).row r') c'))
       rcases h5 r' hr' c' hc' with ⟨b1, b2⟩ | ⟨rfl, rfl, b3⟩
       ·rw [b2]
        refine cellS q v (v.setRow r y) hv a1 hpe hq r' c' _ _ (fun e => b1 ⟨e.2.1, e.2.2⟩) rfl rfl ?_
        have : cellC v.τ ((v.setRow r y).row r') c' = cellC v.τ (v.row r') c' := by
         rw [er]
         by_cases hrr : r' = r
         ·rw [if_pos hrr, hrr]; exact hy2 c' (fun e => b1 ⟨hrr, e⟩)
         ·rw [if_neg hrr]
        show (cellC v.τ (v.row r') c').Sim (cellC v.τ ((v.setRow r y).row r') c')
        rw [this]; exact Cell.Sim.rfl _
       ·rw [er, if_pos rfl, hy1]
        simp only [cellV]
        have e2 : (toH H').slot ⟨j, PP⟩ = .live (LV.obj H'.len j PP w) := by
         rw [hsl']
         have := atP []
         rw [List.append_nil, LV.at_nil] at this
         simp only [OD.slot, this]
        have e1 : H1.slot ⟨k, []⟩ = .live (LV.obj s.heap.len k [] w) := by
         rw [hs1n _ _ (fun e => absurd e.symm hik), hslk]
         simp only [OD.slot, LV.at_nil]
        have em : m ⟨j, PP⟩ = some ⟨k, []⟩ := by
         have := mp []
         rwa [List.append_nil] at this
        exact KG.of_wk' b3 (KG.sref e1 e2 em rfl rfl rfl rfl (by show 0 + w.l.length <= w.l.length; omega))
      ·rcases a2 q hq with ⟨x1, x2⟩ | ⟨x, x', x1, x2, x3⟩
       ·rw [x1] at ha'; cases ha'
       ·rw [x2] at ha'
        injection ha' with ha'; subst ha'
        refine .inr ⟨⟨j, q⟩, LV.obj s.heap.len j q x, mi q hq, ?_, fun h => h, x3.e, ?_, Nat.le_of_eq x3.n, fun r' hr' c' hc' => ?_⟩
        ·rw [hs1n _ _ (fun _ => hqp), hsl]
         simp only [OD.slot, x1]
        ·show x'.τ.sz = x.τ.sz
         rw [x3.τ]
        ·exact cellS q x x' x1 x2 (LV.at_even _ _ _ x1) hq r' c' _ _ (fun e => hqp e.1) rfl rfl (x3.c r' c' (fun e => hqp e.1))
   ·have hj2 : j = k := hi.resolve_left hj
    subst hj2
    rw [kdead] at ho'; cases ho'
  ·obtain ⟨j, q⟩ := i
   by_cases hj : j = id
   ·subst hj
    rw [hsl'] at hm
    simp only [OD.slot] at hm
    cases ha' : root'.at q <;> rw [ha'] at hm <;> cases hm
   ·have hj2 : j = k := hi.resolve_left hj
    subst hj2
    rw [kdead] at hm; cases hm
  ·obtain ⟨j1, q1⟩ := i
   obtain ⟨j2, q2⟩ := j
   have n1 : j1 ≠ k := fun e => by subst e; rw [kdead] at h1'; exact h1'
   have n2 : j2 ≠ k := fun e => by subst e; rw [kdead] at h2'; exact h2'
   have hj : j1 = id := hi.resolve_right n1
   subst hj
   have key : ∀ q y, m ⟨j1, q⟩ = some y -> (PP <+: q /\ y = ⟨k, q.drop PP.length⟩) \/ (¬ PP <+: q /\ y = ⟨j1, q⟩) := fun q y e => by
    by_cases hq : PP <+: q
    ·obtain ⟨z, rfl⟩ := hq
     rw [mp] at e
     injection e with e
     exact .inl ⟨⟨z, rfl⟩, by rw [<- e]; simp⟩
    ·rw [mi q hq] at e
     injection e with e
     exact .inr ⟨hq, e.symm⟩
   by_cases hj2 : j2 = j1
   ·subst hj2
    rcases key q1 x e1 with ⟨p1, x1⟩ | ⟨p1, x1⟩ <;> rcases key q2 x e2 with ⟨p2, x2⟩ | ⟨p2, x2⟩
    ·rw [x1] at x2
     injection x2 with _ x2
     obtain ⟨z1, rfl⟩ := p1
     obtain ⟨z2, rfl⟩ := p2
     simp at x2
     rw [x2]
    ·rw [x1] at x2
     injection x2 with x2 _
     exact absurd x2.symm hik
    ·rw [x1] at x2
     injection x2 with x2 _
     exact absurd x2 hik
    ·rw [<- x1, <- x2]
   ·rw [mo j2 q2 hj2 n2] at e2
    injection e2 with e2
    rcases key q1 x e1 with ⟨p1, x1⟩ | ⟨p1, x1⟩
    ·rw [x1] at e2; injection e2 with e2 _; exact absurd e2 n2
    ·rw [x1] at e2; injection e2 with e2 _; exact absurd e2 hj2
  ·have hi : s.heap.next <= i.k := hi
   have e1 : i.k ≠ id := fun e => idlive (by
    have := hf.next ⟨id, []⟩ (by rw [<- e]; exact hi)
    exact this)
   have e2 : i.k ≠ k := fun e => klive (by
    have := hf.next ⟨k, []⟩ (by rw [<- e]; exact hi)
    exact this)
   show (H'.obj i.k).slot _ _ _ = _
   rw [hobj _ e1 e2]
   exact scrub_unborn.2 (hf.next i hi)
  ·obtain ⟨j, q⟩ := i
   simp only at hip hil
   subst hip
   by_cases hj : j = id
   ·subst hj
    have np : ¬ PP <+: ([] : List Nat) := fun ⟨z, hz⟩ => by
     have := congrArg List.length hz
     simp only [List.length_append, List.length_nil] at this
     omega
    have fnone : f j [] = none := attF_not hik (fun _ => by rw [hPP]; simp)
    rcases hkk.slot j [] fnone idlive with h | ⟨h, h'⟩
    ·exact .inr (.inl h)
    ·exact .inr (.inr ⟨h', h⟩)
   ·have hj2 : j = k := hi.resolve_left hj
    subst hj2
    exact .inr (.inl (kdead []))
 refine Weak.gen m (fun _ => False) (by rw [toSt_put, put_nt, put_nt]; rfl) (by rw [put_heap, toSt_put, put_heap]; exact gen) (fun t => ?_)
 have hh1 : (((toSt s).on H1).put d .un).heap = H1 := by rw [put_heap]; rfl
 have hh2 : (toSt ((s.att id k (p ++ [c, r]) root').put d .un)).heap = toH H' := by rw [toSt_put, put_heap]; rfl
 rw [hh1, hh2, toSt_put]
 have base : KG H1 (toH H') m (fun _ => False) (toV s.heap.len (s.env t)) (toV H'.len (scrub f (s.env t))) := ScrubOk.keeps hkk _ (hf.env t)
 cases d with
 | none => exact base
 | some d =>
  show KG _ _ _ _ ((((toSt s).on H1).put (some d) .un).env t) (((toSt (s.att id k (p ++ [c, r]) root')).put (some d) _).env t)
  simp only [St.put]
  cases Nat.beq t d with
  | false => exact base
  | true =>
   show KG _ _ _ _ _ (bif Nat.blt d s.nt then toV H'.len .un else .un)
   cases Nat.blt d s.nt <;> exact KG.un
theorem up_slot {len : Len} {k : Nat} {e : TypeId} {i j : Nat} {f : SU.D i -> SU.D j} {l : List (SU.D i)} (h : Codes.upF i j = some f) (p : List Nat) : (OD.lst ⟨e, .st j, l.map f⟩).slot len k p = (OD.lst ⟨e, .st i, l⟩).slot len k p /\ (OD.lst ⟨e, .st j, l.map f⟩).len p = (OD.lst ⟨e, .st i, l⟩).len p := by
 obtain ⟨h1, h2, h3⟩ := Codes.up_ok i j f h
 have hrow : ∀ r, (l.map f).getD r (SU.z j) = f (l.getD r (SU.z i)) := fun r => by
  rw [<- h2]
  simp only [List.getD_eq_getElem?_getD, List.getElem?_map]
  cases l[r]? <;> rfl
 have hc : ∀ r c, cellC (.st j) (LV.row ⟨e, .st j, l.map f⟩ r) c = cellC (.st i) (LV.row ⟨e, .st i, l⟩ r) c := fun r c => by
  show Codes.cell j ((l.map f).getD r (SU.z j)) c = Codes.cell i (l.getD r (SU.z i)) c
  rw [hrow]; exact h3 _ _
 match p with
 | [] =>
  simp only [OD.slot, OD.len, LV.at_nil]
  have hn : (l.map f).length = l.length := List.length_map _
  have hg : (fun r c => cellV len k [] r c (cellC (.st j) (LV.row ⟨e, .st j, l.map f⟩ r) c)) = (fun r c => cellV len k [] r c (cellC (.st i) (LV.row ⟨e, .st i, l⟩ r) c)) := by
   funext r c
   rw [hc]
  refine ⟨?_, by rw [show (LV.mk e (.st j) (l.map f)).l.length = l.length from hn]⟩
  show Slot.live { elem := e, sz := SU.sz j, ver := 0, n := (l.map f).length, get := fun r c => cellV len k [] r c (cellC (.st j) (LV.row ⟨e, .st j, l.map f⟩ r) c) } = Slot.live { elem := e, sz := SU.sz i, ver := 0, n := l.length, get := fun r c => cellV len k [] r c (cellC (.st i) (LV.row ⟨e, .st i, l⟩ r) c) }
  rw [hn, h1, hg]
 | [x] => simp only [OD.slot, OD.len, LV.at_odd, and_self]
 | c :: r :: q =>
  have hk : LV.kid ⟨e, .st j, l.map f⟩ c r = LV.kid ⟨e, .st i, l⟩ c r := by
   unfold LV.kid
   have := hc r c
   unfold LV.row at this
   rw [this]
  simp only [OD.slot, OD.len, LV.at_cons, hk, and_self]
theorem toSt_up {s : ESt} {k : Nat} {e : TypeId} {i j : Nat} {f : SU.D i -> SU.D j} {l : List (SU.D i)} (ho : s.heap.obj k = .lst ⟨e, .st i, l⟩) (h : Codes.upF i j = some f) : toSt (s.on (s.heap.set k (.lst ⟨e, .st j, l.map f⟩))) = toSt s := by
 have hl : (s.heap.set k (.lst ⟨e, .st j, l.map f⟩)).len = s.heap.len := by
  funext a p
  unfold EHeap.len
  by_cases ha : a = k
  ·subst ha
   simp only [EHeap.set, Nat.beq_refl, cond_true, ho]
   exact (up_slot (len := fun _ _ => none) (k := 0) h p).2
  ·rw [EHeap.set_ne ha]
 unfold toSt ESt.on toH
 simp only [hl]
 congr 2
 funext id
 by_cases ha : id.k = k
 ·simp only [EHeap.set, ha, Nat.beq_refl, cond_true, ho]
  exact (up_slot h id.p).1
 ·rw [EHeap.set_ne ha]
def upTo (w : LV) (e : Ty) : LV := match w, e with
 | ⟨el, .st i, l⟩, .st j => (match Codes.upF i j with
  | some f => ⟨el, .st j, l.map f⟩
  | none => ⟨el, .st i, l⟩)
 | w, _ => w
theorem toSt_upTo {s : ESt} {k : Nat} {w : LV} (e : Ty) (ho : s.heap.obj k = .lst w) : toSt (s.on (s.heap.set k (.lst (upTo w e)))) = toSt s := by
 have same : toSt (s.on (s.heap.set k (.lst w))) = toSt s := by
  have : s.on (s.heap.set k (.lst w)) = s := by
   obtain ⟨nt, env, H⟩ := s
   obtain ⟨nx, lo, obj, md⟩ := H
   unfold ESt.on EHeap.set
   simp only
   congr 2
   funext a
   by_cases ha : a = k
   ·subst ha; rw [Nat.beq_refl]; exact ho.symm
   ·rw [natBeq_ne ha]; rfl
  rw [this]
 unfold upTo
 split
 ·rename_i el i l j
  split
  ·rename_i f hf
   exact toSt_up ho hf
  ·exact same
 ·exact same
theorem Fair.of_eq {s s1 : ESt} (h : toSt s1 = toSt s) (hn : s1.heap.next = s.heap.next) (hf : Fair s) : Fair s1 := by
 have hH : toH s1.heap = toH s.heap := congrArg St.heap h
 have hE : ∀ t, toV s1.heap.len (s1.env t) = toV s.heap.len (s.env t) := fun t => congrFun (congrArg St.env h) t
 exact ⟨fun t => by rw [hH, hE]; exact hf.env t, by rw [hH]; exact hf.obj, by rw [hH, hn]; exact hf.next⟩
end
end
end Go.Abs
namespace Go.Abs
open Go
noncomputable section
variable {P : Program} {d : Option Tmp} {ty : TypeId} {L : List GOp} {ρ : Type}
section
variable [SU] [Codes] {Q : Exit -> ESt -> Prop}
def partsE : EV -> Option (List EV)
 | .st k v => bif Codes.fro k then some (cellsE 0 [] (.st k) v 0 0 (SU.sz k)) else none
 | .agg l => some l
 | _ => none
def shO {α ρ : Type} (x : α) (K : α -> Option ρ) : Option ρ := K x
@[simp] theorem shO_eq {α ρ : Type} (x : α) (K : α -> Option ρ) : shO x K = K x := rfl
def putO (s : ESt) (d : Option Tmp) (id : Nat) (back : LV -> Option LV) (v : LV) (r : Nat) (y : v.τ.D) (K : ESt -> Option ρ) : Option ρ := match back ⟨v.e, v.τ, v.l.set r y⟩ with
 | some root' => bif froT root'.τ then K ((s.on (s.heap.set id (.lst root'))).put d .un) else shO root'.l fun l => K ((s.on (s.heap.set id (.lst ⟨root'.e, root'.τ, l⟩))).put d .un)
 | none => none
def attO (s : ESt) (d : Option Tmp) (id : Nat) (p : List Nat) (back : LV -> Option LV) (v : LV) (r c : Nat) (u : EV) (K : ESt -> Option ρ) (no : Option ρ) : Option ρ := match u with
 | .sfull k [] => (match ownTC v.τ c with
  | some (_, e) => (match s.heap.obj k with
   | .lst w => bif Nat.beq id k then none else (match ownSC v.τ (v.l.getD r v.τ.z) c (upTo w e).e (upTo w e).τ (upTo w e).l with
    | some y => (match back ⟨v.e, v.τ, v.l.set r y⟩ with
     | some root' => shO root'.l fun l => K (((s.on (s.heap.set k (.lst (upTo w e)))).att id k (p ++ [c, r]) ⟨root'.e, root'.τ, l⟩).put d .un)
     | none => none)
    | none => none)
   | _ => no)
  | none => no)
 | _ => no
def store1 (s : ESt) (d : Option Tmp) (agg : Bool) (sz : Nat) (a u : EV) (K : ESt -> Option ρ) (no : Option ρ) : Option ρ := match a with
 | .ptr id p r c => match s.heap.obj id with
  | .cells e l => match p with
   | [] => grd (Nat.blt r 1) (bif agg then (match partsE u with
     | some m => bif Nat.beq m.length sz && Nat.ble (c + sz) l.length then K ((s.on (s.heap.set id (.cells e (setsL l c m)))).put d .un) else none
     | none => none)
     else bif Nat.beq sz 1 && Nat.blt c l.length && u.one then K ((s.on (s.heap.set id (.cells e (setL l c u)))).put d .un) else none)
   | _ => none
  | .lst root => root.walkK p fun v back => grd (Nat.blt r v.l.length) (bif agg then (bif Nat.beq (aggLen u) sz && Nat.ble (c + sz) v.τ.sz then (match rowSet v.τ (v.l.getD r v.τ.z) c u with
      | some y => putO s d id back v r y K
      | none => no) else none)
     else bif Nat.beq sz 1 && Nat.blt c v.τ.sz && u.one then (match setC v.τ (v.l.getD r v.τ.z) c u with
      | some y => putO s d id back v r y K
      | none => attO s d id p back v r c u K no) else none)
  | _ => none
 | _ => none
theorem agg_eval {s : ESt} {y : Operand} (h0 : 0 < aggLen (s.eval y)) : ∃ g, (toSt s).eval y = .agg (aggLen (s.eval y)) g /\ ∀ j, j < aggLen (s.eval y) -> Wk (g j) (cellsV s.heap.len (s.eval y) j) := by
 cases he : s.eval y with
 | st i v =>
  have := eval_eq he rfl
  rw [this]
  exact ⟨_, by simp only [toV]; rfl, fun j hj => Wk.refl _⟩
 | agg l =>
  obtain ⟨g', hg, hw⟩ := tmp_eq he
  exact ⟨g', hg, hw⟩
 | _ => rw [he] at h0; exact absurd h0 (Nat.lt_irrefl _)
theorem evCell_born (H : Heap) (len : Len) (v : Value) : Born H (toV len (evCell v)) := by rw [evCell_eq]; exact V.cell_born _ _
theorem eval_born {s : ESt} (hf : Fair s) (x : Operand) : Born (toH s.heap) (toV s.heap.len (s.eval x)) := by
 cases x with
 | tmp t => exact hf.env t
 | const v =>
  show Born _ (toV _ (evOf v))
  rcases evOf_cases v with ⟨cs, rfl⟩ | e
  ·simp only [evOf]
   cases ha : cs.all (·.oneCell') with
   | false => simp only [cond_false, toV]; trivial
   | true =>
    simp only [cond_true, toV, List.length_map, Array.length_toList]
    intro j hj
    rw [toVs_eq]
    simp only [List.getD_eq_getElem?_getD, List.getElem?_map, Array.getElem?_toList]
    rw [Array.getElem?_eq_getElem hj]
    exact evCell_born _ _ _
  ·rw [e]; exact evCell_born _ _ _
 | global g => simp only [ESt.eval, toV]; trivial
 | func f => simp only [ESt.eval, toV]; intro j hj; exact absurd hj (Nat.not_lt_zero _)
theorem parts_ok {s : ESt} {y : Operand} {m : List EV} (hf : Fair s) (h : partsE (s.eval y) = some m) : m.length = aggLen (s.eval y) /\ (∀ j, j < m.length -> Wk (cellsV s.heap.len (s.eval y) j) (toVs s.heap.len m j)) /\ ∀ j, j < m.length -> Born (toH s.heap) (toVs s.heap.len m j) := by
 cases he : s.eval y with
 | st k v =>
  rw [he] at h
  simp only [partsE] at h
  obtain ⟨hfr, h⟩ := bif_none h
  injection h with h
  subst h
  rw [cellsE_len]
  have e : ∀ j, j < SU.sz k -> toVs s.heap.len (cellsE 0 [] (.st k) v 0 0 (SU.sz k)) j = .t (SU.enc k v j) := fun j hj => by
   rw [cellsE_at _ _ _ _ _ _ _ _ _ hj, Nat.zero_add, cellE_F (τ := .st k) hfr hj]; rfl
  exact ⟨rfl, fun j hj => by rw [e j hj]; exact Wk.refl _, fun j hj => by rw [e j hj]; trivial⟩
 | agg l =>
  rw [he] at h
  simp only [partsE] at h
  injection h with h
  subst h
  have := eval_born hf y
  rw [he] at this
  simp only [toV] at this
  exact ⟨rfl, fun j hj => Wk.refl _, this⟩
 | _ => rw [he] at h; cases h
theorem setL_born {s : ESt} {l : List EV} {c : Nat} {u : EV} (hl : ∀ j, j < l.length -> Born (toH s.heap) (toVs s.heap.len l j)) (hu : Born (toH s.heap) (toV s.heap.len u)) :
  ∀ j, j < (setL l c u).length -> Born (toH s.heap) (toVs s.heap.len (setL l c u) j) := fun j hj => by
 rw [setL_len] at hj
 rw [setL_at _ _ _ _ _ hj]
 split
 ·exact hu
 ·exact hl j hj
theorem setsL_born {s : ESt} {l m : List EV} {c : Nat} (hl : ∀ j, j < l.length -> Born (toH s.heap) (toVs s.heap.len l j)) (hm : ∀ j, j < m.length -> Born (toH s.heap) (toVs s.heap.len m j)) :
  ∀ j, j < (setsL l c m).length -> Born (toH s.heap) (toVs s.heap.len (setsL l c m) j) := fun j hj => by
 rw [setsL_len] at hj
 rw [setsL_at _ _ _ _ _ hj]
 split
 ·exact hm _ (by omega)
 ·exact hl j hj
theorem FCells.born {s : ESt} {id : Nat} {e : TypeId} {m : List EV} (hf : Fair s) (h : FCells s id e m) : ∀ j, j < m.length -> Born (toH s.heap) (toVs s.heap.len m j) := fun j hj => by
 obtain ⟨o, q1, q2, q3, q4, q5, q6, q7⟩ := h.slot
 rw [<- q6 j hj]
 exact hf.obj _ _ q1 0 (by omega) j (by omega)
theorem store_cells1 [T : Tys P] {s : ESt} {t : TypeId} {x y : Operand} {id c : Nat} {e : TypeId} {m : List EV} {K : ESt -> Option ρ} {res : ρ} (hK : ∀ s', K s' = some res -> SLT P L Q s') (hf : Fair s) (hx : s.eval x = .ptr id [] 0 c) (hc : FCells s id e m)
  (h0 : Nat.blt 0 (Tys.c P t).sz = true) (ha : (Tys.c P t).agg = false) (hsz : Nat.beq (Tys.c P t).sz 1 = true) (hcl : Nat.blt c m.length = true) (hu : (s.eval y).one = true)
  (h : K ((s.on (s.heap.set id (.cells e (setL m c (s.eval y))))).put d .un) = some res) : SL P (⟨d, .store t x y, ty, none⟩ :: L) (liftQ Q) (toSt s) := by
 have := TySz.of' h0 ha
 rw [natBeq hsz] at this
 have hcl := Nat.le_of_ble_eq_true hcl
 obtain ⟨o, q1, q2, q3, q4, q5, q6, q7⟩ := hc.slot
 have hx := eval_eq hx rfl
 simp only [toV] at hx
 obtain ⟨u, u1, u2, u3⟩ := one_eq hu
 refine SL.store1 hx q1 q2.symm (by omega) (by rw [q4]; exact hcl) u1 u2 (SL.weak (weak_cells (o1 := o.put1 0 c u) hf hc (setL_len _ _ _) (setL_born (hc.born hf) (eval_born hf y)) q2 q3 q4 q5 (fun j hj => ?_) d) (hK _ h).out)
 simp only [AObj.put1, bif_and]
 rw [setL_at _ _ _ _ _ hj]
 by_cases hjc : j = c
 ·rw [if_pos ⟨trivial, hjc⟩, if_pos hjc]; exact u3
 ·rw [if_neg (fun e => hjc e.2), if_neg hjc, q6 j hj]; exact Wk.refl _
theorem store_cellsA [T : Tys P] {s : ESt} {t : TypeId} {x y : Operand} {id c : Nat} {e : TypeId} {m l : List EV} {K : ESt -> Option ρ} {res : ρ} (hK : ∀ s', K s' = some res -> SLT P L Q s') (hf : Fair s) (hx : s.eval x = .ptr id [] 0 c) (hc : FCells s id e m)
  (h0 : Nat.blt 0 (Tys.c P t).sz = true) (ha : (Tys.c P t).agg = true) (hp : partsE (s.eval y) = some l) (hsz : Nat.beq l.length (Tys.c P t).sz = true) (hcl : Nat.ble (c + (Tys.c P t).sz) m.length = true)
  (h : K ((s.on (s.heap.set id (.cells e (setsL m c l)))).put d .un) = some res) : SL P (⟨d, .store t x y, ty, none⟩ :: L) (liftQ Q) (toSt s) := by
 have := TySz.of' h0 ha
 have hsz := natBeq hsz
 have hcl := Nat.le_of_ble_eq_true hcl
 have h0' : 0 < (Tys.c P t).sz := Nat.le_of_ble_eq_true h0
 obtain ⟨o, q1, q2, q3, q4, q5, q6, q7⟩ := hc.slot
 have hx := eval_eq hx rfl
 simp only [toV] at hx
 obtain ⟨p1, p2, p3⟩ := parts_ok hf hp
 obtain ⟨g, hg, hw⟩ := agg_eval (s := s) (y := y) (by omega)
 rw [<- p1, hsz] at hg
 refine SL.storeA hx q1 q2.symm (by omega) (by rw [q4]; exact hcl) hg (SL.weak (weak_cells (o1 := o.put 0 c (Tys.c P t).sz g) hf hc (setsL_len _ _ _) (setsL_born (hc.born hf) p3) q2 q3 q4 q5 (fun j hj => ?_) d) (hK _ h).out)
 simp only [AObj.put, bif_in]
 rw [setsL_at _ _ _ _ _ hj, hsz]
 by_cases hjc : c <= j /\ j < c + (Tys.c P t).sz
 ·rw [if_pos ⟨trivial, hjc⟩, if_pos hjc]
  exact (hw _ (by omega)).trans (p2 _ (by omega))
 ·rw [if_neg (fun e => hjc e.2), if_neg hjc, q6 j hj]; exact Wk.refl _
theorem store1_ok [T : Tys P] {s : ESt} {t : TypeId} {x y : Operand} {K : ESt -> Option ρ} {no : Option ρ} {res : ρ} (hK : ∀ s', K s' = some res -> SLT P L Q s') (h0 : Nat.blt 0 (Tys.c P t).sz = true)
  (hno : Fair s -> no = some res -> SL P (⟨d, .store t x y, ty, none⟩ :: L) (liftQ Q) (toSt s))
  (h : store1 s d (Tys.c P t).agg (Tys.c P t).sz (s.eval x) (s.eval y) K no = some res) : SLT P (⟨d, .store t x y, ty, none⟩ :: L) Q s := by
 refine ⟨SL.fair fun hf => ?_⟩
 unfold store1 at h
 split at h
 ·rename_i id p r c hx
  split at h
  ·rename_i e l ho
   split at h
   ·have hh := grd_out h
    clear h
    obtain ⟨hr, h⟩ := hh
    have hr := Nat.le_of_ble_eq_true hr
    obtain rfl : r = 0 := by omega
    cases ha : (Tys.c P t).agg with
    | true =>
     rw [ha] at h
     simp only [cond_true] at h
     split at h
     ·rename_i m hm
      obtain ⟨hb, h⟩ := bif_none h
      simp only [Bool.and_eq_true] at hb
      exact store_cellsA hK hf hx (.cells ho) h0 ha hm hb.1 hb.2 h
     ·cases h
    | false =>
     rw [ha] at h
     simp only [cond_false] at h
     obtain ⟨hb, h⟩ := bif_none h
     simp only [Bool.and_eq_true] at hb
     exact store_cells1 hK hf hx (.cells ho) h0 ha hb.1.1 hb.1.2 hb.2 h
   ·cases h
  ·rename_i root ho
   obtain ⟨v, back, hv, hback, g⟩ := LV.walkK_out _ _ _ _ h
   clear h
   obtain ⟨hr, h⟩ := grd_out g
   clear g
   have hr : r < v.l.length := Nat.le_of_ble_eq_true hr
   have hat : s.heap.at id p = some v := by simp only [EHeap.at, ho]; exact hv
   have hs := slot_lst hat
   have hx := eval_eq hx rfl
   simp only [toV] at hx
   cases ha : (Tys.c P t).agg with
   | true =>
    rw [ha] at h
    simp only [cond_true] at h
    obtain ⟨hb, h⟩ := bif_none h
    simp only [Bool.and_eq_true] at hb
    split at h
    ·rename_i y' hy
     unfold putO at h
     split at h
     ·rename_i root' hp
      have h : K ((s.on (s.heap.set id (.lst root'))).put d .un) = some res := by cases hfr : froT root'.τ <;> (rw [hfr] at h; exact h)
      have hp := hback _ _ hp
      have h1 := natBeq hb.1
      have h2 := Nat.le_of_ble_eq_true hb.2
      have h0' : 0 < (Tys.c P t).sz := Nat.le_of_ble_eq_true h0
      have := TySz.of' h0 ha
      obtain ⟨g, hg, hw⟩ := agg_eval (s := s) (y := y) (by omega)
      have k := rowSet_ok hy
      rw [h1] at hg k
      refine SL.storeA hx hs rfl hr h2 hg (SL.weak (weak_store (o1 := (v.obj s.heap.len id p).put r c (Tys.c P t).sz g) (g := fun len => cellsV len (s.eval y)) hf ho hv hr k hp rfl rfl rfl rfl (fun i hi j hj => ?_) d) (hK _ h).out)
      simp only [AObj.put, bif_in]
      by_cases hjc : i = r /\ c <= j /\ j < c + (Tys.c P t).sz
      ·exact .inr ⟨hjc.1, hjc.2, by rw [if_pos hjc]; exact hw _ (by omega)⟩
      ·exact .inl ⟨hjc, by rw [if_neg hjc]⟩
     ·cases h
    ·exact hno hf h
   | false =>
    rw [ha] at h
    simp only [cond_false] at h
    obtain ⟨hb, h⟩ := bif_none h
    simp only [Bool.and_eq_true] at hb
    have h1 := natBeq hb.1.1
    have h2 : c < v.τ.sz := Nat.le_of_ble_eq_true hb.1.2
    have := TySz.of' h0 ha
    rw [h1] at this
    split at h
    ·rename_i y' hy
     unfold putO at h
     split at h
     ·rename_i root' hp
      have h : K ((s.on (s.heap.set id (.lst root'))).put d .un) = some res := by cases hfr : froT root'.τ <;> (rw [hfr] at h; exact h)
      have hp := hback _ _ hp
      obtain ⟨u, u1, u2, u3⟩ := one_eq hb.2
      refine SL.store1 hx hs rfl hr h2 u1 u2 (SL.weak (weak_store (o1 := (v.obj s.heap.len id p).put1 r c u) (g := fun len _ => toV len (s.eval y)) hf ho hv hr (RowOk.set hy) hp rfl rfl rfl rfl (fun i hi j hj => ?_) d) (hK _ h).out)
      simp only [AObj.put1, bif_and]
      by_cases hjc : i = r /\ j = c
      ·exact .inr ⟨hjc.1, by omega, by rw [if_pos hjc]; exact u3⟩
      ·exact .inl ⟨fun e => hjc ⟨e.1, by omega⟩, by rw [if_neg hjc]⟩
     ·cases h
    ·unfold attO at h
     split at h
     ·rename_i k hu
      split at h
      ·rename_i te e hte
       split at h
       ·rename_i w hw
        cases hik : Nat.beq id k with
        | true => rw [hik] at h; cases h
        | false =>
         rw [hik] at h
         simp only [cond_false] at h
         have hne : id ≠ k := fun e => by subst e; simp at hik
         split at h
         ·rename_i y' hy
          split at h
          ·rename_i root' hp
           have hp := hback _ _ hp
           have heq := toSt_upTo e hw
           let s1 : ESt := s.on (s.heap.set k (.lst (upTo w e)))
           have hf1 : Fair s1 := Fair.of_eq heq rfl hf
           have ho1 : s1.heap.obj id = .lst root := by show (bif Nat.beq id k then _ else _) = _; rw [hik]; exact ho
           have hw1 : s1.heap.obj k = .lst (upTo w e) := by show (bif Nat.beq k k then _ else _) = _; rw [Nat.beq_refl]; rfl
           have hu1 : s1.eval y = .sfull k [] := hu
           have hone : (s1.eval y).one = true := by rw [hu1]; rfl
           obtain ⟨u, u1, u2, u3⟩ := one_eq hone
           have hatk : s1.heap.at k [] = some (upTo w e) := by simp only [EHeap.at, hw1, LV.at_nil]
           rw [hu1] at u3
           simp only [toV, EHeap.len_at hatk] at u3
           obtain ⟨y1, y2⟩ := ownSC_ok _ _ _ _ _ _ _ hy
           have hat1 : s1.heap.at id p = some v := by simp only [EHeap.at, ho1]; exact hv
           have hs1 := slot_lst hat1
           have hx1 : (toSt s1).eval x = .ptr ⟨id, p⟩ 0 r c := by rw [heq]; exact hx
           rw [<- heq]
           refine SL.store1 hx1 hs1 rfl hr h2 u1 u2 (SL.weak (weak_att (H1 := (toSt s1).heap.set ⟨id, p⟩ ((v.obj s1.heap.len id p).put1 r c u)) (o1 := (v.obj s1.heap.len id p).put1 r c u) hf1 hne ho1 hw1 hv hr h2 y1 y2 hp (fun i => ?_) rfl rfl rfl rfl rfl (fun i hi j hj => ?_) d) (hK _ h).out)
           ·show (bif Id.beq i ⟨id, p⟩ then _ else _) = _
            exact beq_if _ _ _ _
           ·simp only [AObj.put1, bif_and]
            by_cases hjc : i = r /\ j = c
            ·exact .inr ⟨hjc.1, hjc.2, by rw [if_pos hjc]; exact u3⟩
            ·exact .inl ⟨hjc, by rw [if_neg hjc]⟩
          ·cases h
         ·cases h
       ·exact hno hf h
      ·exact hno hf h
     ·exact hno hf h
  ·cases h
 ·cases h
def storeBox (s : ESt) (d : Option Tmp) (agg : Bool) (sz : Nat) (a u : EV) (K : ESt -> Option ρ) (no : Option ρ) : Option ρ := match a with
 | .ptr id [] r c => match s.heap.obj id with
  | .lst ⟨e, τ, [x]⟩ => bif froT τ then grd (Nat.blt r 1) (bif agg then (match partsE u with
     | some m => bif Nat.beq m.length sz && Nat.ble (c + sz) τ.sz then K ((s.on (s.heap.set id (.cells e (setsL (cellsE id [] τ x 0 0 τ.sz) c m)))).put d .un) else none
     | none => none)
     else bif Nat.beq sz 1 && Nat.blt c τ.sz && u.one then K ((s.on (s.heap.set id (.cells e (setL (cellsE id [] τ x 0 0 τ.sz) c u)))).put d .un) else none) else no
  | _ => no
 | _ => no
theorem storeBox_ok [T : Tys P] {s : ESt} {t : TypeId} {x y : Operand} {K : ESt -> Option ρ} {no : Option ρ} {res : ρ} (hK : ∀ s', K s' = some res -> SLT P L Q s') (h0 : Nat.blt 0 (Tys.c P t).sz = true)
  (hno : no = some res -> SL P (⟨d, .store t x y, ty, none⟩ :: L) (liftQ Q) (toSt s)) (hf : Fair s)
  (h : storeBox s d (Tys.c P t).agg (Tys.c P t).sz (s.eval x) (s.eval y) K no = some res) : SL P (⟨d, .store t x y, ty, none⟩ :: L) (liftQ Q) (toSt s) := by
 unfold storeBox at h
 split at h
 ·rename_i id r c hx
  split at h
  ·rename_i e τ z ho
   cases hfr : froT τ with
   | false => rw [hfr] at h; exact hno h
   | true =>
    rw [hfr] at h
    simp only [cond_true] at h
    have hh := grd_out h
    clear h
    obtain ⟨hr, h⟩ := hh
    have hr := Nat.le_of_ble_eq_true hr
    obtain rfl : r = 0 := by omega
    have hc : FCells s id e (cellsE id [] τ z 0 0 τ.sz) := .box ho hfr rfl
    cases ha : (Tys.c P t).agg with
    | true =>
     rw [ha] at h
     simp only [cond_true] at h
     split at h
     ·rename_i m hm
      obtain ⟨hb, h⟩ := bif_none h
      simp only [Bool.and_eq_true] at hb
      exact store_cellsA hK hf hx hc h0 ha hm hb.1 (by rw [cellsE_len]; exact hb.2) h
     ·cases h
    | false =>
     rw [ha] at h
     simp only [cond_false] at h
     obtain ⟨hb, h⟩ := bif_none h
     simp only [Bool.and_eq_true] at hb
     exact store_cells1 hK hf hx hc h0 ha hb.1.1 (by rw [cellsE_len]; exact hb.1.2) hb.2 h
  ·exact hno h
 ·exact hno h
def storeO (P : Program) [Tys P] (s : ESt) (d : Option Tmp) (t : TypeId) (x y : Operand) (K : ESt -> Option ρ) : Option ρ :=
 bif Nat.blt 0 (Tys.c P t).sz then store1 s d (Tys.c P t).agg (Tys.c P t).sz (s.eval x) (s.eval y) K
  (storeBox s d (Tys.c P t).agg (Tys.c P t).sz (s.eval x) (s.eval y) K
   (frzAll s (fun s' => store1 s' d (Tys.c P t).agg (Tys.c P t).sz (s'.eval x) (s'.eval y) K none) (rootsOf (s.eval y)))) else none
theorem storeO_ok [T : Tys P] {s : ESt} {t : TypeId} {x y : Operand} {K : ESt -> Option ρ} {res : ρ} (hK : ∀ s', K s' = some res -> SLT P L Q s') (h : storeO P s d t x y K = some res) : SLT P (⟨d, .store t x y, ty, none⟩ :: L) Q s := by
 unfold storeO at h
 obtain ⟨h0, h⟩ := bif_none h
 refine store1_ok hK h0 (fun hf h => ?_) h
 refine storeBox_ok hK h0 (fun h => ?_) hf h
 obtain ⟨s', w, h⟩ := frzAll_out _ _ h
 exact SL.weak w (store1_ok (no := none) hK h0 (fun _ h => by cases h) h).out
end
end
end Go.Abs
namespace Go.Abs
open Go
variable {P : Program} {d : Option Tmp} {ty : TypeId} {L : List GOp}
def rootsH (H : Heap) : Heap := { H with slot := fun i => if i.p = [] then H.slot i else .unborn }
def callEnv (w : World) (H : Heap) (ι : Id -> Option Nat) (F : Nat -> Prop) : Env := ⟨w, Blocks H ι, rootsH H, ι, F⟩
theorem rootsH_at {H : Heap} {i : Id} (h : i.p = []) : (rootsH H).slot i = H.slot i := if_pos h
theorem rootsH_ne {H : Heap} {i : Id} (h : i.p ≠ []) : (rootsH H).slot i = .unborn := if_neg h
structure Part (Hc Hl : Heap) (m : Id -> Option Id) : Prop where
 next : Nx Hl
 lo : Hl.lo = Hl.next
 obj : ∀ i o', Hl.slot i = .live o' -> (m i = none /\ o'.n = 0) \/ ∃ x o, m i = some x /\ Hc.slot x = .live o /\ o'.ver = o.ver /\ o'.elem = o.elem /\ o'.sz = o.sz /\ o'.n = o.n /\ ∀ r, r < o'.n -> ∀ c, c < o'.sz -> KG Hc Hl m (fun _ => False) (o.get r c) (o'.get r c)
 mp : ∀ i s g', Hl.slot i = .mp s g' -> ∃ x g, m i = some x /\ Hc.slot x = .mp s g /\ ∀ k, (g k = none /\ g' k = none) \/ ∃ u u', g k = some u /\ g' k = some u' /\ KG Hc Hl m (fun _ => False) u u'
 inj : ∀ i j x, (Hl.slot i).is -> (Hl.slot j).is -> m i = some x -> m j = some x -> i = j
theorem FZ_none {H : Heap} {ι : Id -> Option Nat} {F : Nat -> Prop} : FZ H ι (fun _ => False) F = F := by
 funext b
 apply propext
 constructor
 ·rintro (h | ⟨i, hi, _⟩)
  ·exact h
  ·exact hi.elim
 ·exact .inl
theorem Part.rel {E : Env} {ι : Id -> Option Nat} {F : Nat -> Prop} {Hc Hl : Heap} {m : Id -> Option Id} {w : World} (r : RelH E ι F Hc w) (k : Part Hc Hl m) : RelH (callEnv w Hl (mι m ι) F) (mι m ι) F Hl w := by
 have is : ∀ id b, (Hl.slot id).is -> mι m ι id = some b -> ∃ x, m id = some x /\ ι x = some b /\ (Hc.slot x).is := fun id b h hb => by
  obtain ⟨x, hx, hxb⟩ := mι_out hb
  cases hs : Hl.slot id with
  | live o' =>
   rcases k.obj id o' hs with ⟨e, _⟩ | ⟨y, o, hy, ho, _⟩
   ·rw [e] at hx; cases hx
   ·rw [hy] at hx; injection hx with hx; subst hx; exact ⟨y, hy, hxb, by rw [ho]; trivial⟩
  | mp s g => obtain ⟨y, g', hy, ho, _⟩ := k.mp id s g hs; rw [hy] at hx; injection hx with hx; subst hx; exact ⟨y, hy, hxb, by rw [ho]; trivial⟩
  | unborn => rw [hs] at h; exact h.elim
  | dead => rw [hs] at h; exact h.elim
 refine ⟨rfl, rfl, rfl, Nat.le_refl _, fun _ _ _ => rfl, fun id o' h => ?_, fun id s g h => ?_, fun i j b h h' hi hj => ?_,
  fun i b h hi => ?_, fun i b h hi => .inl ⟨i, h, hi⟩, fun i b h hi => ?_, r.frlt, fun b hb => .inl hb, k.next, ?_, fun i hi => ?_⟩
 ·rcases k.obj id o' h with ⟨e1, e2⟩ | ⟨x, o, hm, ho, hv, he, hs, hn, hg⟩
  ·refine ⟨by rw [e2]; exact Nat.zero_le _, ?_⟩
   rw [mι_none e1]; exact e2
  obtain ⟨h1, h2⟩ := r.obj _ o ho
  refine ⟨by rw [hn]; exact h1, ?_⟩
  rw [mι_some hm]
  cases hk : ι x with
  | none => rw [hk] at h2; have h2 : o.n = 0 := h2; show o'.n = 0; omega
  | some b =>
   rw [hk] at h2
   obtain ⟨cur, g1, g2, g3⟩ := h2
   dsimp only
   rw [he, hs]
   refine ⟨cur, g1, by rw [hn]; exact g2, fun i hi j hj => ?_⟩
   obtain ⟨c, a, b, d⟩ := g3 i (by omega) j hj
   have := hg i hi j (by omega) _ _ _ _ _ r d
   rw [FZ_none] at this
   exact ⟨c, a, b, this⟩
 ·obtain ⟨x, g', hm, hg, hk⟩ := k.mp id s g h
  obtain ⟨b, es, clock, g1, g2, g3, g4⟩ := r.mapo _ s g' hg
  refine ⟨b, es, clock, (mι_some hm).trans g1, g2, g3, fun key hkey => ?_⟩
  have := g4 key hkey
  rcases hk key with ⟨e1, e2⟩ | ⟨u, u', e1, e2, e3⟩
  ·rw [e1] at this; rw [e2]; exact this
  ·rw [e1] at this; rw [e2]
   obtain ⟨n, e, a, b, c⟩ := this
   have := e3 _ _ _ _ _ r c
   rw [FZ_none] at this
   exact ⟨n, e, a, b, this⟩
 ·obtain ⟨x, hx1, hx2, hx3⟩ := is i b h hi
  obtain ⟨y, hy1, hy2, hy3⟩ := is j b h' hj
  obtain rfl := r.inj x y b hx3 hy3 hx2 hy2
  exact k.inj i j x h h' hx1 hy1
 ·obtain ⟨x, hx1, hx2, hx3⟩ := is i b h hi
  exact r.nofr _ b hx3 hx2
 ·obtain ⟨x, hx1, hx2, hx3⟩ := is i b h hi
  exact r.lt _ b hx3 hx2
 ·refine Ext.of (fun _ h => h) (fun _ _ => rfl) fun i => ?_
  unfold SlotOk
  show match (rootsH Hl).slot i with | _ => _
  by_cases hp : i.p = []
  ·rw [show (callEnv w Hl (mι m ι) F).H0.slot i = Hl.slot i from rootsH_at hp]
   cases hs : Hl.slot i with
   | unborn => trivial
   | dead => rfl
   | mp s g => exact .inr ⟨⟨s, g, rfl⟩, rfl⟩
   | live o => exact .inr ⟨o, rfl, Nat.le_refl _, fun _ => ⟨rfl, rfl, Nat.le_refl _, rfl, fun b cur hb hc => ⟨cur, hc, rfl⟩⟩⟩
  ·rw [show (callEnv w Hl (mι m ι) F).H0.slot i = .unborn from rootsH_ne hp]
   trivial
 ·show (rootsH Hl).slot i = .unborn
  by_cases hp : i.p = []
  ·rw [rootsH_at hp]
   rcases hi with hi | hi
   ·exact k.next i (by rw [<- k.lo]; exact hi)
   ·exact absurd hp hi
  ·exact rootsH_ne hp
structure Back (Hc Hl Hl' Hc' : Heap) (m n : Id -> Option Id) : Prop where
 lo : Hc'.lo = Hc.lo
 next : Nx Hc'
 out : ∀ i, n i = none -> (Hc'.slot i).is -> (∀ x, (Hl.slot x).is -> m x ≠ some i) /\ SlotLike (Hc.slot i) (Hc'.slot i)
 ninj : ∀ i j x, n i = some x -> n j = some x -> i = j
 low : ∀ i : Id, i.k < Hc.lo -> i.p = [] -> Hc.slot i = .unborn \/ Hc'.slot i = .dead \/ (n i = none /\ SlotLike (Hc.slot i) (Hc'.slot i)) \/
  ∃ x, n i = some x /\ m x = some i /\ x.p = [] /\ SlotLike (Hc.slot i) (Hl.slot x) /\ SlotLike (Hl'.slot x) (Hc'.slot i)
def ι4 (n : Id -> Option Id) (ιc ι3 : Id -> Option Nat) : Id -> Option Nat := fun i => match n i with
 | some x => ι3 x
 | none => ιc i
theorem ι4_some {n : Id -> Option Id} {ιc ι3 : Id -> Option Nat} {i x : Id} (h : n i = some x) : ι4 n ιc ι3 i = ι3 x := by unfold ι4; rw [h]
theorem ι4_none {n : Id -> Option Id} {ιc ι3 : Id -> Option Nat} {i : Id} (h : n i = none) : ι4 n ιc ι3 i = ιc i := by unfold ι4; rw [h]
theorem keep_out {E : Env} {ιc : Id -> Option Nat} {Fc : Nat -> Prop} {Hc Hl Hl' Hc' : Heap} {m n : Id -> Option Id} {w w' : World} {ι3 : Id -> Option Nat} {F3 : Nat -> Prop} (r : RelH E ιc Fc Hc w) (k : Part Hc Hl m)
  (r3 : RelH (callEnv w Hl (mι m ιc) Fc) ι3 F3 Hl' w') {i : Id} (hn : n i = none) (hl : SlotLike (Hc.slot i) (Hc'.slot i)) (hm : (Hc'.slot i).is -> ∀ x, (Hl.slot x).is -> m x ≠ some i) :
  (∀ ver rr c v, VRel Hc ιc Fc w (.ptr i ver rr c) v -> VRel Hc' (ι4 n ιc ι3) F3 w' (.ptr i ver rr c) v) /\ (∀ ver rr c v, VRel Hc ιc Fc w (.sref i ver rr c) v -> VRel Hc' (ι4 n ιc ι3) F3 w' (.sref i ver rr c) v) /\ ∀ v, VRel Hc ιc Fc w (.mref i) v -> VRel Hc' (ι4 n ιc ι3) F3 w' (.mref i) v := by
 have blk : ∀ b, (Hc'.slot i).is -> (Hc.slot i).is -> ιc i = some b -> w'.heap[b]? = w.heap[b]? := fun b hi' hi hb => by
  refine r3.kept b (r.lt i b hi hb) ?_
  rintro ⟨x, hx1, hx2⟩
  obtain ⟨y, hy1, hy2⟩ := mι_out hx2
  have hy3 : (Hc.slot y).is := by
   cases hs : Hl.slot x with
   | live o' =>
    rcases k.obj x o' hs with ⟨e, _⟩ | ⟨z, o, hz, ho, _⟩
    ·rw [e] at hy1; cases hy1
    ·rw [hy1] at hz; injection hz with hz; subst hz; rw [ho]; trivial
   | mp s g => obtain ⟨z, g', hz, ho, _⟩ := k.mp x s g hs; rw [hy1] at hz; injection hz with hz; subst hz; rw [ho]; trivial
   | unborn => rw [hs] at hx1; exact hx1.elim
   | dead => rw [hs] at hx1; exact hx1.elim
  have := r.inj i y b hi hy3 hb hy2
  subst this
  exact hm hi' x hx1 hy1
 refine ⟨?_, ?_, ?_⟩
 ·rintro ver rr c v ⟨h0, h1⟩
  refine ⟨h0, ?_⟩
  cases hs' : Hc'.slot i with
  | dead => trivial
  | mp s g => trivial
  | unborn => rw [hs'] at hl; cases hs : Hc.slot i <;> rw [hs] at hl <;> exact hl.elim
  | live o' =>
   rw [hs'] at hl
   cases hs : Hc.slot i with
   | live o =>
    rw [hs] at hl h1
    obtain ⟨a, b, c, d⟩ := hl
    show ver <= o'.ver /\ _
    rw [ι4_none hn, a, c]; exact h1
   | unborn => rw [hs] at hl; exact hl.elim
   | dead => rw [hs] at hl; exact hl.elim
   | mp _ _ => rw [hs] at hl; exact hl.elim
 ·rintro ver rr c v ⟨h0, h1⟩
  refine ⟨h0, ?_⟩
  cases hs' : Hc'.slot i with
  | dead => trivial
  | mp s g => trivial
  | unborn => rw [hs'] at hl; cases hs : Hc.slot i <;> rw [hs] at hl <;> exact hl.elim
  | live o' =>
   rw [hs'] at hl
   cases hs : Hc.slot i with
   | live o =>
    rw [hs] at hl h1
    obtain ⟨a, b, c, d⟩ := hl
    show ver <= o'.ver /\ _
    rw [ι4_none hn, a, b, c, d]
    refine ⟨h1.1, fun hv => ?_⟩
    obtain ⟨q1, A, cap, q2, q3, q4⟩ := h1.2 hv
    refine ⟨q1, A, cap, q2, q3, fun hc => ?_⟩
    obtain ⟨b, cur, p1, p2, p3, p4⟩ := q4 hc
    exact ⟨b, cur, p1, p2, by rw [blk b (by rw [hs']; trivial) (by rw [hs]; trivial) p1]; exact p3, p4⟩
   | unborn => rw [hs] at hl; exact hl.elim
   | dead => rw [hs] at hl; exact hl.elim
   | mp _ _ => rw [hs] at hl; exact hl.elim
 ·rintro v ⟨h0, h1⟩
  refine ⟨h0, ?_⟩
  cases hs' : Hc'.slot i with
  | dead => trivial
  | live o' => trivial
  | unborn => rw [hs'] at hl; cases hs : Hc.slot i <;> rw [hs] at hl <;> exact hl.elim
  | mp s g =>
   rw [hs'] at hl
   cases hs : Hc.slot i with
   | mp _ _ => rw [hs] at h1; show ∃ b, ι4 n ιc ι3 i = some b /\ _; rw [ι4_none hn]; exact h1
   | unborn => rw [hs] at hl; exact hl.elim
   | dead => rw [hs] at hl; exact hl.elim
   | live _ => rw [hs] at hl; exact hl.elim
theorem keep_in {E : Env} {ιc : Id -> Option Nat} {Fc : Nat -> Prop} {Hc Hl Hl' Hc' : Heap} {m n : Id -> Option Id} {w w' : World} {ι3 : Id -> Option Nat} {F3 : Nat -> Prop} (r : RelH E ιc Fc Hc w)
  (r3 : RelH (callEnv w Hl (mι m ιc) Fc) ι3 F3 Hl' w') {i x : Id} (hn : n i = some x) (hm : m x = some i) (hp : x.p = []) (h1 : SlotLike (Hc.slot i) (Hl.slot x)) (h2 : SlotLike (Hl'.slot x) (Hc'.slot i)) :
  (∀ ver rr c v, VRel Hc ιc Fc w (.ptr i ver rr c) v -> VRel Hc' (ι4 n ιc ι3) F3 w' (.ptr i ver rr c) v) /\ (∀ ver rr c v, VRel Hc ιc Fc w (.sref i ver rr c) v -> VRel Hc' (ι4 n ιc ι3) F3 w' (.sref i ver rr c) v) /\ ∀ v, VRel Hc ιc Fc w (.mref i) v -> VRel Hc' (ι4 n ιc ι3) F3 w' (.mref i) v := by
 have hin : ∀ u u', (∀ v, VRel Hc ιc Fc w u v -> VRel (rootsH Hl) (mι m ιc) Fc w u' v) -> ∀ v, VRel Hc ιc Fc w u v -> VRel Hl' ι3 F3 w' u' v := fun u u' h v hv => r3.ext u' v (h v hv)
 have hroot : (rootsH Hl).slot x = Hl.slot x := rootsH_at hp
 refine ⟨fun ver rr c v hv => ?_, fun ver rr c v hv => ?_, fun v hv => ?_⟩
 ·have := hin (.ptr i ver rr c) (.ptr x ver rr c) (fun v ⟨a, b⟩ => ⟨a, by
   rw [hroot]
   cases hs : Hl.slot x with
   | dead => trivial
   | mp _ _ => trivial
   | unborn => rw [hs] at h1; cases hs' : Hc.slot i <;> rw [hs'] at h1 <;> exact h1.elim
   | live o' =>
    rw [hs] at h1
    cases hs' : Hc.slot i with
    | live o =>
     rw [hs'] at h1 b
     obtain ⟨q1, q2, q3, q4⟩ := h1
     show ver <= o'.ver /\ _
     rw [mι_some hm, q1, q3]; exact b
    | unborn => rw [hs'] at h1; exact h1.elim
    | dead => rw [hs'] at h1; exact h1.elim
    | mp _ _ => rw [hs'] at h1; exact h1.elim⟩) v hv
  obtain ⟨a, b⟩ := this
  refine ⟨a, ?_⟩
  cases hs : Hc'.slot i with
  | dead => trivial
  | mp _ _ => trivial
  | unborn => rw [hs] at h2; cases hs' : Hl'.slot x <;> rw [hs'] at h2 <;> exact h2.elim
  | live o' =>
   rw [hs] at h2
   cases hs' : Hl'.slot x with
   | live o =>
    rw [hs'] at h2 b
    obtain ⟨q1, q2, q3, q4⟩ := h2
    show ver <= o'.ver /\ _
    rw [ι4_some hn, q1, q3]; exact b
   | unborn => rw [hs'] at h2; exact h2.elim
   | dead => rw [hs'] at h2; exact h2.elim
   | mp _ _ => rw [hs'] at h2; exact h2.elim
 ·have := hin (.sref i ver rr c) (.sref x ver rr c) (fun v ⟨a, b⟩ => ⟨a, by
   rw [hroot]
   cases hs : Hl.slot x with
   | dead => trivial
   | mp _ _ => trivial
   | unborn => rw [hs] at h1; cases hs' : Hc.slot i <;> rw [hs'] at h1 <;> exact h1.elim
   | live o' =>
    rw [hs] at h1
    cases hs' : Hc.slot i with
    | live o =>
     rw [hs'] at h1 b
     obtain ⟨q1, q2, q3, q4⟩ := h1
     show ver <= o'.ver /\ _
     rw [mι_some hm, q1, q2, q3, q4]; exact b
    | unborn => rw [hs'] at h1; exact h1.elim
    | dead => rw [hs'] at h1; exact h1.elim
    | mp _ _ => rw [hs'] at h1; exact h1.elim⟩) v hv
  obtain ⟨a, b⟩ := this
  refine ⟨a, ?_⟩
  cases hs : Hc'.slot i with
  | dead => trivial
  | mp _ _ => trivial
  | unborn => rw [hs] at h2; cases hs' : Hl'.slot x <;> rw [hs'] at h2 <;> exact h2.elim
  | live o' =>
   rw [hs] at h2
   cases hs' : Hl'.slot x with
   | live o =>
    rw [hs'] at h2 b
    obtain ⟨q1, q2, q3, q4⟩ := h2
    show ver <= o'.ver /\ _
    rw [ι4_some hn, q1, q2, q3, q4]; exact b
   | unborn => rw [hs'] at h2; exact h2.elim
   | dead => rw [hs'] at h2; exact h2.elim
   | mp _ _ => rw [hs'] at h2; exact h2.elim
 ·have := hin (.mref i) (.mref x) (fun v ⟨a, b⟩ => ⟨a, by
   rw [hroot]
   cases hs : Hl.slot x with
   | dead => trivial
   | live _ => trivial
   | unborn => rw [hs] at h1; cases hs' : Hc.slot i <;> rw [hs'] at h1 <;> exact h1.elim
   | mp _ _ =>
    rw [hs] at h1
    cases hs' : Hc.slot i with
    | mp _ _ => rw [hs'] at b; show ∃ b, mι m ιc x = some b /\ _; rw [mι_some hm]; exact b
    | unborn => rw [hs'] at h1; exact h1.elim
    | dead => rw [hs'] at h1; exact h1.elim
    | live _ => rw [hs'] at h1; exact h1.elim⟩) v hv
  obtain ⟨a, b⟩ := this
  refine ⟨a, ?_⟩
  cases hs : Hc'.slot i with
  | dead => trivial
  | live _ => trivial
  | unborn => rw [hs] at h2; cases hs' : Hl'.slot x <;> rw [hs'] at h2 <;> exact h2.elim
  | mp _ _ =>
   rw [hs] at h2
   cases hs' : Hl'.slot x with
   | mp _ _ => rw [hs'] at b; show ∃ b, ι4 n ιc ι3 i = some b /\ _; rw [ι4_some hn]; exact b
   | unborn => rw [hs'] at h2; exact h2.elim
   | dead => rw [hs'] at h2; exact h2.elim
   | live _ => rw [hs'] at h2; exact h2.elim
theorem keep_t {ιc : Id -> Option Nat} {Fc : Nat -> Prop} {Hc Hl Hl' Hc' : Heap} {m n : Id -> Option Id} {w w' : World} {ι3 : Id -> Option Nat} {F3 : Nat -> Prop} (r3 : RelH (callEnv w Hl (mι m ιc) Fc) ι3 F3 Hl' w') {u : V}
  (h : ∀ H ι H' ι' F w v, VRel H ι F w u v -> VRel H' ι' F w u v) : ∀ v, VRel Hc ιc Fc w u v -> VRel Hc' (ι4 n ιc ι3) F3 w' u v := fun v hv => h _ _ _ _ _ _ _ (r3.ext u v (h _ _ (rootsH Hl) (mι m ιc) _ _ _ hv))
theorem Back.rel {E : Env} {ιc : Id -> Option Nat} {Fc : Nat -> Prop} {Hc Hl Hl' Hc' : Heap} {m n : Id -> Option Id} {w w' : World} {ι3 : Id -> Option Nat} {F3 : Nat -> Prop} (r : RelH E ιc Fc Hc w) (k : Part Hc Hl m)
  (r3 : RelH (callEnv w Hl (mι m ιc) Fc) ι3 F3 Hl' w') (b : Back Hc Hl Hl' Hc' m n)
  (hout : ∀ i o', n i = none -> Hc'.slot i = .live o' -> ∃ o, Hc.slot i = .live o /\ ∀ r, r < o'.n -> ∀ c, c < o'.sz -> ∀ v, VRel Hc ιc Fc w (o.get r c) v -> VRel Hc' (ι4 n ιc ι3) F3 w' (o'.get r c) v)
  (hin : ∀ i x o', n i = some x -> Hc'.slot i = .live o' -> ∃ o, Hl'.slot x = .live o /\ o'.elem = o.elem /\ o'.sz = o.sz /\ o'.n = o.n /\ ∀ r, r < o'.n -> ∀ c, c < o'.sz -> ∀ v, VRel Hl' ι3 F3 w' (o.get r c) v -> VRel Hc' (ι4 n ιc ι3) F3 w' (o'.get r c) v)
  (moutp : ∀ i s g', n i = none -> Hc'.slot i = .mp s g' -> ∃ g, Hc.slot i = .mp s g /\ ∀ k, (g k = none /\ g' k = none) \/ ∃ u u', g k = some u /\ g' k = some u' /\ ∀ v, VRel Hc ιc Fc w u v -> VRel Hc' (ι4 n ιc ι3) F3 w' u' v)
  (minp : ∀ i x s g', n i = some x -> Hc'.slot i = .mp s g' -> ∃ g, Hl'.slot x = .mp s g /\ ∀ k, (g k = none /\ g' k = none) \/ ∃ u u', g k = some u /\ g' k = some u' /\ ∀ v, VRel Hl' ι3 F3 w' u v -> VRel Hc' (ι4 n ιc ι3) F3 w' u' v) :
  RelH E (ι4 n ιc ι3) F3 Hc' w' := by
 have W0 : ∀ b, Blocks Hl (mι m ιc) b -> ∃ x y, (Hl.slot x).is /\ m x = some y /\ (Hc.slot y).is /\ ιc y = some b := by
  rintro b ⟨x, hx1, hx2⟩
  obtain ⟨y, hy1, hy2⟩ := mι_out hx2
  refine ⟨x, y, hx1, hy1, ?_, hy2⟩
  cases hs : Hl.slot x with
  | live o' =>
   rcases k.obj x o' hs with ⟨e, _⟩ | ⟨z, o, hz, ho, _⟩
   ·rw [e] at hy1; cases hy1
   ·rw [hy1] at hz; injection hz with hz; subst hz; rw [ho]; trivial
  | mp s g => obtain ⟨z, g', hz, ho, _⟩ := k.mp x s g hs; rw [hy1] at hz; injection hz with hz; subst hz; rw [ho]; trivial
  | unborn => rw [hs] at hx1; exact hx1.elim
  | dead => rw [hs] at hx1; exact hx1.elim
 -- an object's block: of the callee, or an old one that the callee did not get
 have kind : ∀ i bl, (Hc'.slot i).is -> ι4 n ιc ι3 i = some bl -> (∃ x, n i = some x /\ (Hl'.slot x).is /\ ι3 x = some bl) \/ (n i = none /\ (Hc.slot i).is /\ ιc i = some bl /\ ¬ Blocks Hl (mι m ιc) bl) := fun i bl h hb => by
  cases hn : n i with
  | some x =>
   rw [ι4_some hn] at hb
   refine .inl ⟨x, rfl, ?_, hb⟩
   cases hs : Hc'.slot i with
   | live o' => obtain ⟨o, ho, _⟩ := hin i x o' hn hs; rw [ho]; trivial
   | mp s g => obtain ⟨g', ho, _⟩ := minp i x s g hn hs; rw [ho]; trivial
   | unborn => rw [hs] at h; exact h.elim
   | dead => rw [hs] at h; exact h.elim
  | none =>
   rw [ι4_none hn] at hb
   have hi : (Hc.slot i).is := by
    cases hs : Hc'.slot i with
    | live o' => obtain ⟨o, ho, _⟩ := hout i o' hn hs; rw [ho]; trivial
    | mp s g => obtain ⟨g', ho, _⟩ := moutp i s g hn hs; rw [ho]; trivial
    | unborn => rw [hs] at h; exact h.elim
    | dead => rw [hs] at h; exact h.elim
   refine .inr ⟨rfl, hi, hb, fun hW => ?_⟩
   obtain ⟨x, y, q1, q2, q3, q4⟩ := W0 bl hW
   have := r.inj i y bl hi q3 hb q4
   subst this
   exact (b.out i hn h).1 x q1 q2
 refine ⟨r3.os.trans r.os, r3.tape.trans r.tape, r3.output.trans r.output, Nat.le_trans r.size r3.size, fun bl hb hW => ?_, fun i o' h => ?_, fun i s g h => ?_, fun i j bl h h' hi hj => ?_,
  fun i bl h hi hF => ?_, fun i bl h hi => ?_, fun i bl h hi => ?_, r3.frlt, fun bl hF => ?_, b.next, ?_, by rw [b.lo]; exact r.lo⟩
 ·rw [r3.kept bl (Nat.lt_of_lt_of_le hb r.size) (fun hx => by
   obtain ⟨x, y, q1, q2, q3, q4⟩ := W0 bl hx
   rcases r.own y bl q3 q4 with h | h
   ·exact hW h
   ·omega)]
  exact r.kept bl hb hW
 ·cases hn : n i with
  | some x =>
   obtain ⟨o, ho, he, hs, hnn, hg⟩ := hin i x o' hn h
   obtain ⟨h1, h2⟩ := r3.obj x o ho
   refine ⟨by rw [hnn]; exact h1, ?_⟩
   rw [ι4_some hn]
   cases hk : ι3 x with
   | none => rw [hk] at h2; have h2 : o.n = 0 := h2; show o'.n = 0; omega
   | some bl =>
    rw [hk] at h2
    obtain ⟨cur, g1, g2, g3⟩ := h2
    dsimp only
    rw [he, hs]
    refine ⟨cur, g1, by rw [hnn]; exact g2, fun i hi j hj => ?_⟩
    obtain ⟨c, a, b, d⟩ := g3 i (by omega) j hj
    exact ⟨c, a, b, hg i hi j (by omega) _ d⟩
  | none =>
   obtain ⟨o, ho, hg⟩ := hout i o' hn h
   have hl := (b.out i hn (by rw [h]; trivial)).2
   rw [ho, h] at hl
   obtain ⟨q1, q2, q3, q4⟩ := hl
   obtain ⟨h1, h2⟩ := r.obj i o ho
   refine ⟨by rw [q4]; exact h1, ?_⟩
   rw [ι4_none hn]
   cases hk : ιc i with
   | none => rw [hk] at h2; have h2 : o.n = 0 := h2; show o'.n = 0; omega
   | some bl =>
    rw [hk] at h2
    obtain ⟨cur, g1, g2, g3⟩ := h2
    dsimp only
    rw [q2, q3]
    have hb : w'.heap[bl]? = w.heap[bl]? := by
     rcases kind i bl (by rw [h]; trivial) (by rw [ι4_none hn]; exact hk) with ⟨x, e, _⟩ | ⟨_, a, b, c⟩
     ·rw [hn] at e; cases e
     ·exact r3.kept bl (r.lt i bl a b) c
    refine ⟨cur, by rw [hb]; exact g1, by rw [q4]; exact g2, fun x hx j hj => ?_⟩
    obtain ⟨c, a, b, d⟩ := g3 x (by omega) j hj
    exact ⟨c, a, b, hg x hx j (by omega) _ d⟩
 ·cases hn : n i with
  | some x =>
   obtain ⟨g', hg, hk⟩ := minp i x s g hn h
   obtain ⟨bl, es, clock, g1, g2, g3, g4⟩ := r3.mapo _ s g' hg
   refine ⟨bl, es, clock, (ι4_some hn).trans g1, g2, g3, fun key hkey => ?_⟩
   have := g4 key hkey
   rcases hk key with ⟨e1, e2⟩ | ⟨u, u', e1, e2, e3⟩
   ·rw [e1] at this; rw [e2]; exact this
   ·rw [e1] at this; rw [e2]
    obtain ⟨n, e, a, b, c⟩ := this
    exact ⟨n, e, a, b, e3 _ c⟩
  | none =>
   obtain ⟨g', hg, hk⟩ := moutp i s g hn h
   obtain ⟨bl, es, clock, g1, g2, g3, g4⟩ := r.mapo _ s g' hg
   have hb : w'.heap[bl]? = w.heap[bl]? := by
    rcases kind i bl (by rw [h]; trivial) (by rw [ι4_none hn]; exact g1) with ⟨x, e, _⟩ | ⟨_, a, b, c⟩
    ·rw [hn] at e; cases e
    ·exact r3.kept bl (r.lt i bl a b) c
   refine ⟨bl, es, clock, (ι4_none hn).trans g1, by rw [hb]; exact g2, g3, fun key hkey => ?_⟩
   have := g4 key hkey
   rcases hk key with ⟨e1, e2⟩ | ⟨u, u', e1, e2, e3⟩
   ·rw [e1] at this; rw [e2]; exact this
   ·rw [e1] at this; rw [e2]
    obtain ⟨n, e, a, b, c⟩ := this
    exact ⟨n, e, a, b, e3 _ c⟩
 ·rcases kind i bl h hi with ⟨x, e1, e2, e3⟩ | ⟨e1, e2, e3, e4⟩
  ·rcases kind j bl h' hj with ⟨y, f1, f2, f3⟩ | ⟨f1, f2, f3, f4⟩
   ·have := r3.inj x y bl e2 f2 e3 f3
    subst this
    exact b.ninj i j x e1 f1
   ·rcases r3.own x bl e2 e3 with hw | hw
    ·exact absurd hw f4
    ·have := r.lt j bl f2 f3
     have hw : w.heap.size <= bl := hw
     omega
  ·rcases kind j bl h' hj with ⟨y, f1, f2, f3⟩ | ⟨f1, f2, f3, f4⟩
   ·rcases r3.own y bl f2 f3 with hw | hw
    ·exact absurd hw e4
    ·have := r.lt i bl e2 e3
     have hw : w.heap.size <= bl := hw
     omega
   ·exact r.inj i j bl e2 f2 e3 f3
 ·rcases kind i bl h hi with ⟨x, e1, e2, e3⟩ | ⟨e1, e2, e3, e4⟩
  ·exact r3.nofr x bl e2 e3 hF
  ·rcases r3.frin bl hF with hx | hx | hx
   ·exact r.nofr i bl e2 e3 hx
   ·exact e4 hx
   ·have := r.lt i bl e2 e3
    have hx : w.heap.size <= bl := hx
    omega
 ·rcases kind i bl h hi with ⟨x, e1, e2, e3⟩ | ⟨e1, e2, e3, e4⟩
  ·rcases r3.own x bl e2 e3 with hw | hw
   ·obtain ⟨x, y, q1, q2, q3, q4⟩ := W0 bl hw
    exact r.own y bl q3 q4
   ·exact .inr (Nat.le_trans r.size hw)
  ·exact r.own i bl e2 e3
 ·rcases kind i bl h hi with ⟨x, e1, e2, e3⟩ | ⟨e1, e2, e3, e4⟩
  ·exact r3.lt x bl e2 e3
  ·exact Nat.lt_of_lt_of_le (r.lt i bl e2 e3) r3.size
 ·rcases r3.frin bl hF with hx | hx | hx
  ·exact r.frin bl hx
  ·obtain ⟨x, y, q1, q2, q3, q4⟩ := W0 bl hx
   rcases r.own y bl q3 q4 with h | h
   ·exact .inr (.inl h)
   ·exact .inr (.inr h)
  ·exact .inr (.inr (Nat.le_trans r.size hx))
 ·-- what was related outside
  have low : ∀ id, E.H0.slot id ≠ .unborn -> id.k < Hc.lo /\ id.p = [] := fun id h =>
   ⟨Nat.lt_of_not_le fun hle => h (r.lo id (.inl hle)), Classical.byContradiction fun hp => h (r.lo id (.inr hp))⟩
  have leaf : ∀ id, E.H0.slot id ≠ .unborn -> Hc.slot id ≠ .unborn -> (∀ ver rr c v, VRel Hc ιc Fc w (.ptr id ver rr c) v -> VRel Hc' (ι4 n ιc ι3) F3 w' (.ptr id ver rr c) v) /\ (∀ ver rr c v, VRel Hc ιc Fc w (.sref id ver rr c) v -> VRel Hc' (ι4 n ιc ι3) F3 w' (.sref id ver rr c) v) /\ ∀ v, VRel Hc ιc Fc w (.mref id) v -> VRel Hc' (ι4 n ιc ι3) F3 w' (.mref id) v := fun id h hb => by
   obtain ⟨l1, l2⟩ := low id h
   rcases b.low id l1 l2 with e | e | ⟨e1, e2⟩ | ⟨x, e1, e2, e3, e4, e5⟩
   ·exact absurd e hb
   ·exact ⟨fun _ _ _ v h => ⟨h.1, by rw [e]; trivial⟩, fun _ _ _ v h => ⟨h.1, by rw [e]; trivial⟩, fun v h => ⟨h.1, by rw [e]; trivial⟩⟩
   ·exact keep_out r k r3 e1 e2 (fun his => (b.out id e1 his).1)
   ·exact keep_in r r3 e1 e2 e3 e4 e5
  have key : ∀ u v, VRel E.H0 E.ι0 E.F0 E.w0 u v -> VRel Hc ιc Fc w u v -> VRel Hc' (ι4 n ιc ι3) F3 w' u v := by
   intro u
   induction u with
   | ptr id ver rr c =>
    intro v h0 h1
    exact (leaf id (fun e => by obtain ⟨_, h0⟩ := h0; rw [e] at h0; exact h0) (fun e => by obtain ⟨_, h1⟩ := h1; rw [e] at h1; exact h1)).1 _ _ _ _ h1
   | sref id ver rr c =>
    intro v h0 h1
    exact (leaf id (fun e => by obtain ⟨_, h0⟩ := h0; rw [e] at h0; exact h0) (fun e => by obtain ⟨_, h1⟩ := h1; rw [e] at h1; exact h1)).2.1 _ _ _ _ h1
   | mref id =>
    intro v h0 h1
    exact (leaf id (fun e => by obtain ⟨_, h0⟩ := h0; rw [e] at h0; exact h0) (fun e => by obtain ⟨_, h1⟩ := h1; rw [e] at h1; exact h1)).2.2 _ h1
   | fn f n cap ih =>
    rintro v ⟨cs, h1, h2, h3⟩ ⟨cs', h1', h2', h3'⟩
    rw [h1] at h1'
    injection h1' with _ _ h1'; subst h1'
    refine ⟨cs, h1, h2, fun j hj => ?_⟩
    obtain ⟨c, a, b⟩ := h3 j hj
    obtain ⟨c', a', b'⟩ := h3' j hj
    rw [a] at a'; injection a' with a'; subst a'
    exact ⟨c, a, ih j _ b b'⟩
   | agg n get ih =>
    rintro v ⟨cs, h1, h2, h3⟩ ⟨cs', h1', h2', h3'⟩
    rw [h1] at h1'
    injection h1' with h1'; subst h1'
    refine ⟨cs, h1, h2, fun j hj => ?_⟩
    obtain ⟨c, a, p, b⟩ := h3 j hj
    obtain ⟨c', a', p', b'⟩ := h3' j hj
    rw [a] at a'; injection a' with a'; subst a'
    exact ⟨c, a, p, ih j _ b b'⟩
   | tup n get ih =>
    rintro v ⟨cs, h1, h2, h3⟩ ⟨cs', h1', h2', h3'⟩
    rw [h1] at h1'
    injection h1' with h1'; subst h1'
    refine ⟨cs, h1, h2, fun j hj => ?_⟩
    obtain ⟨c, a, b⟩ := h3 j hj
    obtain ⟨c', a', b'⟩ := h3' j hj
    rw [a] at a'; injection a' with a'; subst a'
    exact ⟨c, a, ih j _ b b'⟩
   | un => exact fun _ _ _ => trivial
   | und => exact fun _ _ h => h
   | t x => exact fun v _ h => keep_t (u := .t x) r3 (fun H ι H' ι' F w v (h : Reads F w x v) => (show Reads F w x v from h)) v h
   | nils => exact fun _ _ h => h
   | nilp => exact fun _ _ h => h
   | nilm => exact fun _ _ h => h
   | nilf => exact fun _ _ h => h
   | fp k g => exact fun v _ h => keep_t (u := .fp k g) r3 (fun H ι H' ι' F w v (h : ∃ b o, v = .pointer (some ⟨b, o, none⟩) /\ F b /\ ∀ j, j < k -> ∃ c, w.cell? ⟨b, o + j, none⟩ = some c /\ Reads F w (g j) c) => h) v h
  exact fun u v h => key u v h (r.ext u v h)
end Go.Abs
namespace Go.Abs
open Go
inductive Sh where
 | un
 | b
 | i (k : IntKind)
 | s
 | fz (τ : Ty)
 | st (n : Nat)
 | fp (τ : Ty) (c : Nat)
 | nils
 | nilp
 | nilm
 | nilf
 | nili
 | ptr (id c : Nat)
 | rptr (id c : Nat)
 | part (id : Nat)
 | full (id : Nat)
 | mref (id : Nat)
 | agg (l : List Sh)
 | tup (l : List Sh)
 | fn (f : FuncId) (l : List Sh)
inductive OSh where
 | dead
 | lst (e : TypeId) (τ : Ty)
 | box (e : TypeId) (τ : Ty)
 | cells (e : TypeId) (l : List Sh)
 | mp (s : Bool) (τ : Ty)
section
variable [SU] [Codes]
mutual
@[reducible] def Sh.D : Sh -> Type
 | .un => Unit
 | .b => Bool
 | .i _ => Int
 | .s => ByteArray
 | .fz τ => List τ.D
 | .st n => SU.D n
 | .fp τ _ => τ.D
 | .nils => Unit
 | .nilp => Unit
 | .nilm => Unit
 | .nilf => Unit
 | .nili => Unit
 | .ptr _ _ => Unit
 | .rptr _ _ => Nat
 | .part _ => Nat × Nat
 | .full _ => Unit
 | .mref _ => Unit
 | .agg l => DS l
 | .tup l => DS l
 | .fn _ l => DS l
@[reducible] def DS : List Sh -> Type
 | [] => Unit
 | a :: l => a.D × DS l
end
@[reducible] def OSh.D : OSh -> Type
 | .dead => Unit
 | .lst _ τ => List τ.D
 | .box _ τ => τ.D
 | .cells _ l => DS l
 | .mp _ τ => MKey -> Option τ.D
@[reducible] def DO : List OSh -> Type
 | [] => Unit
 | a :: l => a.D × DO l
@[reducible] def DT : List (Nat × Sh) -> Type
 | [] => Unit
 | (_, a) :: l => a.D × DT l
mutual
def mkE : (a : Sh) -> a.D -> EV
 | .un, _ => .un
 | .b, x => .b x
 | .i k, x => .i k x
 | .s, x => .s x
 | .fz τ, x => .fz τ x
 | .st n, x => .st n x
 | .fp τ c, x => .fp τ x c
 | .nils, _ => .nils
 | .nilp, _ => .nilp
 | .nilm, _ => .nilm
 | .nilf, _ => .nilf
 | .nili, _ => .nili
 | .ptr id c, _ => .ptr id [] 0 c
 | .rptr id c, r => .ptr id [] r c
 | .part id, r => .sref id [] r.1 r.2
 | .full id, _ => .sfull id []
 | .mref id, _ => .mref id
 | .agg l, x => .agg (mkEs l x)
 | .tup l, x => .tup (mkEs l x)
 | .fn f l, x => .fn f (mkEs l x)
def mkEs : (l : List Sh) -> DS l -> List EV
 | [], _ => []
 | a :: l, x => mkE a x.1 :: mkEs l x.2
end
def mkO : (o : OSh) -> o.D -> OD
 | .dead, _ => .dead
 | .lst e τ, l => .lst ⟨e, τ, l⟩
 | .box e τ, x => .lst ⟨e, τ, [x]⟩
 | .cells e l, x => .cells e (mkEs l x)
 | .mp s τ, g => .mp s τ g
def mkEnv : (l : List (Nat × Sh)) -> DT l -> Nat -> EV
 | [], _, _ => .un
 | (t, a) :: l, x, y => bif Nat.beq y t then mkE a x.1 else mkEnv l x.2 y
def mkObj : (l : List OSh) -> DO l -> Nat -> OD
 | [], _, _ => .none
 | o :: _, x, 0 => mkO o x.1
 | _ :: l, x, j + 1 => mkObj l x.2 j
def mkH (lo : Nat) (os : List OSh) (y : DO os) : EHeap := ⟨os.length, lo, mkObj os y, []⟩
def nthK : List (Option Nat) -> Nat -> Option Nat
 | [], _ => none
 | a :: _, 0 => a
 | _ :: l, j + 1 => nthK l j
def isK (ks : List (Option Nat)) (j k : Nat) : Bool := match nthK ks j with
 | some x => Nat.beq x k
 | none => false
def noK : List (Option Nat) -> Nat -> Bool
 | [], _ => false
 | none :: _, 0 => true
 | some _ :: _, 0 => false
 | _ :: l, j + 1 => noK l j
theorem isK_out {ks : List (Option Nat)} {j k : Nat} (h : isK ks j k = true) : nthK ks j = some k := by
 unfold isK at h
 split at h
 ·rename_i x hx
  rw [hx, Nat.eq_of_beq_eq_true h]
 ·cases h
theorem noK_out : ∀ {ks : List (Option Nat)} {j : Nat}, noK ks j = true -> nthK ks j = none /\ j < ks.length
 | [], _, h => by cases h
 | none :: _, 0, h => ⟨rfl, by simp⟩
 | some _ :: _, 0, h => by cases h
 | none :: l, j + 1, h => by obtain ⟨h1, h2⟩ := noK_out (ks := l) (j := j) h; exact ⟨h1, by simpa using h2⟩
 | some _ :: l, j + 1, h => by obtain ⟨h1, h2⟩ := noK_out (ks := l) (j := j) h; exact ⟨h1, by simpa using h2⟩
theorem nthK_lt : ∀ {ks : List (Option Nat)} {j k : Nat}, nthK ks j = some k -> j < ks.length
 | [], _, _, h => by cases h
 | _ :: _, 0, _, _ => by simp
 | _ :: l, j + 1, k, h => by have := nthK_lt (ks := l) (j := j) h; simpa using this
mutual
def exE (ks : List (Option Nat)) : (a : Sh) -> EV -> Option a.D
 | .un, _ => some ()
 | .b, .b x => some x
 | .i k, .i k' n => bif kindEq k k' then some n else none
 | .s, .s x => some x
 | .fz τ, .fz τ' l => castF List τ' τ l
 | .fz _, .nils => some []
 | .st n, .st k x => castN SU.D k n x
 | .st n, .agg l => bif Codes.fro n then Codes.make n l else none
 | .fp τ c, .fp τ' x c' => bif Nat.beq c c' then castF (fun X => X) τ' τ x else none
 | .nils, .nils => some ()
 | .nilp, .nilp => some ()
 | .nilm, .nilm => some ()
 | .nilf, .nilf => some ()
 | .nili, .nili => some ()
 | .ptr id c, .ptr k p r c' => match p with
  | [] => bif Nat.beq r 0 && Nat.beq c c' && isK ks id k then some () else none
  | _ => none
 | .rptr id c, .ptr k p r c' => match p with
  | [] => bif Nat.beq c c' && isK ks id k then some r else none
  | _ => none
 | .part id, .sref k p r n => match p with
  | [] => bif isK ks id k then some (r, n) else none
  | _ => none
 | .full id, .sfull k p => match p with
  | [] => bif isK ks id k then some () else none
  | _ => none
 | .full id, .nils => bif noK ks id then some () else none
 | .mref id, .mref k => bif isK ks id k then some () else none
 | .agg l, .agg m => exEs ks l m
 | .agg l, .st k x => bif Codes.fro k then exEs ks l (cellsE 0 [] (.st k) x 0 0 (SU.sz k)) else none
 | .tup l, .tup m => exEs ks l m
 | .fn f l, .fn g m => bif Nat.beq f g then exEs ks l m else none
 | _, _ => none
def exEs (ks : List (Option Nat)) : (l : List Sh) -> List EV -> Option (DS l)
 | [], [] => some ()
 | a :: l, u :: m => match exE ks a u with
  | some x => match exEs ks l m with
   | some y => some (x, y)
   | none => none
  | none => none
 | _, _ => none
end
def exO (ks : List (Option Nat)) (k : Nat) : (o : OSh) -> OD -> Option o.D
 | .dead, _ => some ()
 | .lst e τ, .lst v => bif Nat.beq v.e e then castF List v.τ τ v.l else none
 | .box e τ, .lst ⟨e', τ', [x]⟩ => bif Nat.beq e' e then castF (fun X => X) τ' τ x else none
 | .cells e l, .cells e' m => bif Nat.beq e' e then exEs ks l m else none
 | .cells e l, .lst ⟨e', τ', [x]⟩ => bif Nat.beq e' e && froT τ' then exEs ks l (cellsE k [] τ' x 0 0 τ'.sz) else none
 | .mp s τ, .mp s' τ' g => bif s == s' then castF (fun X => MKey -> Option X) τ' τ g else none
 | _, _ => none
def exV : (o : OSh) -> Option o.D
 | .dead => some ()
 | .lst _ τ => bif froT τ then some [] else none
 | _ => none
def exOs (ks : List (Option Nat)) (H : EHeap) : (l : List OSh) -> List (Option Nat) -> Option (DO l)
 | [], [] => some ()
 | o :: l, some k :: m => match exO ks k o (H.obj k) with
  | some x => match exOs ks H l m with
   | some y => some (x, y)
   | none => none
  | none => none
 | o :: l, none :: m => match exV o with
  | some x => match exOs ks H l m with
   | some y => some (x, y)
   | none => none
  | none => none
 | _, _ => none
def exT (ks : List (Option Nat)) (env : Nat -> EV) : (l : List (Nat × Sh)) -> Option (DT l)
 | [] => some ()
 | (t, a) :: l => match exE ks a (env t) with
  | some x => match exT ks env l with
   | some y => some (x, y)
   | none => none
  | none => none
mutual
def bindE : Sh -> EV -> List (Nat × Option Nat) -> List (Nat × Option Nat)
 | .ptr id _, .ptr k _ _ _, b => (id, some k) :: b
 | .rptr id _, .ptr k _ _ _, b => (id, some k) :: b
 | .part id, .sref k _ _ _, b => (id, some k) :: b
 | .full id, .sfull k _, b => (id, some k) :: b
 | .full id, .nils, b => (id, none) :: b
 | .mref id, .mref k, b => (id, some k) :: b
 | .agg l, .agg m, b => bindEs l m b
 | .tup l, .tup m, b => bindEs l m b
 | .fn _ l, .fn _ m, b => bindEs l m b
 | _, _, b => b
def bindEs : List Sh -> List EV -> List (Nat × Option Nat) -> List (Nat × Option Nat)
 | a :: l, u :: m, b => bindEs l m (bindE a u b)
 | _, _, b => b
end
def bindT (env : Nat -> EV) : List (Nat × Sh) -> List (Nat × Option Nat) -> List (Nat × Option Nat)
 | [], b => b
 | (t, a) :: l, b => bindT env l (bindE a (env t) b)
def lookK : List (Nat × Option Nat) -> Nat -> Option (Option Nat)
 | [], _ => none
 | (i, k) :: l, j => bif Nat.beq i j then some k else lookK l j
def bindO (H : EHeap) : List OSh -> Nat -> List (Nat × Option Nat) -> List (Nat × Option Nat)
 | [], _, b => b
 | .cells _ l :: os, j, b => match lookK b j with
  | some (some k) => match H.obj k with
   | .cells _ m => bindO H os (j + 1) (bindEs l m b)
   | _ => bindO H os (j + 1) b
  | _ => bindO H os (j + 1) b
 | _ :: os, j, b => bindO H os (j + 1) b
def ksOf (b : List (Nat × Option Nat)) : List OSh -> Nat -> List (Option Nat)
 | [], _ => []
 | _ :: os, j => (match lookK b j with
  | some k => k
  | none => none) :: ksOf b os (j + 1)
def memK (k : Nat) : List (Option Nat) -> Bool
 | [] => false
 | some x :: l => Nat.beq x k || memK k l
 | none :: l => memK k l
def nodK : List (Option Nat) -> Bool
 | [] => true
 | some x :: l => !memK x l && nodK l
 | none :: l => nodK l
def lowK : Nat -> Nat -> List (Option Nat) -> List OSh -> Bool
 | 0, _, _, _ => true
 | n + 1, j, k :: ks, o :: os => (match o with
  | .dead => true
  | _ => match k with
   | some k => Nat.beq k j
   | none => false) && lowK n (j + 1) ks os
 | _, _, _, _ => false
def idsL : Nat -> Nat -> List OSh -> List (Nat × Option Nat)
 | 0, _, _ => []
 | _ + 1, _, [] => []
 | n + 1, j, .dead :: os => idsL n (j + 1) os
 | n + 1, j, _ :: os => (j, some j) :: idsL n (j + 1) os
end
end Go.Abs
namespace Go.Abs
open Go
section
variable {H H' : Heap} {m : Id -> Option Id} {Z : Id -> Prop}
theorem KG.ptrL {i j : Id} {r c : Nat} (hl : SlotLike (H.slot i) (H'.slot j)) (hm : m j = some i) : KG H H' m Z (.ptr i 0 r c) (.ptr j 0 r c) := by
 rintro E ι F w v rr ⟨h0, h1⟩
 refine ⟨h0, ?_⟩
 cases hs' : H'.slot j with
 | dead => trivial
 | mp s g => trivial
 | unborn => rw [hs'] at hl; cases hs : H.slot i <;> rw [hs] at hl <;> exact hl.elim
 | live o' =>
  rw [hs'] at hl
  cases hs : H.slot i with
  | live o =>
   rw [hs] at hl h1
   obtain ⟨a, b, c, d⟩ := hl
   show 0 <= o'.ver /\ _
   rw [mι_some hm, a, c]; exact h1
  | unborn => rw [hs] at hl; exact hl.elim
  | dead => rw [hs] at hl; exact hl.elim
  | mp _ _ => rw [hs] at hl; exact hl.elim
theorem KG.srefL {i j : Id} {r n : Nat} (hl : SlotLike (H.slot i) (H'.slot j)) (hm : m j = some i) : KG H H' m Z (.sref i 0 r n) (.sref j 0 r n) := by
 rintro E ι F w v rr ⟨h0, h1⟩
 refine ⟨h0, ?_⟩
 cases hs' : H'.slot j with
 | dead => trivial
 | mp s g => trivial
 | unborn => rw [hs'] at hl; cases hs : H.slot i <;> rw [hs] at hl <;> exact hl.elim
 | live o' =>
  rw [hs'] at hl
  cases hs : H.slot i with
  | live o =>
   rw [hs] at hl h1
   obtain ⟨a, b, c, d⟩ := hl
   show 0 <= o'.ver /\ _
   rw [mι_some hm, a, b, c, d]; exact h1
  | unborn => rw [hs] at hl; exact hl.elim
  | dead => rw [hs] at hl; exact hl.elim
  | mp _ _ => rw [hs] at hl; exact hl.elim
theorem KG.mrefL {i j : Id} (hl : SlotLike (H.slot i) (H'.slot j)) (hm : m j = some i) : KG H H' m Z (.mref i) (.mref j) := by
 rintro E ι F w v rr ⟨h0, h1⟩
 refine ⟨h0, ?_⟩
 cases hs' : H'.slot j with
 | dead => trivial
 | live o' => trivial
 | unborn => rw [hs'] at hl; cases hs : H.slot i <;> rw [hs] at hl <;> exact hl.elim
 | mp s g =>
  rw [hs'] at hl
  cases hs : H.slot i with
  | mp _ _ => rw [hs] at h1; rw [mι_some hm]; exact h1
  | unborn => rw [hs] at hl; exact hl.elim
  | dead => rw [hs] at hl; exact hl.elim
  | live _ => rw [hs] at hl; exact hl.elim
theorem KG.deadS {i j : Id} {r n r' n' : Nat} (hd : H'.slot j = .dead) : KG H H' m Z (.sref i 0 r n) (.sref j 0 r' n') := fun E ι F w v rr h => ⟨h.1, by rw [hd]; trivial⟩
theorem KG.deadP {i j : Id} {r n r' n' : Nat} (hd : H'.slot j = .dead) : KG H H' m Z (.ptr i 0 r n) (.ptr j 0 r' n') := fun E ι F w v rr h => ⟨h.1, by rw [hd]; trivial⟩
theorem KG.deadM {i j : Id} (hd : H'.slot j = .dead) : KG H H' m Z (.mref i) (.mref j) := fun E ι F w v rr h => ⟨h.1, by rw [hd]; trivial⟩
end
section
variable [SU] [Codes]
structure Roots (ks : List (Option Nat)) (H H' : EHeap) (m : Id -> Option Id) : Prop where
 sm : ∀ j k, nthK ks j = some k -> (toH H').slot ⟨j, []⟩ = .dead \/ (SlotLike ((toH H).slot ⟨k, []⟩) ((toH H').slot ⟨j, []⟩) /\ H'.len j [] = H.len k [] /\ m ⟨j, []⟩ = some ⟨k, []⟩)
 nn : ∀ j, nthK ks j = none -> j < ks.length -> (toH H').slot ⟨j, []⟩ = .dead \/ ∃ o', (toH H').slot ⟨j, []⟩ = .live o' /\ o'.ver = 0 /\ H'.len j [] = some 0
variable {ks : List (Option Nat)} {H H' : EHeap} {m : Id -> Option Id} {Z : Id -> Prop}
theorem Roots.full (k : Roots ks H H' m) {j i : Nat} (h : nthK ks j = some i) : KG (toH H) (toH H') m Z (toV H.len (.sfull i [])) (toV H'.len (.sfull j [])) := by
 simp only [toV]
 rcases k.sm j i h with hd | ⟨h1, h2, h3⟩
 ·cases H.len i [] <;> cases H'.len j [] <;> exact KG.deadS hd
 ·rw [h2]
  cases H.len i [] <;> exact KG.srefL h1 h3
theorem Roots.nil (k : Roots ks H H' m) {j : Nat} (h : nthK ks j = none) (hl : j < ks.length) : KG (toH H) (toH H') m Z .nils (toV H'.len (.sfull j [])) := by
 simp only [toV]
 rcases k.nn j h hl with hd | ⟨o', h1, h2, h3⟩
 ·have : ∀ n, KG (toH H) (toH H') m Z .nils (.sref ⟨j, []⟩ 0 0 n) := fun n E ι F w v rr h => by
   have h : v = .slice none 0 0 := h
   subst h
   exact ⟨rfl, by rw [hd]; trivial⟩
  cases H'.len j [] <;> exact this _
 ·rw [h3]; exact KG.virt h1 h2.symm
mutual
theorem exE_ok (k : Roots ks H H' m) : ∀ (a : Sh) (u : EV) (x : a.D), exE ks a u = some x -> KG (toH H) (toH H') m Z (toV H.len u) (toV H'.len (mkE a x))
 | .un, u, x, h => by simp only [mkE, toV]; exact KG.un
 | .b, u, x, h => by
  cases u <;> simp only [exE] at h <;> try (cases h; done)
  injection h with h; subst h; simp only [mkE, toV]; exact KG.t _
 | .i k, u, x, h => by
  cases u <;> simp only [exE] at h <;> try (cases h; done)
  have hh := bif_none h
  clear h
  obtain ⟨h1, h⟩ := hh
  have := kindEq_eq h1
  subst this
  injection h with h; subst h; simp only [mkE, toV]; exact KG.t _
 | .s, u, x, h => by
  cases u <;> simp only [exE] at h <;> try (cases h; done)
  injection h with h; subst h; simp only [mkE, toV]; exact KG.t _
 | .fz τ, u, x, h => by
  cases u <;> simp only [exE] at h <;> try (cases h; done)
  ·obtain ⟨e, h⟩ := castL_ok h
   subst e
   obtain rfl := eq_of_heq h
   simp only [mkE, toV]; exact KG.t _
  ·injection h with h; subst h
   simp only [mkE, toV, encL]
   exact KG.of_wk KG.nils (Wk.nils _ _)
 | .st n, u, x, h => by
  cases u <;> simp only [exE] at h <;> try (cases h; done)
  ·obtain ⟨e, h⟩ := castN_ok _ _ _ _ _ h
   subst e
   obtain rfl := eq_of_heq h
   simp only [mkE, toV]; exact KG.agg fun j _ => KG.t _
  ·rename_i l
   have hh := bif_none h
   clear h
   obtain ⟨hf, h⟩ := hh
   obtain ⟨m1, m2⟩ := Codes.make_ok _ _ _ h
   simp only [mkE, toV, m1]
   refine KG.agg fun j hj => ?_
   obtain ⟨u', e1, e2⟩ := m2 j hj
   obtain ⟨u'', e1', e3⟩ := Codes.cell_ok n x j hf
   rw [e1] at e1'
   injection e1' with e1'
   subst e1'
   refine KG.of_wk' (e2 H.len) ?_
   rw [e3 hj]; exact KG.t _
 | .fp τ c, u, x, h => by
  cases u <;> simp only [exE] at h <;> try (cases h; done)
  have hh := bif_none h
  clear h
  obtain ⟨hb, h⟩ := hh
  obtain rfl := natBeq hb
  obtain ⟨e, h⟩ := castI_ok h
  subst e
  obtain rfl := eq_of_heq h
  simp only [mkE, toV]; exact KG.fp
 | .nils, u, x, h => by cases u <;> simp only [exE] at h <;> first | (cases h; done) | (simp only [mkE, toV]; exact KG.nils)
 | .nilp, u, x, h => by cases u <;> simp only [exE] at h <;> first | (cases h; done) | (simp only [mkE, toV]; exact KG.nilp)
 | .nilm, u, x, h => by cases u <;> simp only [exE] at h <;> first | (cases h; done) | (simp only [mkE, toV]; exact KG.nilm)
 | .nilf, u, x, h => by cases u <;> simp only [exE] at h <;> first | (cases h; done) | (simp only [mkE, toV]; exact KG.nilf)
 | .nili, u, x, h => by cases u <;> simp only [exE] at h <;> first | (cases h; done) | (simp only [mkE, toV]; exact KG.t _)
 | .ptr id c, u, x, h => by
  cases u <;> simp only [exE] at h <;> try (cases h; done)
  rename_i i p r c'
  cases p with
  | cons _ _ => cases h
  | nil =>
   have hh := bif_none h
   clear h
   obtain ⟨hb, h⟩ := hh
   simp only [Bool.and_eq_true] at hb
   obtain ⟨⟨b1, b2⟩, b3⟩ := hb
   obtain rfl := natBeq b1
   obtain rfl := natBeq b2
   simp only [mkE, toV]
   rcases k.sm id i (isK_out b3) with hd | ⟨h1, h2, h3⟩
   ·exact KG.deadP hd
   ·exact KG.ptrL h1 h3
 | .rptr id c, u, x, h => by
  cases u <;> simp only [exE] at h <;> try (cases h; done)
  rename_i i p r c'
  cases p with
  | cons _ _ => cases h
  | nil =>
   have hh := bif_none h
   clear h
   obtain ⟨hb, h⟩ := hh
   simp only [Bool.and_eq_true] at hb
   obtain ⟨b2, b3⟩ := hb
   obtain rfl := natBeq b2
   injection h with h
   subst h
   simp only [mkE, toV]
   rcases k.sm id i (isK_out b3) with hd | ⟨h1, h2, h3⟩
   ·exact KG.deadP hd
   ·exact KG.ptrL h1 h3
 | .part id, u, x, h => by
  cases u <;> simp only [exE] at h <;> try (cases h; done)
  rename_i i p r n
  cases p with
  | cons _ _ => cases h
  | nil =>
   have hh := bif_none h
   clear h
   obtain ⟨hb, h⟩ := hh
   injection h with h
   subst h
   simp only [mkE, toV]
   rcases k.sm id i (isK_out hb) with hd | ⟨h1, h2, h3⟩
   ·exact KG.deadS hd
   ·exact KG.srefL h1 h3
 | .full id, u, x, h => by
  cases u <;> simp only [exE] at h <;> try (cases h; done)
  ·rename_i i p
   cases p with
   | cons _ _ => cases h
   | nil =>
    have hh := bif_none h
    clear h
    obtain ⟨hb, h⟩ := hh
    simp only [mkE]
    exact k.full (isK_out hb)
  ·have hh := bif_none h
   clear h
   obtain ⟨hb, h⟩ := hh
   obtain ⟨h1, h2⟩ := noK_out hb
   simp only [mkE]
   rw [show toV H.len .nils = .nils by simp only [toV]]
   exact k.nil h1 h2
 | .mref id, u, x, h => by
  cases u <;> simp only [exE] at h <;> try (cases h; done)
  rename_i i
  have hh := bif_none h
  clear h
  obtain ⟨hb, h⟩ := hh
  simp only [mkE, toV]
  rcases k.sm id i (isK_out hb) with hd | ⟨h1, h2, h3⟩
  ·exact KG.deadM hd
  ·exact KG.mrefL h1 h3
 | .agg l, u, x, h => by
  cases u <;> simp only [exE] at h <;> try (cases h; done)
  ·rename_i k' y
   have hh := bif_none h
   clear h
   obtain ⟨hf, h⟩ := hh
   obtain ⟨e1, e2⟩ := exEs_ok k l _ x h
   rw [cellsE_len] at e1
   simp only [mkE, toV, <- e1]
   refine KG.agg fun j hj => ?_
   have := e2 j (by rw [cellsE_len]; exact hj)
   rw [cellsE_at _ _ _ _ _ _ _ _ _ hj, Nat.zero_add, cellE_F (τ := .st k') hf hj] at this
   exact this
  ·rename_i l'
   obtain ⟨e1, e2⟩ := exEs_ok k l l' x h
   simp only [mkE, toV, <- e1]
   exact KG.agg fun j hj => e2 j hj
 | .tup l, u, x, h => by
  cases u <;> simp only [exE] at h <;> try (cases h; done)
  rename_i l'
  obtain ⟨e1, e2⟩ := exEs_ok k l l' x h
  simp only [mkE, toV, <- e1]
  exact KG.tup fun j hj => e2 j hj
 | .fn f l, u, x, h => by
  cases u <;> simp only [exE] at h <;> try (cases h; done)
  rename_i f' l'
  have hh := bif_none h
  clear h
  obtain ⟨hb, h⟩ := hh
  obtain rfl := natBeq hb
  obtain ⟨e1, e2⟩ := exEs_ok k l l' x h
  simp only [mkE, toV, <- e1]
  exact KG.fn fun j hj => e2 j hj
theorem exEs_ok (k : Roots ks H H' m) : ∀ (l : List Sh) (us : List EV) (x : DS l), exEs ks l us = some x -> us.length = (mkEs l x).length /\ ∀ j, j < us.length -> KG (toH H) (toH H') m Z (toVs H.len us j) (toVs H'.len (mkEs l x) j)
 | [], us, x, h => by
  cases us with
  | nil => exact ⟨rfl, fun j hj => absurd hj (Nat.not_lt_zero _)⟩
  | cons _ _ => cases h
 | a :: l, us, x, h => by
  cases us with
  | nil => cases h
  | cons u us =>
   simp only [exEs] at h
   split at h
   ·rename_i x1 h1
    split at h
    ·rename_i x2 h2
     injection h with h; subst h
     have e := exE_ok k a u x1 h1
     obtain ⟨e1, e2⟩ := exEs_ok k l us x2 h2
     refine ⟨by simp only [mkEs, List.length_cons, e1], fun j hj => ?_⟩
     cases j with
     | zero => simp only [mkEs, toVs]; exact e
     | succ j => simp only [mkEs, toVs]; exact e2 j (by simpa using hj)
    ·cases h
   ·cases h
end
theorem exT_ok (k : Roots ks H H' m) {env : Nat -> EV} : ∀ (l : List (Nat × Sh)) (x : DT l), exT ks env l = some x -> ∀ t, KG (toH H) (toH H') m Z (toV H.len (env t)) (toV H'.len (mkEnv l x t))
 | [], x, h, t => by simp only [mkEnv, toV]; exact KG.un
 | (r, a) :: l, x, h, t => by
  simp only [exT] at h
  split at h
  ·rename_i x1 h1
   split at h
   ·rename_i x2 h2
    injection h with h; subst h
    simp only [mkEnv]
    cases hb : Nat.beq t r with
    | true => obtain rfl := natBeq hb; exact exE_ok k a _ x1 h1
    | false => exact exT_ok k l x2 h2 t
   ·cases h
  ·cases h
def nthO : List OSh -> Nat -> Option OSh
 | [], _ => none
 | o :: _, 0 => some o
 | _ :: l, j + 1 => nthO l j
theorem exOs_at {H : EHeap} : ∀ (l : List OSh) (ms : List (Option Nat)) (y : DO l), exOs ks H l ms = some y -> l.length = ms.length /\ ∀ j, j < l.length -> ∃ o, nthO l j = some o /\
  ((∃ k x, nthK ms j = some k /\ exO ks k o (H.obj k) = some x /\ mkObj l y j = mkO o x) \/ (∃ x, nthK ms j = none /\ exV o = some x /\ mkObj l y j = mkO o x))
 | [], ms, y, h => by
  cases ms with
  | nil => exact ⟨rfl, fun j hj => absurd hj (Nat.not_lt_zero _)⟩
  | cons a ms => cases a <;> cases h
 | o :: l, ms, y, h => by
  cases ms with
  | nil => cases h
  | cons a ms =>
   cases a with
   | some k =>
    simp only [exOs] at h
    split at h
    ·rename_i x1 h1
     split at h
     ·rename_i x2 h2
      injection h with h; subst h
      obtain ⟨e1, e2⟩ := exOs_at l ms x2 h2
      refine ⟨by simp [e1], fun j hj => ?_⟩
      cases j with
      | zero => exact ⟨o, rfl, .inl ⟨k, x1, rfl, h1, rfl⟩⟩
      | succ j => exact e2 j (by simpa using hj)
     ·cases h
    ·cases h
   | none =>
    simp only [exOs] at h
    split at h
    ·rename_i x1 h1
     split at h
     ·rename_i x2 h2
      injection h with h; subst h
      obtain ⟨e1, e2⟩ := exOs_at l ms x2 h2
      refine ⟨by simp [e1], fun j hj => ?_⟩
      cases j with
      | zero => exact ⟨o, rfl, .inr ⟨x1, rfl, h1, rfl⟩⟩
      | succ j => exact e2 j (by simpa using hj)
     ·cases h
    ·cases h
theorem mkObj_out : ∀ (l : List OSh) (y : DO l) (j : Nat), l.length <= j -> mkObj l y j = .none
 | [], _, _, _ => rfl
 | _ :: l, y, 0, h => by simp at h
 | _ :: l, y, j + 1, h => mkObj_out l y.2 j (by simpa using h)
def mK (ks : List (Option Nat)) : Id -> Option Id := fun i => match nthK ks i.k with
 | some k => some ⟨k, i.p⟩
 | none => none
inductive ORead (H : EHeap) (k : Nat) (ks : List (Option Nat)) : (o : OSh) -> o.D -> Prop where
 | dead {x : Unit} : ORead H k ks .dead x
 | lst {e : TypeId} {τ : Ty} {l : List τ.D} (ho : H.obj k = .lst ⟨e, τ, l⟩) : ORead H k ks (.lst e τ) l
 | box {e : TypeId} {τ : Ty} {x : τ.D} (ho : H.obj k = .lst ⟨e, τ, [x]⟩) : ORead H k ks (.box e τ) x
 | cells {e : TypeId} {l : List Sh} {m : List EV} {x : DS l} (ho : H.obj k = .cells e m) (hx : exEs ks l m = some x) : ORead H k ks (.cells e l) x
 | boxc {e : TypeId} {l : List Sh} {τ : Ty} {z : τ.D} {x : DS l} (ho : H.obj k = .lst ⟨e, τ, [z]⟩) (hf : froT τ = true) (hx : exEs ks l (cellsE k [] τ z 0 0 τ.sz) = some x) : ORead H k ks (.cells e l) x
 | mp {s : Bool} {τ : Ty} {g : MKey -> Option τ.D} (ho : H.obj k = .mp s τ g) : ORead H k ks (.mp s τ) g
theorem exO_read {H : EHeap} {k : Nat} : ∀ (o : OSh) (x : o.D), exO ks k o (H.obj k) = some x -> ORead H k ks o x
 | .dead, x, h => .dead
 | .lst e τ, x, h => by
  cases ho : H.obj k <;> rw [ho] at h <;> simp only [exO] at h <;> try (cases h; done)
  rename_i v
  obtain ⟨ve, vτ, vl⟩ := v
  have hh := bif_none h
  clear h
  obtain ⟨hb, h⟩ := hh
  obtain rfl := natBeq hb
  obtain ⟨e1, h⟩ := castL_ok h
  simp only at e1
  subst e1
  obtain rfl := eq_of_heq h
  exact .lst ho
 | .box e τ, x, h => by
  cases ho : H.obj k <;> rw [ho] at h <;> try (cases h; done)
  rename_i v
  obtain ⟨ve, vτ, vl⟩ := v
  match vl, h, ho with
  | [], h, ho => cases h
  | [z], h, ho =>
   simp only [exO] at h
   have hh := bif_none h
   clear h
   obtain ⟨hb, h⟩ := hh
   obtain rfl := natBeq hb
   obtain ⟨e1, h⟩ := castI_ok h
   subst e1
   obtain rfl := eq_of_heq h
   exact .box ho
  | _ :: _ :: _, h, ho => cases h
 | .cells e l, x, h => by
  cases ho : H.obj k <;> rw [ho] at h <;> try (cases h; done)
  ·rename_i v
   obtain ⟨ve, vτ, vl⟩ := v
   match vl, h, ho with
   | [], h, ho => cases h
   | [z], h, ho =>
    simp only [exO] at h
    have hh := bif_none h
    clear h
    obtain ⟨hb, h⟩ := hh
    simp only [Bool.and_eq_true] at hb
    obtain rfl := natBeq hb.1
    exact .boxc ho hb.2 h
   | _ :: _ :: _, h, ho => cases h
  ·simp only [exO] at h
   have hh := bif_none h
   clear h
   obtain ⟨hb, h⟩ := hh
   obtain rfl := natBeq hb
   exact .cells ho h
 | .mp s τ, x, h => by
  cases ho : H.obj k <;> rw [ho] at h <;> simp only [exO] at h <;> try (cases h; done)
  have hh := bif_none h
  clear h
  obtain ⟨hb, h⟩ := hh
  obtain rfl := eq_of_beq hb
  obtain ⟨e1, h⟩ := castF_ok _ _ _ _ _ h
  subst e1
  obtain rfl := eq_of_heq h
  exact .mp ho
end
end Go.Abs
namespace Go.Abs
open Go
section
variable [SU] [Codes]
variable {ks : List (Option Nat)} {H : EHeap} {lo : Nat} {os : List OSh} {y : DO os}
theorem mkH_slot {j : Nat} {p : List Nat} : (toH (mkH lo os y)).slot ⟨j, p⟩ = (mkObj os y j).slot (mkH lo os y).len j p := rfl
theorem mkH_len {j : Nat} {p : List Nat} : (mkH lo os y).len j p = (mkObj os y j).len p := rfl
theorem memK_out : ∀ {l : List (Option Nat)} {k j : Nat}, nthK l j = some k -> memK k l = true
 | [], _, _, h => by cases h
 | some x :: l, k, 0, h => by injection h with h; subst h; simp [memK]
 | none :: l, k, 0, h => by cases h
 | some x :: l, k, j + 1, h => by simp only [memK, Bool.or_eq_true]; exact .inr (memK_out (l := l) h)
 | none :: l, k, j + 1, h => memK_out (l := l) h
theorem nodK_out : ∀ {l : List (Option Nat)} {i j k : Nat}, nodK l = true -> nthK l i = some k -> nthK l j = some k -> i = j
 | [], _, _, _, _, h, _ => by cases h
 | some x :: l, 0, 0, k, _, _, _ => rfl
 | none :: l, 0, _, k, _, h, _ => by cases h
 | none :: l, _ + 1, 0, k, _, _, h => by cases h
 | none :: l, i + 1, j + 1, k, hn, h1, h2 => by rw [nodK_out (l := l) hn h1 h2]
 | some x :: l, 0, j + 1, k, hn, h1, h2 => by
  injection h1 with h1; subst h1
  simp only [nodK, Bool.and_eq_true, Bool.not_eq_true'] at hn
  rw [memK_out (l := l) h2] at hn; cases hn.1
 | some x :: l, i + 1, 0, k, hn, h1, h2 => by
  injection h2 with h2; subst h2
  simp only [nodK, Bool.and_eq_true, Bool.not_eq_true'] at hn
  rw [memK_out (l := l) h1] at hn; cases hn.1
 | some x :: l, i + 1, j + 1, k, hn, h1, h2 => by
  simp only [nodK, Bool.and_eq_true] at hn
  rw [nodK_out (l := l) hn.2 h1 h2]
theorem cellsV_slot {len : Len} {k : Nat} {e : TypeId} {l : List EV} {p : List Nat} {o' : AObj} (h : (OD.cells e l).slot len k p = .live o') : p = [] /\ o' = { elem := e, sz := l.length, ver := 0, n := 1, get := fun _ c => toVs len l c } := by
 cases p with
 | cons _ _ => cases h
 | nil => injection h with h; exact ⟨rfl, h.symm⟩
theorem mK_at {j k : Nat} {p : List Nat} (h : nthK ks j = some k) : mK ks ⟨j, p⟩ = some ⟨k, p⟩ := by simp only [mK, h]
theorem mK_no {j : Nat} {p : List Nat} (h : nthK ks j = none) : mK ks ⟨j, p⟩ = none := by simp only [mK, h]
theorem lst_same {H H' : EHeap} {j k : Nat} {v : LV} (ho : H.obj k = .lst v) (ho' : H'.obj j = .lst v) {m : Id -> Option Id} {Z : Id -> Prop} (hm : ∀ p, m ⟨j, p⟩ = some ⟨k, p⟩) :
  ∀ p o', (toH H').slot ⟨j, p⟩ = .live o' -> ∃ o, (toH H).slot ⟨k, p⟩ = .live o /\ o'.ver = o.ver /\ o'.elem = o.elem /\ o'.sz = o.sz /\ o'.n = o.n /\ ∀ r, r < o'.n -> ∀ c, c < o'.sz -> KG (toH H) (toH H') m Z (o.get r c) (o'.get r c) := fun p o' h => by
 have h : (H'.obj j).slot H'.len j p = .live o' := h
 rw [ho'] at h
 simp only [OD.slot] at h
 cases hv : v.at p with
 | none => rw [hv] at h; cases h
 | some a =>
  rw [hv] at h
  injection h with h
  subst h
  have hat : H.at k p = some a := by simp only [EHeap.at, ho]; exact hv
  have hat' : H'.at j p = some a := by simp only [EHeap.at, ho']; exact hv
  refine ⟨_, slot_lst hat, rfl, rfl, rfl, rfl, fun r hr c hc => ?_⟩
  show KG _ _ _ _ (cellV H.len k p r c (cellC a.τ (a.row r) c)) (cellV H'.len j p r c (cellC a.τ (a.row r) c))
  cases hcc : cellC a.τ (a.row r) c with
  | ev u => exact KG.dat (cellC_dat _ _ _ _ hcc)
  | own t e l =>
   have h1 : (toH H).slot ⟨k, p ++ [c, r]⟩ = .live (LV.obj H.len k (p ++ [c, r]) ⟨t, e, l⟩) := slot_lst (by rw [EHeap.at_append hat, LV.at_one, LV.kid_of hcc])
   have h2 : (toH H').slot ⟨j, p ++ [c, r]⟩ = .live (LV.obj H'.len j (p ++ [c, r]) ⟨t, e, l⟩) := slot_lst (by rw [EHeap.at_append hat', LV.at_one, LV.kid_of hcc])
   exact KG.srefL (by rw [h1, h2]; exact ⟨rfl, rfl, rfl, rfl⟩) (hm _)
theorem roots_ok (h : exOs ks H os ks = some y) : Roots ks H (mkH lo os y) (mK ks) := by
 obtain ⟨e1, e2⟩ := exOs_at os ks y h
 refine ⟨fun j k hj => ?_, fun j hj hl => ?_⟩
 ·obtain ⟨o, -, hx⟩ := e2 j (by rw [e1]; exact nthK_lt hj)
  rcases hx with ⟨k', x, q1, q2, q3⟩ | ⟨x, q1, q2, q3⟩
  ·rw [hj] at q1; injection q1 with q1; subst q1
   rw [mkH_slot, mkH_len, q3]
   have rd := exO_read o x q2
   cases rd with
   | dead => exact .inl rfl
   | lst ho => exact .inr ⟨by show SlotLike ((H.obj k).slot H.len k []) _; rw [ho, slot_flatLst]; simp only [mkO]; rw [slot_flatLst]; exact ⟨rfl, rfl, rfl, rfl⟩, by unfold EHeap.len; rw [ho]; rfl, mK_at hj⟩
   | box ho => exact .inr ⟨by show SlotLike ((H.obj k).slot H.len k []) _; rw [ho, slot_flatLst]; simp only [mkO]; rw [slot_flatLst]; exact ⟨rfl, rfl, rfl, rfl⟩, by unfold EHeap.len; rw [ho]; rfl, mK_at hj⟩
   | cells ho hx =>
    refine .inr ⟨?_, by unfold EHeap.len; rw [ho]; rfl, mK_at hj⟩
    have := (slot_cells ho)
    rw [this]
    exact ⟨rfl, rfl, (exEs_len _ _ _ hx).symm, rfl⟩
   | boxc ho hf hx =>
    refine .inr ⟨?_, by unfold EHeap.len; rw [ho]; simp only [mkO, OD.len, LV.at_nil]; rfl, mK_at hj⟩
    show SlotLike ((H.obj k).slot H.len k []) _
    rw [ho, slot_flatLst]
    have := exEs_len _ _ _ hx
    rw [cellsE_len] at this
    exact ⟨rfl, rfl, this.symm, rfl⟩
   | mp ho => exact .inr ⟨by show SlotLike ((H.obj k).slot H.len k []) _; rw [ho]; trivial, by unfold EHeap.len; rw [ho]; rfl, mK_at hj⟩
  ·rw [hj] at q1; cases q1
 ·obtain ⟨o, -, hx⟩ := e2 j (by rw [e1]; exact hl)
  rcases hx with ⟨k', x, q1, q2, q3⟩ | ⟨x, q1, q2, q3⟩
  ·rw [hj] at q1; cases q1
  ·rw [mkH_slot, mkH_len, q3]
   cases o with
   | dead => exact .inl rfl
   | lst e τ =>
    simp only [exV] at q2
    obtain ⟨hf, q2⟩ := bif_none q2
    injection q2 with q2
    subst q2
    refine .inr ⟨_, slot_flatLst, rfl, ?_⟩
    simp only [mkO, OD.len, LV.at_nil]; rfl
   | _ => cases q2
where
 exEs_len : ∀ (l : List Sh) (us : List EV) (x : DS l), exEs ks l us = some x -> us.length = (mkEs l x).length
  | [], us, x, h => by cases us <;> first | rfl | cases h
  | a :: l, us, x, h => by
   cases us with
   | nil => cases h
   | cons u us =>
    simp only [exEs] at h
    split at h
    ·split at h
     ·rename_i x2 h2
      injection h with h; subst h
      simp only [mkEs, List.length_cons, exEs_len l us x2 h2]
     ·cases h
    ·cases h
theorem objs_ok {Z : Id -> Prop} (h : exOs ks H os ks = some y) : ∀ i o', (toH (mkH lo os y)).slot i = .live o' -> (mK ks i = none /\ o'.n = 0) \/ ∃ x o, mK ks i = some x /\ (toH H).slot x = .live o /\ o'.ver = o.ver /\ o'.elem = o.elem /\ o'.sz = o.sz /\ o'.n = o.n /\
  ∀ r, r < o'.n -> ∀ c, c < o'.sz -> KG (toH H) (toH (mkH lo os y)) (mK ks) Z (o.get r c) (o'.get r c) := by
 have hR : Roots ks H (mkH lo os y) (mK ks) := roots_ok h
 obtain ⟨e1, e2⟩ := exOs_at os ks y h
 rintro ⟨j, p⟩ o' hl
 by_cases hj : j < os.length
 ·obtain ⟨o, -, hx⟩ := e2 j hj
  rcases hx with ⟨k, x, q1, q2, q3⟩ | ⟨x, q1, q2, q3⟩
  ·right
   have rd := exO_read o x q2
   have same : ∀ {e : TypeId} {τ : Ty} {l : List τ.D}, H.obj k = .lst ⟨e, τ, l⟩ -> mkO o x = .lst ⟨e, τ, l⟩ -> ∃ x o, mK ks ⟨j, p⟩ = some x /\ (toH H).slot x = .live o /\ o'.ver = o.ver /\ o'.elem = o.elem /\ o'.sz = o.sz /\ o'.n = o.n /\
     ∀ r, r < o'.n -> ∀ c, c < o'.sz -> KG (toH H) (toH (mkH lo os y)) (mK ks) Z (o.get r c) (o'.get r c) := fun ho1 ho2 => by
    obtain ⟨o1, r1, r2, r3, r4, r5, r6⟩ := lst_same (H := H) (H' := mkH lo os y) (j := j) (k := k) (m := mK ks) (Z := Z) ho1 (q3.trans ho2) (fun p => mK_at q1) p o' hl
    exact ⟨⟨k, p⟩, o1, mK_at q1, r1, r2, r3, r4, r5, r6⟩
   rw [mkH_slot, q3] at hl
   cases rd with
   | dead => cases hl
   | lst ho => exact same ho rfl
   | box ho => exact same ho rfl
   | @cells e l ms x ho hx =>
    obtain ⟨rfl, rfl⟩ := cellsV_slot hl
    obtain ⟨f1, f2⟩ := exEs_ok hR l ms x hx (Z := Z)
    refine ⟨⟨k, []⟩, _, mK_at q1, slot_cells ho, rfl, rfl, f1.symm, rfl, fun r hr c hc => ?_⟩
    exact f2 c (by rw [f1]; exact hc)
   | @boxc e l τ z x ho hf hx =>
    obtain ⟨rfl, rfl⟩ := cellsV_slot hl
    obtain ⟨f1, f2⟩ := exEs_ok hR l _ x hx (Z := Z)
    have hat : H.at k [] = some ⟨e, τ, [z]⟩ := by simp only [EHeap.at, ho, LV.at_nil]
    rw [cellsE_len] at f1 f2
    refine ⟨⟨k, []⟩, _, mK_at q1, slot_lst hat, rfl, rfl, f1.symm, rfl, fun r hr c hc => ?_⟩
    have hc : c < (mkEs l x).length := hc
    have hr : r < 1 := hr
    obtain rfl : r = 0 := by omega
    have := f2 c (by omega)
    rw [cellsE_at _ _ _ _ _ _ _ _ _ (by omega), Nat.zero_add] at this
    have e3 := cellE_V (v := ⟨e, τ, [z]⟩) hat 0 c
    have e4 : LV.row ⟨e, τ, [z]⟩ 0 = z := rfl
    rw [e4] at e3
    rw [e3] at this
    exact this
   | mp ho => simp only [mkO] at hl; cases p <;> cases hl
  ·left
   refine ⟨mK_no q1, ?_⟩
   rw [mkH_slot, q3] at hl
   cases o with
   | dead => cases hl
   | lst e τ =>
    simp only [exV] at q2
    obtain ⟨hf, q2⟩ := bif_none q2
    injection q2 with q2
    subst q2
    simp only [mkO, OD.slot] at hl
    cases p with
    | nil => rw [LV.at_nil] at hl; injection hl with hl; subst hl; rfl
    | cons a b => rw [LV.at_flat (v := ⟨e, τ, []⟩) hf (a :: b) (by simp)] at hl; cases hl
   | _ => cases q2
 ·rw [mkH_slot, mkObj_out os y j (Nat.le_of_not_lt hj)] at hl; cases hl
theorem maps_ok {Z : Id -> Prop} (h : exOs ks H os ks = some y) : ∀ i s g', (toH (mkH lo os y)).slot i = .mp s g' -> ∃ x g, mK ks i = some x /\ (toH H).slot x = .mp s g /\ ∀ k, (g k = none /\ g' k = none) \/ ∃ u u', g k = some u /\ g' k = some u' /\ KG (toH H) (toH (mkH lo os y)) (mK ks) Z u u' := by
 obtain ⟨e1, e2⟩ := exOs_at os ks y h
 rintro ⟨j, p⟩ s g' hl
 by_cases hj : j < os.length
 ·obtain ⟨o, -, hx⟩ := e2 j hj
  rw [mkH_slot] at hl
  obtain ⟨τ, g, r1, r2, r3⟩ := slot_mp hl
  rcases hx with ⟨k, x, q1, q2, q3⟩ | ⟨x, q1, q2, q3⟩
  ·rw [q3] at r1
   have rd := exO_read o x q2
   cases rd with
   | mp ho =>
    injection r1 with a b c
    subst a; subst b
    obtain rfl := eq_of_heq c
    subst r2
    refine ⟨⟨k, []⟩, g', mK_at q1, by show (H.obj k).slot _ _ _ = _; rw [ho, r3]; rfl, fun key => ?_⟩
    subst r3
    dsimp only
    split
    ·exact .inr ⟨_, _, rfl, rfl, KG.t _⟩
    ·exact .inl ⟨rfl, rfl⟩
   | _ => cases r1
  ·rw [q3] at r1
   cases o with
   | mp s τ => cases q2
   | _ => cases r1
 ·rw [mkH_slot, mkObj_out os y j (Nat.le_of_not_lt hj)] at hl; cases hl
theorem mK_inj (hn : nodK ks = true) {i j x : Id} (h1 : mK ks i = some x) (h2 : mK ks j = some x) : i = j := by
 obtain ⟨a, p⟩ := i
 obtain ⟨b, q⟩ := j
 simp only [mK] at h1 h2
 cases ha : nthK ks a with
 | none => rw [ha] at h1; cases h1
 | some k =>
  cases hb : nthK ks b with
  | none => rw [hb] at h2; cases h2
  | some k' =>
   rw [ha] at h1; rw [hb] at h2
   injection h1 with h1; injection h2 with h2
   subst h1
   injection h2 with h2 h3
   subst h2; subst h3
   rw [nodK_out hn ha hb]
theorem mkH_next : Nx (toH (mkH lo os y)) := fun i hi => by
 obtain ⟨j, p⟩ := i
 have hi : os.length <= j := hi
 rw [mkH_slot, mkObj_out os y j hi]; rfl
theorem part_ok (h : exOs ks H os ks = some y) (hn : nodK ks = true) : Part (toH H) (toH (mkH os.length os y)) (mK ks) where
 next := mkH_next
 lo := rfl
 obj := objs_ok h
 mp := maps_ok h
 inj i j x _ _ h1 h2 := mK_inj hn h1 h2
theorem lowK_out : ∀ {n j : Nat} {ks : List (Option Nat)} {os : List OSh}, lowK n j ks os = true -> ∀ i, i < n -> nthO os i = some .dead \/ nthK ks i = some (j + i)
 | 0, _, _, _, _, i, hi => absurd hi (Nat.not_lt_zero _)
 | n + 1, j, [], _, h, i, hi => by cases h
 | n + 1, j, _ :: _, [], h, i, hi => by cases h
 | n + 1, j, k :: ks, o :: os, h, i, hi => by
  simp only [lowK, Bool.and_eq_true] at h
  cases i with
  | zero =>
   cases o with
   | dead => exact .inl rfl
   | _ =>
    right
    cases k with
    | none => exact absurd h.1 (by simp)
    | some k => obtain rfl := natBeq h.1; rfl
  | succ i =>
   rcases lowK_out h.2 i (by omega) with h | h
   ·exact .inl h
   ·right
    show nthK ks i = _
    rw [h]; congr 1; omega
structure SSh where
 sl : List (Nat × Sh)
 os : List OSh
def mkS (nt lo : Nat) (sh : SSh) (x : DT sh.sl) (y : DO sh.os) : ESt := ⟨nt, mkEnv sh.sl x, mkH lo sh.os y⟩
def exS (s : ESt) (ks : List (Option Nat)) (sh : SSh) : Option (DT sh.sl × DO sh.os) := bif nodK ks && lowK s.heap.lo 0 ks sh.os then (match exT ks s.env sh.sl with
 | some x => match exOs ks s.heap sh.os ks with
  | some y => some (x, y)
  | none => none
 | none => none) else none
theorem exS_ok {s : ESt} {sh : SSh} {x : DT sh.sl} {y : DO sh.os} (h : exS s ks sh = some (x, y)) : WeakT s (mkS s.nt s.heap.lo sh x y) := by
 unfold exS at h
 obtain ⟨hb, h⟩ := bif_none h
 simp only [Bool.and_eq_true] at hb
 obtain ⟨hn, hlo⟩ := hb
 split at h
 ·rename_i x' hx
  split at h
  ·rename_i y' hy
   injection h with h
   injection h with h1 h2
   subst h1; subst h2
   have hR : Roots ks s.heap (mkH s.heap.lo sh.os y') (mK ks) := roots_ok hy
   obtain ⟨e1, e2⟩ := exOs_at _ _ _ hy
   refine Weak.gen (mK ks) (fun _ => False) rfl ⟨rfl, mkH_next, fun i o' ho => ?_, fun i sb g' hm => ?_, fun i j x _ _ h1 h2 => mK_inj hn h1 h2, fun i hi hp => ?_⟩ (fun t => exT_ok hR sh.sl x' hx t)
   ·rcases objs_ok (Z := fun _ => False) hy i o' ho with h | ⟨x, o, a, b, c, d, e, f, g⟩
    ·exact .inl h
    ·exact .inr ⟨x, o, a, b, fun h => h, d, e, Nat.le_of_eq f, g⟩
   ·obtain ⟨x, g, a, b, c⟩ := maps_ok (Z := fun _ => False) hy i sb g' hm
    exact ⟨x, g, a, b, fun h => h, c⟩
   ·obtain ⟨j, p⟩ := i
    simp only at hp hi
    subst hp
    right
    have hi : j < s.heap.lo := hi
    rcases lowK_out hlo j hi with h | h
    ·left
     have hj : j < sh.os.length := by
      refine Classical.byContradiction fun hn => ?_
      have : ∀ (l : List OSh) (j : Nat), l.length <= j -> nthO l j = none := by
       intro l
       induction l with
       | nil => intro j _; rfl
       | cons o l ih => intro j hj; cases j with
        | zero => simp at hj
        | succ j => exact ih j (by simpa using hj)
      rw [this _ _ (Nat.le_of_not_lt hn)] at h; cases h
     obtain ⟨o, ho, hx⟩ := e2 j hj
     rw [h] at ho
     injection ho with ho
     subst ho
     rcases hx with ⟨k, x, _, _, q3⟩ | ⟨x, _, _, q3⟩ <;> (show (mkObj sh.os y' j).slot _ _ _ = _; rw [q3]; rfl)
    ·rw [Nat.zero_add] at h
     rcases hR.sm j j h with hd | ⟨q1, q2, q3⟩
     ·exact .inl hd
     ·exact .inr ⟨q3, q1⟩
  ·cases h
 ·cases h
def ksFor (s : ESt) (sh : SSh) : List (Option Nat) := ksOf (bindO s.heap sh.os 0 (bindT s.env sh.sl (idsL s.heap.lo 0 sh.os))) sh.os 0
end
end Go.Abs
namespace Go.Abs
open Go
structure KCl (K : V -> V -> Prop) : Prop where
 un : ∀ u, K u .un
 und : K .und .und
 t : ∀ x, K (.t x) (.t x)
 nils : K .nils .nils
 nilp : K .nilp .nilp
 nilm : K .nilm .nilm
 nilf : K .nilf .nilf
 fp : ∀ n g, K (.fp n g) (.fp n g)
 agg : ∀ n g g', (∀ j, j < n -> K (g j) (g' j)) -> K (.agg n g) (.agg n g')
 tup : ∀ n g g', (∀ j, j < n -> K (g j) (g' j)) -> K (.tup n g) (.tup n g')
 fn : ∀ f n g g', (∀ j, j < n -> K (g j) (g' j)) -> K (.fn f n g) (.fn f n g')
theorem KCl.of {H H' : Heap} {ι ι' : Id -> Option Nat} {F F' : Nat -> Prop} {w w' : World} (ht : ∀ x v, Reads F w x v -> Reads F' w' x v)
  (hfp : ∀ n g v, VRel H ι F w (.fp n g) v -> VRel H' ι' F' w' (.fp n g) v) : KCl (fun u u' => ∀ v, VRel H ι F w u v -> VRel H' ι' F' w' u' v) where
 un u v _ := trivial
 und v h := h
 t x v h := ht x v h
 nils v h := h
 nilp v h := h
 nilm v h := h
 nilf v h := h
 fp n g v h := hfp n g v h
 agg n g g' h v := fun ⟨cs, h1, h2, h3⟩ => ⟨cs, h1, h2, fun j hj => by obtain ⟨c, a, p, b⟩ := h3 j hj; exact ⟨c, a, p, h j hj _ b⟩⟩
 tup n g g' h v := fun ⟨cs, h1, h2, h3⟩ => ⟨cs, h1, h2, fun j hj => by obtain ⟨c, a, b⟩ := h3 j hj; exact ⟨c, a, h j hj _ b⟩⟩
 fn f n g g' h v := fun ⟨cs, h1, h2, h3⟩ => ⟨cs, h1, h2, fun j hj => by obtain ⟨c, a, b⟩ := h3 j hj; exact ⟨c, a, h j hj _ b⟩⟩
section
variable [SU] [Codes]
mutual
def renE (g : Nat -> Option Nat) : EV -> EV
 | .ptr k p r c => match g k with
  | some j => .ptr j p r c
  | none => .un
 | .sref k p r n => match g k with
  | some j => .sref j p r n
  | none => .un
 | .sfull k p => match g k with
  | some j => .sfull j p
  | none => .un
 | .mref k => match g k with
  | some j => .mref j
  | none => .un
 | .agg l => .agg (renEs g l)
 | .tup l => .tup (renEs g l)
 | .fn f l => .fn f (renEs g l)
 | .un => .un
 | .und => .und
 | .b x => .b x
 | .i k n => .i k n
 | .s x => .s x
 | .fz τ l => .fz τ l
 | .fp τ x c => .fp τ x c
 | .st i x => .st i x
 | .nils => .nils
 | .nilp => .nilp
 | .nilm => .nilm
 | .nilf => .nilf
 | .nili => .nili
def renEs (g : Nat -> Option Nat) : List EV -> List EV
 | [] => []
 | a :: l => renE g a :: renEs g l
end
theorem renEs_len (g : Nat -> Option Nat) : ∀ l : List EV, (renEs g l).length = l.length
 | [] => rfl
 | a :: l => by simp [renEs, renEs_len g l]
mutual
theorem KCl.ren {K : V -> V -> Prop} (C : KCl K) {len len' : Len} {g : Nat -> Option Nat} (hp : ∀ id p r c j, g id = some j -> K (.ptr ⟨id, p⟩ 0 r c) (.ptr ⟨j, p⟩ 0 r c)) (hs : ∀ id p r n j, g id = some j -> K (.sref ⟨id, p⟩ 0 r n) (.sref ⟨j, p⟩ 0 r n))
  (hl : ∀ id p j, g id = some j -> len' j p = len id p) (hm : ∀ id j, g id = some j -> K (.mref ⟨id, []⟩) (.mref ⟨j, []⟩)) : ∀ u : EV, K (toV len u) (toV len' (renE g u))
 | .ptr id p r c => by
  simp only [renE]
  cases hg : g id with
  | none => simp only [toV]; exact C.un _
  | some j => simp only [toV]; exact hp id p r c j hg
 | .sref id p r n => by
  simp only [renE]
  cases hg : g id with
  | none => simp only [toV]; exact C.un _
  | some j => simp only [toV]; exact hs id p r n j hg
 | .sfull id p => by
  simp only [renE]
  cases hg : g id with
  | none => simp only [toV]; exact C.un _
  | some j =>
   simp only [toV]
   rw [hl id p j hg]
   cases len id p <;> exact hs id p 0 _ j hg
 | .mref id => by
  simp only [renE]
  cases hg : g id with
  | none => simp only [toV]; exact C.un _
  | some j => simp only [toV]; exact hm id j hg
 | .agg l => by simp only [renE, toV, renEs_len]; exact C.agg _ _ _ fun j hj => KCl.rens C hp hs hl hm l j
 | .tup l => by simp only [renE, toV, renEs_len]; exact C.tup _ _ _ fun j hj => KCl.rens C hp hs hl hm l j
 | .fn f l => by simp only [renE, toV, renEs_len]; exact C.fn _ _ _ _ fun j hj => KCl.rens C hp hs hl hm l j
 | .un => by simp only [renE, toV]; exact C.un _
 | .und => by simp only [renE, toV]; exact C.und
 | .b _ => by simp only [renE, toV]; exact C.t _
 | .i _ _ => by simp only [renE, toV]; exact C.t _
 | .s _ => by simp only [renE, toV]; exact C.t _
 | .fz _ _ => by simp only [renE, toV]; exact C.t _
 | .fp _ _ _ => by simp only [renE, toV]; exact C.fp _ _
 | .st _ _ => by simp only [renE, toV]; exact C.agg _ _ _ fun j _ => C.t _
 | .nils => by simp only [renE, toV]; exact C.nils
 | .nilp => by simp only [renE, toV]; exact C.nilp
 | .nilm => by simp only [renE, toV]; exact C.nilm
 | .nilf => by simp only [renE, toV]; exact C.nilf
 | .nili => by simp only [renE, toV]; exact C.t _
theorem KCl.rens {K : V -> V -> Prop} (C : KCl K) {len len' : Len} {g : Nat -> Option Nat} (hp : ∀ id p r c j, g id = some j -> K (.ptr ⟨id, p⟩ 0 r c) (.ptr ⟨j, p⟩ 0 r c)) (hs : ∀ id p r n j, g id = some j -> K (.sref ⟨id, p⟩ 0 r n) (.sref ⟨j, p⟩ 0 r n))
  (hl : ∀ id p j, g id = some j -> len' j p = len id p) (hm : ∀ id j, g id = some j -> K (.mref ⟨id, []⟩) (.mref ⟨j, []⟩)) : ∀ (l : List EV) (j : Nat), K (toVs len l j) (toVs len' (renEs g l) j)
 | [], j => by simp only [renEs, toVs]; exact C.un _
 | a :: l, 0 => by simp only [renEs, toVs]; exact KCl.ren C hp hs hl hm a
 | a :: l, j + 1 => by simp only [renEs, toVs]; exact KCl.rens C hp hs hl hm l j
end
mutual
theorem KCl.scrub {K : V -> V -> Prop} (C : KCl K) {H : Heap} {len len' : Len} {f : Nat -> List Nat -> Option EV} (hp : ∀ id p r c, H.slot ⟨id, p⟩ ≠ .unborn -> f id p = none -> K (.ptr ⟨id, p⟩ 0 r c) (.ptr ⟨id, p⟩ 0 r c))
  (hs : ∀ id p r n, H.slot ⟨id, p⟩ ≠ .unborn -> f id p = none -> K (.sref ⟨id, p⟩ 0 r n) (.sref ⟨id, p⟩ 0 r n)) (hl : ∀ id p, H.slot ⟨id, p⟩ ≠ .unborn -> f id p = none -> len' id p = len id p \/ ∀ n n', K (.sref ⟨id, p⟩ 0 0 n) (.sref ⟨id, p⟩ 0 0 n'))
  (hm : ∀ id, H.slot ⟨id, []⟩ ≠ .unborn -> f id [] = none -> K (.mref ⟨id, []⟩) (.mref ⟨id, []⟩)) (hu : ∀ id p u, f id p = some u -> u = .un) : ∀ u : EV, Born H (toV len u) -> K (toV len u) (toV len' (Abs.scrub f u))
 | .ptr id p r c, hb => by
  simp only [Abs.scrub]
  cases hf : f id p with
  | some u => simp only [toV]; exact C.un _
  | none => simp only [toV] at hb ⊢; exact hp id p r c hb hf
 | .sref id p r n, hb => by
  simp only [Abs.scrub]
  cases hf : f id p with
  | some u => simp only [toV]; exact C.un _
  | none => simp only [toV] at hb ⊢; exact hs id p r n hb hf
 | .sfull id p, hb => by
  simp only [Abs.scrub]
  cases hf : f id p with
  | some u => rw [hu id p u hf]; simp only [toV]; exact C.un _
  | none =>
   simp only [toV] at hb ⊢
   have hb' : H.slot ⟨id, p⟩ ≠ .unborn := by cases hx : len id p <;> rw [hx] at hb <;> exact hb
   rcases hl id p hb' hf with e | e
   ·rw [e]
    cases len id p <;> exact hs id p 0 _ hb' hf
   ·cases len id p <;> cases len' id p <;> exact e _ _
 | .mref id, hb => by
  simp only [Abs.scrub]
  cases hf : f id [] with
  | some u => simp only [toV]; exact C.un _
  | none => simp only [toV] at hb ⊢; exact hm id hb hf
 | .agg l, hb => by simp only [Abs.scrub, toV, scrubs_len] at hb ⊢; exact C.agg _ _ _ fun j hj => KCl.scrubs C hp hs hl hm hu l j (hb j hj)
 | .tup l, hb => by simp only [Abs.scrub, toV, scrubs_len] at hb ⊢; exact C.tup _ _ _ fun j hj => KCl.scrubs C hp hs hl hm hu l j (hb j hj)
 | .fn g l, hb => by simp only [Abs.scrub, toV, scrubs_len] at hb ⊢; exact C.fn _ _ _ _ fun j hj => KCl.scrubs C hp hs hl hm hu l j (hb j hj)
 | .un, _ => by simp only [Abs.scrub, toV]; exact C.un _
 | .und, _ => by simp only [Abs.scrub, toV]; exact C.und
 | .b _, _ => by simp only [Abs.scrub, toV]; exact C.t _
 | .i _ _, _ => by simp only [Abs.scrub, toV]; exact C.t _
 | .s _, _ => by simp only [Abs.scrub, toV]; exact C.t _
 | .fz _ _, _ => by simp only [Abs.scrub, toV]; exact C.t _
 | .fp _ _ _, _ => by simp only [Abs.scrub, toV]; exact C.fp _ _
 | .st _ _, _ => by simp only [Abs.scrub, toV]; exact C.agg _ _ _ fun j _ => C.t _
 | .nils, _ => by simp only [Abs.scrub, toV]; exact C.nils
 | .nilp, _ => by simp only [Abs.scrub, toV]; exact C.nilp
 | .nilm, _ => by simp only [Abs.scrub, toV]; exact C.nilm
 | .nilf, _ => by simp only [Abs.scrub, toV]; exact C.nilf
 | .nili, _ => by simp only [Abs.scrub, toV]; exact C.t _
theorem KCl.scrubs {K : V -> V -> Prop} (C : KCl K) {H : Heap} {len len' : Len} {f : Nat -> List Nat -> Option EV} (hp : ∀ id p r c, H.slot ⟨id, p⟩ ≠ .unborn -> f id p = none -> K (.ptr ⟨id, p⟩ 0 r c) (.ptr ⟨id, p⟩ 0 r c))
  (hs : ∀ id p r n, H.slot ⟨id, p⟩ ≠ .unborn -> f id p = none -> K (.sref ⟨id, p⟩ 0 r n) (.sref ⟨id, p⟩ 0 r n)) (hl : ∀ id p, H.slot ⟨id, p⟩ ≠ .unborn -> f id p = none -> len' id p = len id p \/ ∀ n n', K (.sref ⟨id, p⟩ 0 0 n) (.sref ⟨id, p⟩ 0 0 n'))
  (hm : ∀ id, H.slot ⟨id, []⟩ ≠ .unborn -> f id [] = none -> K (.mref ⟨id, []⟩) (.mref ⟨id, []⟩)) (hu : ∀ id p u, f id p = some u -> u = .un) : ∀ (l : List EV) (j : Nat), Born H (toVs len l j) -> K (toVs len l j) (toVs len' (Abs.scrubs f l) j)
 | [], j, _ => by simp only [Abs.scrubs, toVs]; exact C.un _
 | a :: l, 0, hb => by simp only [Abs.scrubs, toVs] at hb ⊢; exact KCl.scrub C hp hs hl hm hu a hb
 | a :: l, j + 1, hb => by simp only [Abs.scrubs, toVs] at hb ⊢; exact KCl.scrubs C hp hs hl hm hu l j hb
end
def renO (g : Nat -> Option Nat) : OD -> OD
 | .cells e l => .cells e (renEs g l)
 | .lst v => .lst v
 | .mp s τ f => .mp s τ f
 | .dead => .dead
 | .none => .none
 | .hole _ _ _ _ => .dead
theorem renO_len {g : Nat -> Option Nat} (o : OD) (p : List Nat) : (renO g o).len p = o.len p := by
 cases o <;> first | rfl | (cases p <;> rfl)
structure CT (P : Program) (f : FuncId) (args : List EV) (H : EHeap) (K : EV -> EHeap -> Prop) : Prop where
 out : ∀ E ι F w (cargs : Array Value), RelH E ι F (toH H) w -> args.length = cargs.size -> (∀ j, j < args.length -> VRel (toH H) ι F w (toV H.len (nthE args j)) (cargs.getD j undef)) ->
  Calls P f cargs w fun e w' => ∃ v ι' F' H' cv, e = .returned cv /\ RelH E ι' F' (toH H') w' /\ VRel (toH H') ι' F' w' (toV H'.len v) cv /\ K v H'
def mkArgs : (l : List (Nat × Sh)) -> DT l -> List EV
 | [], _ => []
 | (_, a) :: l, x => mkE a x.1 :: mkArgs l x.2
structure Ctr (P : Program) where
 f : FuncId
 fnok : FnOk P f
 ar : List (Nat × Sh)
 os : List OSh
 rv : Sh
 ro : List OSh
 F : DT ar -> DO os -> Option (rv.D × DO ro)
 ok : ∀ x y r, F x y = some r -> CT P f (mkArgs ar x) (mkH os.length os y) (fun v H' => v = mkE rv r.1 /\ H' = mkH os.length ro r.2)
def ixK : List (Option Nat) -> Nat -> Option Nat
 | [], _ => none
 | some k :: l, j => bif Nat.beq k j then some 0 else (match ixK l j with
  | some i => some (i + 1)
  | none => none)
 | none :: l, j => match ixK l j with
  | some i => some (i + 1)
  | none => none
theorem ixK_out : ∀ {ks : List (Option Nat)} {j i : Nat}, ixK ks j = some i -> nthK ks i = some j
 | [], _, _, h => by cases h
 | some k :: l, j, i, h => by
  simp only [ixK] at h
  cases hb : Nat.beq k j with
  | true => rw [hb] at h; injection h with h; subst h; obtain rfl := natBeq hb; rfl
  | false =>
   rw [hb] at h
   simp only [cond_false] at h
   cases hi : ixK l j with
   | none => rw [hi] at h; cases h
   | some x => rw [hi] at h; injection h with h; subst h; exact ixK_out (ks := l) hi
 | none :: l, j, i, h => by
  simp only [ixK] at h
  cases hi : ixK l j with
  | none => rw [hi] at h; cases h
  | some x => rw [hi] at h; injection h with h; subst h; exact ixK_out (ks := l) hi
theorem ixK_none : ∀ {ks : List (Option Nat)} {j : Nat}, ixK ks j = none -> ∀ i, nthK ks i ≠ some j
 | [], _, _, i => by simp [nthK]
 | some k :: l, j, h, i => by
  simp only [ixK] at h
  cases hb : Nat.beq k j with
  | true => rw [hb] at h; cases h
  | false =>
   rw [hb] at h
   simp only [cond_false] at h
   cases hi : ixK l j with
   | some x => rw [hi] at h; cases h
   | none =>
    cases i with
    | zero => intro e; injection e with e; subst e; simp at hb
    | succ i => exact ixK_none (ks := l) hi i
 | none :: l, j, h, i => by
  simp only [ixK] at h
  cases hi : ixK l j with
  | some x => rw [hi] at h; cases h
  | none =>
   cases i with
   | zero => intro e; cases e
   | succ i => exact ixK_none (ks := l) hi i
def ltKs (n : Nat) : List (Option Nat) -> Bool
 | [] => true
 | some k :: l => Nat.blt k n && ltKs n l
 | none :: l => ltKs n l
theorem ltKs_out {n : Nat} : ∀ {ks : List (Option Nat)} {i k : Nat}, ltKs n ks = true -> nthK ks i = some k -> k < n
 | [], _, _, _, h => by cases h
 | some x :: l, 0, k, hl, h => by
  simp only [ltKs, Bool.and_eq_true] at hl
  injection h with h; subst h; exact Nat.le_of_ble_eq_true hl.1
 | none :: l, 0, k, hl, h => by cases h
 | some x :: l, i + 1, k, hl, h => by
  simp only [ltKs, Bool.and_eq_true] at hl
  exact ltKs_out (ks := l) hl.2 h
 | none :: l, i + 1, k, hl, h => ltKs_out (ks := l) hl h
def outK (ks : List (Option Nat)) (n0 : Nat) (i : Nat) : Option Nat := bif Nat.blt i ks.length then nthK ks i else some (n0 + (i - ks.length))
def nestF (ks : List (Option Nat)) : Nat -> List Nat -> Option EV := fun id p => match p with
 | [] => none
 | _ => match ixK ks id with
  | some _ => some .un
  | none => none
def callH (H : EHeap) (ks : List (Option Nat)) (Hl : EHeap) : EHeap := { next := H.next + (Hl.next - ks.length), lo := H.lo, md := H.md, obj := fun j => match ixK ks j with
 | some i => renO (outK ks H.next) (Hl.obj i)
 | none => bif Nat.blt j H.next then scrubO (nestF ks) (H.obj j) else renO (outK ks H.next) (Hl.obj (j - H.next + ks.length)) }
def lenOk (H Hl : EHeap) : List (Option Nat) -> Nat -> Bool
 | [], _ => true
 | some k :: l, i => (match Hl.obj i with
  | .dead => true
  | _ => match H.len k [], Hl.len i [] with
   | some a, some b => decide (b = a)
   | none, none => true
   | _, _ => false) && lenOk H Hl l (i + 1)
 | none :: l, i => lenOk H Hl l (i + 1)
theorem lenOk_out {H Hl : EHeap} : ∀ {ks : List (Option Nat)} {n i k : Nat}, lenOk H Hl ks n = true -> nthK ks i = some k -> Hl.obj (n + i) = .dead \/ Hl.len (n + i) [] = H.len k []
 | [], _, _, _, _, h => by cases h
 | some x :: l, n, 0, k, hl, h => by
  simp only [lenOk, Bool.and_eq_true] at hl
  injection h with h; subst h
  have hl := hl.1
  rw [Nat.add_zero]
  split at hl
  ·rename_i e; exact .inl e
  ·right
   split at hl
   ·rename_i a b e1 e2; rw [e1, e2, of_decide_eq_true hl]
   ·rename_i e1 e2; rw [e1, e2]
   ·cases hl
 | none :: l, n, 0, k, hl, h => by cases h
 | some x :: l, n, i + 1, k, hl, h => by
  simp only [lenOk, Bool.and_eq_true] at hl
  have := lenOk_out (ks := l) (n := n + 1) (i := i) hl.2 h
  rwa [Nat.add_assoc, Nat.add_comm 1 i] at this
 | none :: l, n, i + 1, k, hl, h => by
  have := lenOk_out (ks := l) (n := n + 1) (i := i) hl h
  rwa [Nat.add_assoc, Nat.add_comm 1 i] at this
end
end Go.Abs
namespace Go.Abs
open Go
variable {P : Program} {d : Option Tmp} {ty : TypeId} {L : List GOp} {ρ : Type}
section
variable [SU] [Codes] {Q : Exit -> ESt -> Prop}
theorem ixK_of {ks : List (Option Nat)} (hn : nodK ks = true) {i j : Nat} (h : nthK ks i = some j) : ixK ks j = some i := by
 cases hx : ixK ks j with
 | none => exact absurd h (ixK_none hx i)
 | some x => rw [nodK_out hn (ixK_out hx) h]
def nK (ks : List (Option Nat)) (n0 : Nat) : Id -> Option Id := fun i => match ixK ks i.k with
 | some x => some ⟨x, i.p⟩
 | none => if i.k < n0 then none else some ⟨i.k - n0 + ks.length, i.p⟩
theorem ren_slots {g : Nat -> Option Nat} {len len' : Len} {k k' : Nat} {o : OD} {p : List Nat} (h : o.slot len k p ≠ .unborn) : SlotLike (o.slot len k p) ((renO g o).slot len' k' p) := by
 cases o with
 | none => exact absurd rfl h
 | dead => trivial
 | lst v =>
  simp only [renO, OD.slot] at h ⊢
  cases hv : v.at p with
  | none => rw [hv] at h; exact absurd rfl h
  | some a => exact ⟨rfl, rfl, rfl, rfl⟩
 | cells e l =>
  cases p with
  | cons x y => exact absurd rfl h
  | nil => exact ⟨rfl, rfl, by simp only [renEs_len], rfl⟩
 | hole v q r c => simp only [renO, OD.slot]; cases (OD.hole v q r c).slot len k p <;> trivial
 | mp s τ g =>
  cases p with
  | cons x y => exact absurd rfl h
  | nil => trivial
theorem ren_live {K : V -> V -> Prop} (C : KCl K) {g : Nat -> Option Nat} {len len' : Len} {k k' : Nat} {o : OD} {p : List Nat} {a' : AObj} (h : (renO g o).slot len' k' p = .live a')
  (hE : ∀ u : EV, K (toV len u) (toV len' (renE g u))) (hs : ∀ q n, K (.sref ⟨k, q⟩ 0 0 n) (.sref ⟨k', q⟩ 0 0 n)) :
  ∃ a, o.slot len k p = .live a /\ a'.elem = a.elem /\ a'.sz = a.sz /\ a'.n = a.n /\ ∀ r, r < a'.n -> ∀ c, c < a'.sz -> K (a.get r c) (a'.get r c) := by
 cases o with
 | none => cases h
 | dead => cases h
 | hole v q r c => cases h
 | mp s τ g => cases p <;> cases h
 | cells e l =>
  cases p with
  | cons x y => cases h
  | nil =>
   injection h with h; subst h
   refine ⟨_, rfl, rfl, by simp only [renEs_len], rfl, fun r hr c hc => ?_⟩
   show K (toVs len l c) (toVs len' (renEs g l) c)
   rw [toVs_eq, toVs_eq]
   have e : (renEs g l).getD c .un = renE g (l.getD c .un) := by
    have : ∀ (l : List EV) (c : Nat), (renEs g l).getD c .un = renE g (l.getD c .un) := by
     intro l
     induction l with
     | nil => intro c; simp [renEs, renE]
     | cons a l ih => intro c; cases c with
      | zero => simp [renEs]
      | succ c => simpa [renEs] using ih c
    exact this l c
   rw [e]; exact hE _
 | lst v =>
  simp only [renO, OD.slot] at h ⊢
  cases hv : v.at p with
  | none => rw [hv] at h; cases h
  | some a =>
   rw [hv] at h
   injection h with h; subst h
   refine ⟨_, rfl, rfl, rfl, rfl, fun r hr c hc => ?_⟩
   show K (cellV len k p r c (cellC a.τ (a.row r) c)) (cellV len' k' p r c (cellC a.τ (a.row r) c))
   cases hcc : cellC a.τ (a.row r) c with
   | ev u =>
    have hd := cellC_dat _ _ _ _ hcc
    have := hE u
    have e : renE g u = u := by cases u <;> first | (cases hd; done) | simp only [renE]
    rw [e] at this; exact this
   | own t e l => exact hs _ _
def seqT : Nat -> List (Nat × Sh) -> Bool
 | _, [] => true
 | j, (i, _) :: l => Nat.beq i j && seqT (j + 1) l
theorem seqT_env : ∀ {l : List (Nat × Sh)} {n : Nat} {x : DT l}, seqT n l = true -> ∀ j, nthE (mkArgs l x) j = mkEnv l x (n + j)
 | [], n, x, h, j => by simp [mkArgs, mkEnv, nthE]
 | (i, a) :: l, n, x, h, j => by
  simp only [seqT, Bool.and_eq_true] at h
  obtain rfl := natBeq h.1
  cases j with
  | zero => simp only [mkArgs, nthE, mkEnv, Nat.add_zero, Nat.beq_refl, cond_true]
  | succ j =>
   simp only [mkArgs, nthE, mkEnv, natBeq_ne (show ¬ i + (j + 1) = i by omega), cond_false]
   rw [seqT_env h.2 j, Nat.add_assoc, Nat.add_comm 1 j]
theorem mkArgs_len : ∀ (l : List (Nat × Sh)) (x : DT l), (mkArgs l x).length = l.length
 | [], _ => rfl
 | _ :: l, x => by simp [mkArgs, mkArgs_len l x.2]
def deadOk : List OSh -> List OSh -> Bool
 | [], _ => true
 | .dead :: os, .dead :: ro => deadOk os ro
 | .dead :: _, _ => false
 | _ :: os, _ :: ro => deadOk os ro
 | _ :: _, [] => false
theorem deadOk_out : ∀ {os ro : List OSh}, deadOk os ro = true -> os.length <= ro.length /\ ∀ j, nthO os j = some .dead -> nthO ro j = some .dead
 | [], ro, _ => ⟨Nat.zero_le _, fun j h => by cases h⟩
 | o :: os, [], h => by cases o <;> cases h
 | o :: os, o' :: ro, h => by
  have key : deadOk os ro = true /\ (o = .dead -> o' = .dead) := by
   cases o <;> first
    | exact ⟨h, fun e => by cases e⟩
    | (cases o' <;> first | exact ⟨h, fun _ => rfl⟩ | cases h)
  obtain ⟨h1, h2⟩ := deadOk_out key.1
  refine ⟨by simpa using h1, fun j hj => ?_⟩
  cases j with
  | zero => injection hj with hj; subst hj; show some o' = _; rw [key.2 rfl]
  | succ j => exact h2 j hj
theorem mkObj_dead : ∀ {l : List OSh} {y : DO l} {j : Nat}, nthO l j = some .dead -> mkObj l y j = .dead
 | [], _, _, h => by cases h
 | o :: l, y, 0, h => by injection h with h; subst h; rfl
 | _ :: l, y, j + 1, h => mkObj_dead (l := l) h
theorem mkO_root {o : OSh} {x : o.D} {len : Len} {k : Nat} : (mkO o x).slot len k [] ≠ .unborn := by
 cases o <;> simp only [mkO, OD.slot, LV.at_nil] <;> simp
theorem mkObj_root : ∀ {l : List OSh} {y : DO l} {j : Nat} {len : Len} {k : Nat}, j < l.length -> (mkObj l y j).slot len k [] ≠ .unborn
 | [], _, _, _, _, h => absurd h (Nat.not_lt_zero _)
 | o :: l, y, 0, _, _, h => mkO_root
 | _ :: l, y, j + 1, _, _, h => mkObj_root (l := l) (by simpa using h)
def isNil {α : Type} : List α -> Bool
 | [] => true
 | _ => false
theorem isNil_out {α : Type} {l : List α} (h : isNil l = true) : l = [] := by
 cases l with
 | nil => rfl
 | cons a l => cases h
theorem call_back {E : Env} {ι : Id -> Option Nat} {F : Nat -> Prop} {s : ESt} {w : World} (r : RelH E ι F (toH s.heap) w) (hf : Fair s) (c : Ctr P) {ks : List (Option Nat)} (hn : nodK ks = true) (hlt : ltKs s.heap.next ks = true)
  (hd : deadOk c.os c.ro = true) {y : DO c.os} (hy : exOs ks s.heap c.os ks = some y) {res : c.rv.D × DO c.ro}
  (hlen : lenOk s.heap (mkH c.os.length c.ro res.2) ks 0 = true) {w' : World} {ι3 : Id -> Option Nat} {F3 : Nat -> Prop} {cv : Value} (r3 : RelH (callEnv w (toH (mkH c.os.length c.os y)) (mι (mK ks) ι) F) ι3 F3 (toH (mkH c.os.length c.ro res.2)) w')
  (hv : VRel (toH (mkH c.os.length c.ro res.2)) ι3 F3 w' (toV (mkH c.os.length c.ro res.2).len (mkE c.rv res.1)) cv) :
  ∃ ι' F', RelH E ι' F' (toH (callH s.heap ks (mkH c.os.length c.ro res.2))) w' /\
   (∀ u v, Born (toH s.heap) (toV s.heap.len u) -> VRel (toH s.heap) ι F w (toV s.heap.len u) v -> VRel (toH (callH s.heap ks (mkH c.os.length c.ro res.2))) ι' F' w' (toV (callH s.heap ks (mkH c.os.length c.ro res.2)).len (scrub (nestF ks) u)) v) /\
   VRel (toH (callH s.heap ks (mkH c.os.length c.ro res.2))) ι' F' w' (toV (callH s.heap ks (mkH c.os.length c.ro res.2)).len (renE (outK ks s.heap.next) (mkE c.rv res.1))) cv /\ (isNil c.os = true -> Grown w w') := by
 obtain ⟨ks_len, hobjs⟩ := exOs_at _ _ _ hy
 obtain ⟨hdl, hdd⟩ := deadOk_out hd
 let Hl := mkH c.os.length c.os y
 let Hl' := mkH c.os.length c.ro res.2
 let H' := callH s.heap ks Hl'
 have pt : Part (toH s.heap) (toH Hl) (mK ks) := part_ok hy hn
 have hR : Roots ks s.heap Hl (mK ks) := roots_ok hy
 -- names
 have lt0 : ∀ {i k : Nat}, nthK ks i = some k -> k < s.heap.next := fun h => ltKs_out hlt h
 have objk : ∀ {j i : Nat}, ixK ks j = some i -> H'.obj j = renO (outK ks s.heap.next) (Hl'.obj i) := fun h => by simp only [H', callH, h]
 have objo : ∀ {j : Nat}, ixK ks j = none -> j < s.heap.next -> H'.obj j = scrubO (nestF ks) (s.heap.obj j) := fun {j} h h2 => by
  show (match ixK ks j with | some i => _ | none => bif Nat.blt j s.heap.next then _ else _) = _
  rw [h]
  dsimp only
  rw [blt_true h2]; rfl
 have objn : ∀ {j : Nat}, ixK ks j = none -> ¬ j < s.heap.next -> H'.obj j = renO (outK ks s.heap.next) (Hl'.obj (j - s.heap.next + ks.length)) := fun {j} h h2 => by
  show (match ixK ks j with | some i => _ | none => bif Nat.blt j s.heap.next then _ else _) = _
  rw [h]
  dsimp only
  rw [blt_false (Nat.le_of_not_lt h2)]; rfl
 have nnk : ∀ {j i : Nat} {p : List Nat}, ixK ks j = some i -> nK ks s.heap.next ⟨j, p⟩ = some ⟨i, p⟩ := fun h => by simp only [nK, h]
 have nno : ∀ {j : Nat} {p : List Nat}, ixK ks j = none -> j < s.heap.next -> nK ks s.heap.next ⟨j, p⟩ = none := fun h h2 => by simp only [nK, h, if_pos h2]
 have nnn : ∀ {j : Nat} {p : List Nat}, ixK ks j = none -> ¬ j < s.heap.next -> nK ks s.heap.next ⟨j, p⟩ = some ⟨j - s.heap.next + ks.length, p⟩ := fun h h2 => by simp only [nK, h, if_neg h2]
 have oldlt : ∀ {id : Nat} {p : List Nat}, (toH s.heap).slot ⟨id, p⟩ ≠ .unborn -> id < s.heap.next := fun h => Classical.byContradiction fun hc => h (hf.next ⟨_, _⟩ (Nat.le_of_not_lt hc))
 have outo : ∀ {i : Id}, nK ks s.heap.next i = none -> ixK ks i.k = none /\ i.k < s.heap.next := fun {i} h => by
  simp only [nK] at h
  cases hi : ixK ks i.k with
  | some x => rw [hi] at h; cases h
  | none =>
   rw [hi] at h
   simp only at h
   by_cases hl : i.k < s.heap.next
   ·exact ⟨rfl, hl⟩
   ·rw [if_neg hl] at h; cases h
 have nsome : ∀ {i x : Id}, nK ks s.heap.next i = some x -> H'.obj i.k = renO (outK ks s.heap.next) (Hl'.obj x.k) /\ x.p = i.p /\ ((x.k < ks.length /\ nthK ks x.k = some i.k) \/ (¬ i.k < s.heap.next /\ x.k = i.k - s.heap.next + ks.length)) := fun {i x} h => by
  cases hi : ixK ks i.k with
  | some z =>
   have := nnk (p := i.p) hi
   have h : nK ks s.heap.next ⟨i.k, i.p⟩ = some x := h
   rw [this] at h
   injection h with h; subst h
   exact ⟨objk hi, rfl, .inl ⟨nthK_lt (ixK_out hi), ixK_out hi⟩⟩
  | none =>
   by_cases hl : i.k < s.heap.next
   ·have h : nK ks s.heap.next ⟨i.k, i.p⟩ = some x := h
    rw [nno hi hl] at h; cases h
   ·have h : nK ks s.heap.next ⟨i.k, i.p⟩ = some x := h
    rw [nnn hi hl] at h
    injection h with h; subst h
    exact ⟨objn hi hl, rfl, .inr ⟨hl, rfl⟩⟩
 have slot_like : ∀ {i x : Id}, nK ks s.heap.next i = some x -> (toH Hl').slot x ≠ .unborn -> SlotLike ((toH Hl').slot x) ((toH H').slot i) := fun {i x} h hu => by
  obtain ⟨e1, e2, _⟩ := nsome h
  show SlotLike _ ((H'.obj i.k).slot H'.len i.k i.p)
  rw [e1, <- e2]
  exact ren_slots hu
 have root_in : ∀ {id i : Nat}, ixK ks id = some i -> (toH H').slot ⟨id, []⟩ = .dead \/ (SlotLike ((toH s.heap).slot ⟨id, []⟩) ((toH Hl).slot ⟨i, []⟩) /\ SlotLike ((toH Hl').slot ⟨i, []⟩) ((toH H').slot ⟨id, []⟩)) := fun {id i} h => by
  have hi := ixK_out h
  have hil : i < c.os.length := by rw [ks_len]; exact nthK_lt hi
  have hil2 : i < c.ro.length := Nat.lt_of_lt_of_le hil hdl
  have hu : (toH Hl').slot ⟨i, []⟩ ≠ .unborn := mkObj_root (l := c.ro) (y := res.2) hil2
  have sl := slot_like (i := ⟨id, []⟩) (nnk h) hu
  rcases hR.sm i id hi with hdead | ⟨q1, q2, q3⟩
  ·left
   -- the callee did not get it
   obtain ⟨o, ho, _⟩ := hobjs i hil
   have hod : o = .dead := by
    have hdead : (mkObj c.os y i).slot Hl.len i [] = .dead := hdead
    have key : ∀ (l : List OSh) (y : DO l) (j : Nat) (o : OSh), nthO l j = some o -> (mkObj l y j).slot Hl.len i [] = .dead -> o = .dead := by
     intro l
     induction l with
     | nil => intro y j o h; cases h
     | cons a l ih =>
      intro y j o h hdd
      cases j with
      | zero =>
       injection h with h; subst h
       cases a <;> simp only [mkObj, mkO, OD.slot, LV.at_nil] at hdd <;> first | rfl | cases hdd
      | succ j => exact ih y.2 j o h hdd
    exact key _ _ _ _ ho hdead
   subst hod
   show (H'.obj id).slot _ _ _ = _
   rw [objk h]
   show (renO _ (mkObj c.ro res.2 i)).slot _ _ _ = _
   rw [mkObj_dead (hdd i ho)]; rfl
  ·exact .inr ⟨q1, sl⟩
 have bk : Back (toH s.heap) (toH Hl) (toH Hl') (toH H') (mK ks) (nK ks s.heap.next) := by
  refine ⟨rfl, fun i hi => ?_, fun i hi his => ?_, fun i j x h1 h2 => ?_, fun i hi hp => ?_⟩
  ·have hi : s.heap.next + (c.ro.length - ks.length) <= i.k := hi
   have h1 : ixK ks i.k = none := by
    cases hx : ixK ks i.k with
    | none => rfl
    | some z => have := lt0 (ixK_out hx); omega
   show (H'.obj i.k).slot _ _ _ = _
   rw [objn h1 (by omega)]
   show (renO _ (mkObj c.ro res.2 (i.k - s.heap.next + ks.length))).slot _ _ _ = _
   rw [mkObj_out _ _ _ (by omega)]; rfl
  ·obtain ⟨h1, h2⟩ := outo hi
   refine ⟨fun x hx e => ?_, ?_⟩
   ·obtain ⟨a, p⟩ := x
    simp only [mK] at e
    cases ha : nthK ks a with
    | none => rw [ha] at e; cases e
    | some k =>
     rw [ha] at e
     injection e with e
     subst e
     exact ixK_none h1 a ha
   ·show SlotLike ((s.heap.obj i.k).slot s.heap.len i.k i.p) ((H'.obj i.k).slot H'.len i.k i.p)
    have his : ((H'.obj i.k).slot H'.len i.k i.p).is := his
    rw [objo h1 h2] at his ⊢
    refine scrub_slots fun hu => ?_
    rw [scrub_unborn.2 hu] at his; exact his
  ·obtain ⟨a1, a2, a3⟩ := nsome h1
   obtain ⟨b1, b2, b3⟩ := nsome h2
   obtain ⟨ik, ip⟩ := i
   obtain ⟨jk, jp⟩ := j
   have hp : ip = jp := a2.symm.trans b2
   subst hp
   have : ik = jk := by
    rcases a3 with ⟨q1, q2⟩ | ⟨q1, q2⟩ <;> rcases b3 with ⟨p1, p2⟩ | ⟨p1, p2⟩
    ·rw [q2] at p2; injection p2
    ·omega
    ·omega
    ·simp only at q1 q2 p1 p2; omega
   rw [this]
  ·by_cases hu : (toH s.heap).slot i = .unborn
   ·exact .inl hu
   ·right
    obtain ⟨j, p⟩ := i
    simp only at hp
    subst hp
    have hl := oldlt hu
    cases hx : ixK ks j with
    | none =>
     right; left
     refine ⟨nno hx hl, ?_⟩
     show SlotLike _ ((H'.obj j).slot H'.len j [])
     rw [objo hx hl]
     exact scrub_slots hu
    | some i =>
     rcases root_in hx with hdead | ⟨q1, q2⟩
     ·exact .inl hdead
     ·exact .inr (.inr ⟨⟨i, []⟩, nnk hx, mK_at (ixK_out hx), rfl, q1, q2⟩)
 let ι5 := ι4 (nK ks s.heap.next) ι ι3
 have CX : KCl (fun u u' => ∀ v, VRel (toH s.heap) ι F w u v -> VRel (toH H') ι5 F3 w' u' v) :=
  KCl.of (fun x v h => r3.ext (.t x) v h) (fun n g v h => r3.ext (.fp n g) v h)
 have CY : KCl (fun u u' => ∀ v, VRel (toH Hl') ι3 F3 w' u v -> VRel (toH H') ι5 F3 w' u' v) := KCl.of (fun x v h => h) (fun n g v h => h)
 -- names of the callee's
 have gn : ∀ {i j : Nat} {p : List Nat}, outK ks s.heap.next i = some j -> nK ks s.heap.next ⟨j, p⟩ = some ⟨i, p⟩ /\ H'.obj j = renO (outK ks s.heap.next) (Hl'.obj i) := fun {i j p} h => by
  simp only [outK] at h
  by_cases hi : i < ks.length
  ·rw [blt_true hi, cond_true] at h
   have := ixK_of hn h
   exact ⟨nnk this, objk this⟩
  ·rw [blt_false (Nat.le_of_not_lt hi), cond_false] at h
   injection h with h
   have h1 : ixK ks j = none := by
    cases hx : ixK ks j with
    | none => rfl
    | some z => have := lt0 (ixK_out hx); omega
   have e : j - s.heap.next + ks.length = i := by omega
   refine ⟨by rw [nnn h1 (by omega), e], by rw [objn h1 (by omega), e]⟩
 have leafY : ∀ {x i : Id}, nK ks s.heap.next i = some x -> (∀ rr cc v, VRel (toH Hl') ι3 F3 w' (.ptr x 0 rr cc) v -> VRel (toH H') ι5 F3 w' (.ptr i 0 rr cc) v) /\ (∀ rr cc v, VRel (toH Hl') ι3 F3 w' (.sref x 0 rr cc) v -> VRel (toH H') ι5 F3 w' (.sref i 0 rr cc) v) /\ ∀ v, VRel (toH Hl') ι3 F3 w' (.mref x) v -> VRel (toH H') ι5 F3 w' (.mref i) v := fun {x i} h => by
  have e4 : ι5 i = ι3 x := ι4_some h
  refine ⟨fun rr cc v ⟨a, b⟩ => ⟨a, ?_⟩, fun rr cc v ⟨a, b⟩ => ⟨a, ?_⟩, fun v ⟨a, b⟩ => ⟨a, ?_⟩⟩
  ·have hl := slot_like h (fun e => by rw [e] at b; exact b)
   cases hs : (toH H').slot i with
   | dead => trivial
   | mp _ _ => trivial
   | unborn => rw [hs] at hl; cases hs' : (toH Hl').slot x <;> rw [hs'] at hl <;> exact hl.elim
   | live o' =>
    rw [hs] at hl
    cases hs' : (toH Hl').slot x with
    | live o =>
     rw [hs'] at hl b
     obtain ⟨q1, q2, q3, q4⟩ := hl
     show 0 <= o'.ver /\ _
     rw [e4, q1, q3]; exact b
    | unborn => rw [hs'] at hl; exact hl.elim
    | dead => rw [hs'] at hl; exact hl.elim
    | mp _ _ => rw [hs'] at hl; exact hl.elim
  ·have hl := slot_like h (fun e => by rw [e] at b; exact b)
   cases hs : (toH H').slot i with
   | dead => trivial
   | mp _ _ => trivial
   | unborn => rw [hs] at hl; cases hs' : (toH Hl').slot x <;> rw [hs'] at hl <;> exact hl.elim
   | live o' =>
    rw [hs] at hl
    cases hs' : (toH Hl').slot x with
    | live o =>
     rw [hs'] at hl b
     obtain ⟨q1, q2, q3, q4⟩ := hl
     show 0 <= o'.ver /\ _
     rw [e4, q1, q2, q3, q4]; exact b
    | unborn => rw [hs'] at hl; exact hl.elim
    | dead => rw [hs'] at hl; exact hl.elim
    | mp _ _ => rw [hs'] at hl; exact hl.elim
  ·have hl := slot_like h (fun e => by rw [e] at b; exact b)
   cases hs : (toH H').slot i with
   | dead => trivial
   | live _ => trivial
   | unborn => rw [hs] at hl; cases hs' : (toH Hl').slot x <;> rw [hs'] at hl <;> exact hl.elim
   | mp _ _ =>
    rw [hs] at hl
    cases hs' : (toH Hl').slot x with
    | mp _ _ => rw [hs'] at b; show ∃ b, ι5 i = some b /\ _; rw [e4]; exact b
    | unborn => rw [hs'] at hl; exact hl.elim
    | dead => rw [hs'] at hl; exact hl.elim
    | live _ => rw [hs'] at hl; exact hl.elim
 have EY : ∀ u : EV, ∀ v, VRel (toH Hl') ι3 F3 w' (toV Hl'.len u) v -> VRel (toH H') ι5 F3 w' (toV H'.len (renE (outK ks s.heap.next) u)) v := fun u => CY.ren (len := Hl'.len) (len' := H'.len)
  (fun id p rr cc j hj => (leafY (gn (p := p) hj).1).1 rr cc) (fun id p rr cc j hj => (leafY (gn (p := p) hj).1).2.1 rr cc)
  (fun id p j hj => by show (H'.obj j).len p = (Hl'.obj id).len p; rw [(gn (p := p) hj).2, renO_len]) (fun id j hj => (leafY (gn (p := []) hj).1).2.2) u
 -- names of the caller's
 have leafX : ∀ {id : Nat} {p : List Nat}, (toH s.heap).slot ⟨id, p⟩ ≠ .unborn -> nestF ks id p = none -> (toH H').slot ⟨id, p⟩ = .dead \/ ((∀ ver rr cc v, VRel (toH s.heap) ι F w (.ptr ⟨id, p⟩ ver rr cc) v -> VRel (toH H') ι5 F3 w' (.ptr ⟨id, p⟩ ver rr cc) v) /\
   (∀ ver rr cc v, VRel (toH s.heap) ι F w (.sref ⟨id, p⟩ ver rr cc) v -> VRel (toH H') ι5 F3 w' (.sref ⟨id, p⟩ ver rr cc) v) /\ (∀ v, VRel (toH s.heap) ι F w (.mref ⟨id, p⟩) v -> VRel (toH H') ι5 F3 w' (.mref ⟨id, p⟩) v)) := fun {id p} hb hfn => by
  have hl := oldlt hb
  cases hx : ixK ks id with
  | none =>
   right
   have hsl : SlotLike ((toH s.heap).slot ⟨id, p⟩) ((toH H').slot ⟨id, p⟩) := by
    show SlotLike _ ((H'.obj id).slot H'.len id p)
    rw [objo hx hl]; exact scrub_slots hb
   exact keep_out r pt r3 (nno hx hl) hsl (fun his => (bk.out _ (nno hx hl) his).1)
  | some i =>
   have hp : p = [] := by
    cases p with
    | nil => rfl
    | cons a b => simp only [nestF, hx] at hfn; cases hfn
   subst hp
   rcases root_in hx with hdead | ⟨q1, q2⟩
   ·exact .inl hdead
   ·exact .inr (keep_in r r3 (nnk hx) (mK_at (ixK_out hx)) rfl q1 q2)
 have EX : ∀ u : EV, Born (toH s.heap) (toV s.heap.len u) -> ∀ v, VRel (toH s.heap) ι F w (toV s.heap.len u) v -> VRel (toH H') ι5 F3 w' (toV H'.len (scrub (nestF ks) u)) v := fun u hb => CX.scrub (H := toH s.heap) (len := s.heap.len) (len' := H'.len) (f := nestF ks)
  (fun id p rr cc hb hfn => by
   rcases leafX hb hfn with hdead | h
   ·exact fun v h => ⟨h.1, by rw [hdead]; trivial⟩
   ·exact h.1 0 rr cc)
  (fun id p rr cc hb hfn => by
   rcases leafX hb hfn with hdead | h
   ·exact fun v h => ⟨h.1, by rw [hdead]; trivial⟩
   ·exact h.2.1 0 rr cc)
  (fun id p hb hfn => by
   have hl := oldlt hb
   cases hx : ixK ks id with
   | none =>
    left
    exact EHeap.len_scrub (objo hx hl) p
   | some i =>
    have hp : p = [] := by
     cases p with
     | nil => rfl
     | cons a b => simp only [nestF, hx] at hfn; cases hfn
    subst hp
    rcases lenOk_out hlen (ixK_out hx) with e | e
    ·right
     rw [Nat.zero_add] at e
     intro n n' v h
     refine ⟨h.1, ?_⟩
     have : (toH H').slot ⟨id, []⟩ = .dead := by
      show (H'.obj id).slot _ _ _ = _
      rw [objk hx]
      show (renO _ (Hl'.obj i)).slot _ _ _ = _
      have e : Hl'.obj i = .dead := e
      rw [e]; rfl
     rw [this]; trivial
    ·left
     rw [Nat.zero_add] at e
     show (H'.obj id).len [] = _
     rw [objk hx, renO_len]
     exact e)
  (fun id hb hfn => by
   rcases leafX hb hfn with hdead | h
   ·exact fun v h => ⟨h.1, by rw [hdead]; trivial⟩
   ·exact h.2.2)
  (fun id p u h => by
   simp only [nestF] at h
   cases p with
   | nil => cases h
   | cons a b =>
    cases hx : ixK ks id <;> rw [hx] at h <;> first | (cases h; done) | (injection h with h; exact h.symm)) u hb
 refine ⟨ι5, F3, Back.rel r pt r3 bk (fun i o' hi ho => ?_) (fun i x o' hi ho => ?_) (fun i sb g' hi hm => ?_) (fun i x sb g' hi hm => ?_), fun u v hb h => EX u hb v h, EY _ _ hv, fun hn => ⟨r3.size, fun b hb => r3.kept b hb (by
  rintro ⟨id, his, _⟩
  have hz : mkObj c.os y id.k = .none := mkObj_out _ _ _ (by rw [isNil_out hn]; exact Nat.zero_le _)
  have e : (toH Hl).slot id = (mkObj c.os y id.k).slot Hl.len id.k id.p := rfl
  rw [e, hz] at his
  exact his)⟩⟩
 ·obtain ⟨h1, h2⟩ := outo hi
  obtain ⟨j, p⟩ := i
  have ho : (H'.obj j).slot H'.len j p = .live o' := ho
  have hobj := objo h1 h2
  -- an untouched object
  have kcell : ∀ (p : List Nat) (r c : Nat) (x : Cell), (∀ u, x = .ev u -> u.dat = true) -> Born (toH s.heap) (cellV s.heap.len j p r c x) -> ∀ v, VRel (toH s.heap) ι F w (cellV s.heap.len j p r c x) v -> VRel (toH H') ι5 F3 w' (cellV H'.len j p r c x) v := fun p r c x hd hx => by
   cases x with
   | ev u =>
    have := EX u hx
    have e : scrub (nestF ks) u = u := by
     have hd := hd u rfl
     cases u <;> first | (cases hd; done) | simp only [scrub]
    rw [e] at this
    exact this
   | own t e l =>
    intro v hv
    simp only [cellV] at hx hv ⊢
    have hfn : nestF ks j (p ++ [c, r]) = none := by
     simp only [nestF]
     cases p ++ [c, r] <;> simp [h1]
    rcases leafX hx hfn with hdead | h
    ·exact ⟨hv.1, by rw [hdead]; trivial⟩
    ·exact h.2.1 _ _ _ v hv
  rw [hobj] at ho
  cases hO : s.heap.obj j with
  | none => rw [hO] at ho; cases ho
  | dead => rw [hO] at ho; cases ho
  | lst v =>
   rw [hO] at ho
   simp only [scrubO, OD.slot] at ho
   cases hv : v.at p with
   | none => rw [hv] at ho; cases ho
   | some a =>
    rw [hv] at ho
    injection ho with ho; subst ho
    have hat : s.heap.at j p = some a := by simp only [EHeap.at, hO]; exact hv
    exact ⟨_, slot_lst hat, fun r hr c hc => kcell p r c _ (cellC_dat _ _ _) (hf.obj _ _ (slot_lst hat) r hr c hc)⟩
  | cells e l =>
   rw [hO] at ho
   cases p with
   | cons x y => cases ho
   | nil =>
    injection ho with ho; subst ho
    refine ⟨_, slot_cells hO, fun r hr c hc => ?_⟩
    have hc : c < l.length := by simpa only [scrubs_len] using hc
    have hr : r < 1 := hr
    have hbb := hf.obj _ _ (slot_cells hO) r hr c hc
    show ∀ v, VRel _ _ _ _ (toVs s.heap.len l c) v -> VRel _ _ _ _ (toVs H'.len (scrubs (nestF ks) l) c) v
    have hbb : Born (toH s.heap) (toVs s.heap.len l c) := hbb
    rw [toVs_eq] at hbb ⊢
    rw [toVs_eq]
    have e : (scrubs (nestF ks) l).getD c .un = scrub (nestF ks) (l.getD c .un) := by
     have : ∀ (l : List EV) (c : Nat), (scrubs (nestF ks) l).getD c .un = scrub (nestF ks) (l.getD c .un) := by
      intro l
      induction l with
      | nil => intro c; simp [scrubs, scrub]
      | cons a l ih => intro c; cases c with
       | zero => simp [scrubs]
       | succ c => simpa [scrubs] using ih c
     exact this l c
    rw [e]
    exact EX _ hbb
  | hole v q r c =>
   rw [hO] at ho
   simp only [scrubO, OD.slot] at ho
   split at ho
   ·cases ho
   ·rename_i hnn
    cases hv : v.at p with
    | none => rw [hv] at ho; cases ho
    | some a =>
     rw [hv] at ho
     injection ho with ho; subst ho
     have hl : (toH s.heap).slot ⟨j, p⟩ = .live (a.holed s.heap.len j p q r c) := by
      show (s.heap.obj j).slot _ _ _ = _
      rw [hO]; simp only [OD.slot, hv, if_neg hnn]
     refine ⟨_, hl, fun r' hr c' hc => ?_⟩
     have hbb := hf.obj _ _ hl r' hr c' hc
     simp only [LV.holed] at hbb ⊢
     split
     ·exact fun v _ => trivial
     ·rename_i hne
      rw [if_neg hne] at hbb
      exact kcell p r' c' _ (cellC_dat _ _ _) hbb
  | mp sb τ g =>
   rw [hO] at ho
   cases p <;> cases ho
 ·obtain ⟨e1, e2, _⟩ := nsome hi
  obtain ⟨j, p⟩ := i
  obtain ⟨xk, xp⟩ := x
  simp only at e1 e2
  subst e2
  have ho : (H'.obj j).slot H'.len j xp = .live o' := ho
  rw [e1] at ho
  have hgx : ∀ q, nK ks s.heap.next ⟨j, q⟩ = some ⟨xk, q⟩ := fun q => by
   simp only [nK] at hi ⊢
   cases hx : ixK ks j with
   | some z => rw [hx] at hi; injection hi with hi; injection hi with hi _; subst hi; rfl
   | none =>
    rw [hx] at hi
    simp only at hi ⊢
    by_cases hl : j < s.heap.next
    ·rw [if_pos hl] at hi; cases hi
    ·rw [if_neg hl] at hi ⊢
     injection hi with hi; injection hi with hi _; rw [hi]
  obtain ⟨a, q1, q2, q3, q4, q5⟩ := ren_live CY (k := xk) ho EY (fun q n => (leafY (hgx q)).2.1 0 n)
  exact ⟨a, q1, q2, q3, q4, q5⟩
 ·obtain ⟨h1, h2⟩ := outo hi
  obtain ⟨j, p⟩ := i
  have hm : (H'.obj j).slot H'.len j p = .mp sb g' := hm
  rw [objo h1 h2] at hm
  obtain ⟨q1, q2⟩ := scrub_mp (len := s.heap.len) hm
  refine ⟨g', q1, fun key => ?_⟩
  rcases q2 key with e | ⟨y, e⟩
  ·exact .inl ⟨e, e⟩
  ·exact .inr ⟨_, _, e, e, fun v h => CX.t y v h⟩
 ·obtain ⟨e1, e2, _⟩ := nsome hi
  obtain ⟨j, p⟩ := i
  obtain ⟨xk, xp⟩ := x
  simp only at e1 e2
  subst e2
  have hm : (H'.obj j).slot H'.len j xp = .mp sb g' := hm
  rw [e1] at hm
  obtain ⟨τ, g, m1, m2, m3⟩ := slot_mp hm
  subst m2
  have hO : Hl'.obj xk = .mp sb τ g := by
   cases hO : Hl'.obj xk <;> rw [hO] at m1 <;> first | (cases m1; done) | (simp only [renO] at m1; exact m1)
  refine ⟨g', by show (Hl'.obj xk).slot _ _ _ = _; rw [hO, m3]; rfl, fun key => ?_⟩
  subst m3
  dsimp only
  split
  ·exact .inr ⟨_, _, rfl, rfl, fun v h => h⟩
  ·exact .inl ⟨rfl, rfl⟩
theorem call_rel {E : Env} {ι : Id -> Option Nat} {F : Nat -> Prop} {s : ESt} {w : World} (r : RelH E ι F (toH s.heap) w) (hf : Fair s) (c : Ctr P) {ks : List (Option Nat)} (hn : nodK ks = true) (hlt : ltKs s.heap.next ks = true)
  (hq : seqT 0 c.ar = true) (hd : deadOk c.os c.ro = true) {us : List EV} {x : DT c.ar} {y : DO c.os} (hx : exT ks (nthE us) c.ar = some x) (hy : exOs ks s.heap c.os ks = some y) {res : c.rv.D × DO c.ro} (hF : c.F x y = some res)
  (hlen : lenOk s.heap (mkH c.os.length c.ro res.2) ks 0 = true) {cargs : Array Value} (hsz : c.ar.length = cargs.size) (ha : ∀ j, j < cargs.size -> VRel (toH s.heap) ι F w (toV s.heap.len (nthE us j)) (cargs.getD j undef)) :
  Calls P c.f cargs w fun e w' => ∃ cv ι' F', e = .returned cv /\ RelH E ι' F' (toH (callH s.heap ks (mkH c.os.length c.ro res.2))) w' /\
   (∀ u v, Born (toH s.heap) (toV s.heap.len u) -> VRel (toH s.heap) ι F w (toV s.heap.len u) v -> VRel (toH (callH s.heap ks (mkH c.os.length c.ro res.2))) ι' F' w' (toV (callH s.heap ks (mkH c.os.length c.ro res.2)).len (scrub (nestF ks) u)) v) /\
   VRel (toH (callH s.heap ks (mkH c.os.length c.ro res.2))) ι' F' w' (toV (callH s.heap ks (mkH c.os.length c.ro res.2)).len (renE (outK ks s.heap.next) (mkE c.rv res.1))) cv /\ (isNil c.os = true -> Grown w w') := by
 let Hl := mkH c.os.length c.os y
 have pt : Part (toH s.heap) (toH Hl) (mK ks) := part_ok hy hn
 have hR : Roots ks s.heap Hl (mK ks) := roots_ok hy
 have r2 := pt.rel r
 have hargs : ∀ j, j < (mkArgs c.ar x).length -> VRel (toH Hl) (mι (mK ks) ι) F w (toV Hl.len (nthE (mkArgs c.ar x) j)) (cargs.getD j undef) := fun j hj => by
  rw [mkArgs_len] at hj
  rw [seqT_env hq j, Nat.zero_add]
  have := exT_ok (Z := fun _ => False) hR c.ar x hx j _ _ _ _ _ r (ha j (by omega))
  rw [FZ_none] at this
  exact this
 refine ((c.ok x y res hF).out _ _ _ _ cargs r2 (by rw [mkArgs_len]; exact hsz) hargs).mono fun e w' ⟨v, ι3, F3, Hx, cv, h1, r3, hv, h4, h5⟩ => ?_
 subst h4
 subst h5
 obtain ⟨ι', F', q1, q2, q3, q4⟩ := call_back r hf c hn hlt hd hy hlen r3 hv
 exact ⟨cv, ι', F', h1, q1, q2, q3, q4⟩
end
end Go.Abs
