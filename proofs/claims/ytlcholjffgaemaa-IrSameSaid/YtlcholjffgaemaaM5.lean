/-
Texts of the proof, part 5: K2 J1 J2 J3 J4 H7 J5.
No statement of the program is proved here.
-/
import Derived.Test.YtlcholjffgaemaaM4
import Derived.Laws.StructEq
import Derived.Laws.Slices
import Derived.MapKept
import Derived.Laws.NewFold

set_option linter.unusedVariables false
set_option linter.unusedSimpArgs false
set_option linter.unusedSectionVars false
namespace Go.Abs
open Go
variable {P : Program}
def T.ff : T → Prop
  | .sl _ n _ => n = 0
  | .ifc _ x => T.ff x
  | _ => True
def V.ff : V → Prop
  | .t x => T.ff x
  | .fp _ _ => False
  | .agg n g => ∀ j, j < n → V.ff (g j)
  | .tup n g => ∀ j, j < n → V.ff (g j)
  | .fn _ n g => ∀ j, j < n → V.ff (g j)
  | _ => True
theorem Reads.ff {F F' : Nat → Prop} {w : World} : ∀ {x : T} {v : Value}, T.ff x → Reads F w x v → Reads F' w x v := by
  intro x
  induction x with
  | any => exact fun _ h => h
  | bool b => exact fun _ h => h
  | int k n => exact fun _ h => h
  | str s => exact fun _ h => h
  | nilI => exact fun _ h => h
  | ifc t x ih => rintro v hf ⟨c, h1, h2⟩; exact ⟨c, h1, ih hf h2⟩
  | sl sz n get ih =>
    rintro v hf ⟨A, cap, h1, h2, h3, h4⟩
    have hf : n = 0 := hf
    exact ⟨A, cap, h1, h2, h3, fun hn => by omega⟩
theorem VRel.ff {H : Heap} {ι : Id → Option Nat} {F F' : Nat → Prop} {w : World} : ∀ {u : V} {v : Value}, V.ff u → VRel H ι F w u v → VRel H ι F' w u v := by
  intro u
  induction u with
  | t x => exact fun hf h => Reads.ff hf h
  | fp m g => exact fun hf _ => hf.elim
  | agg n g ih => rintro v hf ⟨cs, h1, h2, h3⟩; exact ⟨cs, h1, h2, fun j hj => by obtain ⟨c, a, p, b⟩ := h3 j hj; exact ⟨c, a, p, ih j (hf j hj) b⟩⟩
  | tup n g ih => rintro v hf ⟨cs, h1, h2, h3⟩; exact ⟨cs, h1, h2, fun j hj => by obtain ⟨c, a, b⟩ := h3 j hj; exact ⟨c, a, ih j (hf j hj) b⟩⟩
  | fn f n g ih => rintro v hf ⟨cs, h1, h2, h3⟩; exact ⟨cs, h1, h2, fun j hj => by obtain ⟨c, a, b⟩ := h3 j hj; exact ⟨c, a, ih j (hf j hj) b⟩⟩
  | _ => exact fun _ h => h
structure Heap.ff (H : Heap) : Prop where
  obj : ∀ i o, H.slot i = .live o → ∀ r, r < o.n → ∀ c, c < o.sz → V.ff (o.get r c)
  mp : ∀ i s g, H.slot i = .mp s g → ∀ k u, g k = some u → V.ff u
theorem RelH.unlend {w w' : World} {Hl H' : Heap} {ι' ι3 : Id → Option Nat} {F F3 L : Nat → Prop} (r3 : RelH (callEnv w Hl ι' (fun b => F b ∨ L b)) ι3 F3 H' w') (hFL : ∀ b, F b → ¬ L b) (hF : ∀ b, F b → b < w.heap.size ∧ ¬ Blocks Hl ι' b) (hff : H'.ff) :
    RelH (callEnv w Hl ι' F) ι3 (fun b => F3 b ∧ ¬ L b) H' w' := by
  have up : ∀ b, F b → F3 b ∧ ¬ L b := fun b hb => by
    refine ⟨?_, hFL b hb⟩
    obtain ⟨b', o', e1, e2, _⟩ := r3.ext (.fp 0 (fun _ => .any)) (.pointer (some ⟨b, 0, none⟩)) ⟨b, 0, rfl, .inl hb, fun j hj => absurd hj (Nat.not_lt_zero _)⟩
    injection e1 with e1; injection e1 with e1; injection e1 with e1
    subst e1; exact e2
  have hw : ∀ b, F b → w'.heap[b]? = w.heap[b]? := fun b hb => r3.kept b (hF b hb).1 (hF b hb).2
  refine ⟨r3.os, r3.tape, r3.output, r3.size, r3.kept, fun i o h => ?_, fun i s g h => ?_, r3.inj, fun i b h hi hb => r3.nofr i b h hi hb.1, r3.own, r3.lt, fun b hb => r3.frlt b hb.1, fun b hb => ?_, r3.next, ?_, r3.lo⟩
  · obtain ⟨h1, h2⟩ := r3.obj i o h
    refine ⟨h1, ?_⟩
    cases hk : ι3 i with
    | none => rw [hk] at h2; exact h2
    | some b =>
      rw [hk] at h2
      obtain ⟨cur, g1, g2, g3⟩ := h2
      exact ⟨cur, g1, g2, fun r hr c hc => by obtain ⟨x, a, p, q⟩ := g3 r hr c hc; exact ⟨x, a, p, VRel.ff (hff.obj i o h r hr c hc) q⟩⟩
  · obtain ⟨b, es, clock, g1, g2, g3, g4⟩ := r3.mapo i s g h
    refine ⟨b, es, clock, g1, g2, g3, fun k hk => ?_⟩
    have := g4 k hk
    cases hg : g k with
    | none => rw [hg] at this; exact this
    | some u =>
      rw [hg] at this
      obtain ⟨n, e, a, b, c⟩ := this
      exact ⟨n, e, a, b, VRel.ff (hff.mp i s g h k u hg) c⟩
  · rcases r3.frin b hb.1 with (h | h) | h | h
    · exact .inl h
    · exact absurd h hb.2
    · exact .inr (.inl h)
    · exact .inr (.inr h)
  · show Ext (rootsH Hl) ι' F w H' ι3 (fun b => F3 b ∧ ¬ L b) w'
    intro u
    induction u with
    | un => exact fun _ _ => trivial
    | und => exact fun _ h => h
    | t x => exact fun v h => Reads.mono up hw x v h
    | nils => exact fun _ h => h
    | nilp => exact fun _ h => h
    | nilm => exact fun _ h => h
    | nilf => exact fun _ h => h
    | ptr id ver r c => exact fun v h => r3.ext (.ptr id ver r c) v h
    | sref id ver r n => exact fun v h => r3.ext (.sref id ver r n) v h
    | mref id => exact fun v h => r3.ext (.mref id) v h
    | fp m g =>
      rintro v ⟨b, o, h1, h2, h3⟩
      refine ⟨b, o, h1, up b h2, fun j hj => ?_⟩
      obtain ⟨c, hc1, hc2⟩ := h3 j hj
      refine ⟨c, ?_, Reads.mono up hw _ _ hc2⟩
      unfold World.cell? at hc1 ⊢
      simp only at hc1 ⊢
      rw [hw b h2]
      exact hc1
    | fn f n cap ih => rintro v ⟨cs, h1, h2, h3⟩; exact ⟨cs, h1, h2, fun j hj => by obtain ⟨c, a, b⟩ := h3 j hj; exact ⟨c, a, ih j _ b⟩⟩
    | agg n get ih => rintro v ⟨cs, h1, h2, h3⟩; exact ⟨cs, h1, h2, fun j hj => by obtain ⟨c, a, p, b⟩ := h3 j hj; exact ⟨c, a, p, ih j _ b⟩⟩
    | tup n get ih => rintro v ⟨cs, h1, h2, h3⟩; exact ⟨cs, h1, h2, fun j hj => by obtain ⟨c, a, b⟩ := h3 j hj; exact ⟨c, a, ih j _ b⟩⟩
section
variable [SU] [Codes]
def DatOk (τ τ' : Ty) (f : τ.D → τ'.D) : Prop := ∀ (H : EHeap) (id : Nat) (p : List Nat) (e : TypeId) (l : List τ.D), H.at id p = some ⟨e, τ, l⟩ → ∀ (E : Env) (ι : Id → Option Nat) (F : Nat → Prop) (w : World) (v : Value), RelH E ι F (toH H) w →
  VRel (toH H) ι F w (.sref ⟨id, p⟩ 0 0 l.length) v → Reads (fun b => F b ∨ ∃ q, ((toH H).slot ⟨id, q⟩).is ∧ ι ⟨id, q⟩ = some b) w (encL τ' (l.map f)) v
theorem DatOk.of {τ τ' : Ty} {f : τ.D → τ'.D} (hsz : τ'.sz = τ.sz) (hc : ∀ x c, c < τ.sz → (∃ u, cellC τ x c = .ev u ∧ ∀ len, toV len u = .t (encC τ' (f x) c)) ∨
    ∃ t e l e' g, cellC τ x c = .own t e l ∧ DatOk e e' g ∧ encC τ' (f x) c = encL e' (l.map g)) : DatOk τ τ' f := by
  intro H id p e l hat E ι F w v r ⟨h0, h1⟩
  have hlive := slot_lst hat
  rw [hlive] at h1
  obtain ⟨hn, A, cap, g1, g2, g3⟩ := h1.2 rfl
  obtain ⟨o1, o2⟩ := r.obj _ _ hlive
  refine ⟨A, cap, by rw [List.length_map]; exact g1, by rw [List.length_map]; exact g2, by rw [List.length_map]; exact o1, fun hpos => ?_⟩
  rw [List.length_map] at hpos
  obtain ⟨b, cur, p1, p2, p3, p4⟩ := g3 (by omega)
  rw [p1] at o2
  obtain ⟨cur', q1, q2, q3⟩ := o2
  rw [p3] at q1
  injection q1 with q1
  injection q1 with q1
  subst q1
  refine ⟨b, 0, by rw [p2, Nat.zero_mul], .inr ⟨p, by rw [hlive]; trivial, p1⟩, fun i hi j hj => ?_⟩
  rw [List.length_map] at hi
  rw [hsz] at hj
  obtain ⟨c', r1, r2, r3⟩ := q3 i hi j hj
  refine ⟨c', ?_, ?_⟩
  · rw [Nat.zero_add, hsz]
    simp [World.cell?, p3]; exact r1
  · have er : (l.map f).getD i τ'.z = f (l.getD i τ.z) := by simp [List.getD_eq_getElem?_getD, hi]
    show Reads _ w (encC τ' ((l.map f).getD i τ'.z) j) c'
    rw [er]
    have r3 : VRel (toH H) ι F w (cellV H.len id p i j (cellC τ (l.getD i τ.z) j)) c' := r3
    rcases hc (l.getD i τ.z) j hj with ⟨u, e1, e2⟩ | ⟨t, e', l', τ2, g, e1, e2, e3⟩
    · rw [e1] at r3
      simp only [cellV] at r3
      rw [e2] at r3
      exact Reads.mono (fun b hb => .inl hb) (fun _ _ => rfl) _ _ r3
    · rw [e1] at r3
      have hk : H.at id (p ++ [j, i]) = some ⟨t, e', l'⟩ := by
        rw [EHeap.at_append hat, LV.at_one]
        exact LV.kid_of e1
      rw [e3]
      exact e2 H id (p ++ [j, i]) t l' hk E ι F w c' r r3
theorem DatOk.fro {τ : Ty} (h : froT τ = true) : DatOk τ τ (fun x => x) := DatOk.of rfl fun x c hc => by
  obtain ⟨u, e1, e2⟩ := cellC_enc τ x c h
  exact .inl ⟨u, e1, fun len => e2 hc len⟩
structure DatT (i : Nat) where
  j : Nat
  f : SU.D i → SU.D j
class Dats where
  d : (i : Nat) → Option (DatT i)
  ok : ∀ i x, d i = some x → DatOk (.st i) (.st x.j) x.f
variable [Dats]
def datE (v : LV) : EV := match v with
  | ⟨_, .st i, l⟩ => bif Codes.fro i then .fz (.st i) l else (match Dats.d i with
    | some x => .fz (.st x.j) (l.map x.f)
    | none => .un)
  | ⟨_, τ, l⟩ => bif froT τ then .fz τ l else .un
theorem datE_ok {H : EHeap} {id : Nat} {p : List Nat} {v : LV} (hat : H.at id p = some v) {E : Env} {ι : Id → Option Nat} {F : Nat → Prop} {w : World} {c : Value} (r : RelH E ι F (toH H) w)
    (h : VRel (toH H) ι F w (.sref ⟨id, p⟩ 0 0 v.l.length) c) {len : Len} {H' : Heap} {ι' : Id → Option Nat} {F' : Nat → Prop} (hF : ∀ b, (F b ∨ ∃ q, ((toH H).slot ⟨id, q⟩).is ∧ ι ⟨id, q⟩ = some b) → F' b) : VRel H' ι' F' w (toV len (datE v)) c := by
  have key : ∀ {τ τ' : Ty} {f : τ.D → τ'.D} {e : TypeId} {l : List τ.D}, DatOk τ τ' f → H.at id p = some ⟨e, τ, l⟩ → VRel (toH H) ι F w (.sref ⟨id, p⟩ 0 0 l.length) c → VRel H' ι' F' w (toV len (.fz τ' (l.map f))) c := fun hd ha hv => by
    simp only [toV]
    exact Reads.mono hF (fun _ _ => rfl) _ _ (hd H id p _ _ ha E ι F w c r hv)
  have flat : ∀ {τ : Ty} {e : TypeId} {l : List τ.D}, H.at id p = some ⟨e, τ, l⟩ → VRel (toH H) ι F w (.sref ⟨id, p⟩ 0 0 l.length) c → VRel H' ι' F' w (toV len (bif froT τ then .fz τ l else .un)) c := fun {τ e l} ha hv => by
    cases hf : froT τ with
    | false => simp only [cond_false, toV]; exact trivial
    | true =>
      have := key (f := fun x => x) (DatOk.fro hf) ha hv
      rw [List.map_id'] at this
      simp only [cond_true]; exact this
  obtain ⟨e, τ, l⟩ := v
  cases τ with
  | st i =>
    simp only [datE]
    cases hf : Codes.fro i with
    | true =>
      have := flat hat h
      have hf' : froT (.st i) = true := hf
      rw [hf'] at this
      exact this
    | false =>
      simp only [cond_false]
      cases hd : Dats.d i with
      | none => simp only [toV]; exact trivial
      | some x => exact key (Dats.ok i x hd) hat h
  | bool => exact flat hat h
  | int k => exact flat hat h
  | str => exact flat hat h
  | sl e' => exact flat hat h
  | ol t e' => exact flat hat h
def lendF (H : EHeap) (ks : List (Option Nat)) : Nat → List Nat → Option EV := fun id p => match ixK ks id with
  | some _ => none
  | none => some (match H.at id p with
    | some v => datE v
    | none => .un)
def lendH (H : EHeap) (ks : List (Option Nat)) : EHeap := { next := H.next, lo := H.lo, md := H.md, obj := fun j => match ixK ks j with
  | some _ => scrubO (lendF H ks) (H.obj j)
  | none => bif Nat.blt j H.next then .dead else .none }
def lentM (ks : List (Option Nat)) : Id → Option Id := fun i => match ixK ks i.k with
  | some _ => some i
  | none => none
def lentZ (ks : List (Option Nat)) : Id → Prop := fun i => ixK ks i.k = none
theorem lend_scrub {s : ESt} (hf : Fair s) (ks : List (Option Nat)) : ScrubOk (lendF s.heap ks) s.heap (toH s.heap) (lendH s.heap ks) (lentM ks) (lentZ ks) := by
  have hobj : ∀ j i, ixK ks j = some i → (lendH s.heap ks).obj j = scrubO (lendF s.heap ks) (s.heap.obj j) := fun j i h => by simp only [lendH, h]
  refine ⟨fun id p u h => ?_, fun id p h hb => ?_, fun id p h hb => ?_⟩
  · simp only [lendF] at h
    cases hx : ixK ks id with
    | some i => rw [hx] at h; cases h
    | none =>
      rw [hx] at h
      injection h with h
      cases hat : s.heap.at id p with
      | none => rw [hat] at h; subst h; simp only [toV]; exact KG.un
      | some v =>
        rw [hat] at h
        subst h
        intro E ι F w c r hv
        simp only [toV, EHeap.len_at hat] at hv
        exact datE_ok hat r hv (fun b hb => hb.imp (fun h => h) fun ⟨q, q1, q2⟩ => ⟨⟨id, q⟩, hx, q1, q2⟩)
  · simp only [lendF] at h
    cases hx : ixK ks id with
    | none => rw [hx] at h; cases h
    | some i =>
      refine .inr ⟨?_, by simp only [lentM, hx]⟩
      show SlotLike _ (((lendH s.heap ks).obj id).slot _ id p)
      rw [hobj id i hx]
      exact scrub_slots hb
  · simp only [lendF] at h
    cases hx : ixK ks id with
    | none => rw [hx] at h; cases h
    | some i => exact EHeap.len_scrub (hobj id i hx) p
theorem lend_gen {s : ESt} (hf : Fair s) (ks : List (Option Nat)) : Gen (toH s.heap) (toH (lendH s.heap ks)) (lentM ks) (lentZ ks) := by
  have hobj : ∀ j i, ixK ks j = some i → (lendH s.heap ks).obj j = scrubO (lendF s.heap ks) (s.heap.obj j) := fun j i h => by simp only [lendH, h]
  have hno : ∀ j p, ixK ks j = none → ((toH (lendH s.heap ks)).slot ⟨j, p⟩ = .dead) ∨ ((toH (lendH s.heap ks)).slot ⟨j, p⟩ = .unborn ∧ s.heap.next ≤ j) := fun j p h => by
    show ((lendH s.heap ks).obj j).slot _ j p = .dead ∨ (((lendH s.heap ks).obj j).slot _ j p = .unborn ∧ _)
    simp only [lendH, h]
    by_cases hl : j < s.heap.next
    · rw [blt_true hl]; exact .inl rfl
    · rw [blt_false (Nat.le_of_not_lt hl)]; exact .inr ⟨rfl, Nat.le_of_not_lt hl⟩
  refine Gen.scrub (fun j => ixK ks j = none) (lend_scrub hf ks) hf.obj (fun j hj => ?_) (fun i hi o' ho' => ?_) (fun i hi sb g' hm => ?_) (fun i j x hi h1' h2' e1 e2 => ?_) rfl (fun i hi => ?_) (fun i hi hil hip => ?_)
  · cases hx : ixK ks j with
    | none => exact absurd hx hj
    | some i => exact ⟨fun p => by simp only [lendF, hx], hobj j i hx, fun p => by simp only [lentM, hx], fun p h => (by have h : ixK ks j = none := h; rw [hx] at h; cases h), fun p => rfl⟩
  · obtain ⟨j, p⟩ := i
    rcases hno j p hi with h | ⟨h, _⟩ <;> rw [h] at ho' <;> cases ho'
  · obtain ⟨j, p⟩ := i
    rcases hno j p hi with h | ⟨h, _⟩ <;> rw [h] at hm <;> cases hm
  · obtain ⟨j', p⟩ := i
    rcases hno j' p hi with h | ⟨h, _⟩ <;> rw [h] at h1' <;> exact h1'.elim
  · obtain ⟨j, p⟩ := i
    have hi : s.heap.next ≤ j := hi
    cases hx : ixK ks j with
    | none =>
      rcases hno j p hx with h | ⟨h, _⟩
      · exfalso
        have h : ((lendH s.heap ks).obj j).slot _ j p = .dead := h
        simp only [lendH, hx] at h
        rw [blt_false hi] at h
        cases h
      · exact h
    | some x =>
      show ((lendH s.heap ks).obj j).slot _ j p = .unborn
      rw [hobj j x hx, scrub_unborn (len := s.heap.len)]
      exact hf.next ⟨j, p⟩ hi
  · obtain ⟨j, p⟩ := i
    rcases hno j p hi with h | ⟨h, h2⟩
    · exact .inr (.inl h)
    · exact .inl (hf.next ⟨j, p⟩ h2)
theorem lent_ι {ι : Id → Option Nat} {ks : List (Option Nat)} (hn : nodK ks = true) : mι (mK ks) (mι (lentM ks) ι) = mι (mK ks) ι := by
  funext i
  unfold mι mK
  cases h : nthK ks i.k with
  | none => rfl
  | some k =>
    simp only [lentM]
    rw [ixK_of hn h]
structure FFok (rv : Sh) (ro : List OSh) (n : Nat) (r : rv.D × DO ro) : Prop where
  v : V.ff (toV (mkH n ro r.2).len (mkE rv r.1))
  h : Heap.ff (toH (mkH n ro r.2))
theorem lend_rel {E : Env} {ι : Id → Option Nat} {F : Nat → Prop} {s : ESt} {w : World} (r : RelH E ι F (toH s.heap) w) (hf : Fair s) (c : Ctr P) {ks : List (Option Nat)} (hn : nodK ks = true) (hlt : ltKs s.heap.next ks = true)
    (hq : seqT 0 c.ar = true) (hd : deadOk c.os c.ro = true) {us : List EV} {x : DT c.ar} {y : DO c.os} (hx : exT ks (nthE (scrubs (lendF s.heap ks) us)) c.ar = some x) (hy : exOs ks s.heap c.os ks = some y) (hyk : exOs ks (lendH s.heap ks) c.os ks = some y)
    {res : c.rv.D × DO c.ro} (hF : c.F x y = some res) (hff : FFok c.rv c.ro c.os.length res)
    (hlen : lenOk s.heap (mkH c.os.length c.ro res.2) ks 0 = true) {cargs : Array Value} (hsz : c.ar.length = cargs.size) (ha : ∀ j, j < cargs.size → Born (toH s.heap) (toV s.heap.len (nthE us j)) ∧ VRel (toH s.heap) ι F w (toV s.heap.len (nthE us j)) (cargs.getD j undef)) :
    Calls P c.f cargs w fun e w' => ∃ cv ι' F', e = .returned cv ∧ RelH E ι' F' (toH (callH s.heap ks (mkH c.os.length c.ro res.2))) w' ∧
      (∀ u v, Born (toH s.heap) (toV s.heap.len u) → VRel (toH s.heap) ι F w (toV s.heap.len u) v → VRel (toH (callH s.heap ks (mkH c.os.length c.ro res.2))) ι' F' w' (toV (callH s.heap ks (mkH c.os.length c.ro res.2)).len (scrub (nestF ks) u)) v) ∧
      VRel (toH (callH s.heap ks (mkH c.os.length c.ro res.2))) ι' F' w' (toV (callH s.heap ks (mkH c.os.length c.ro res.2)).len (renE (outK ks s.heap.next) (mkE c.rv res.1))) cv ∧ (isNil c.os = true → Grown w w') := by
  let Hl := mkH c.os.length c.os y
  have sc := lend_scrub hf ks
  have rk := Gen.rel r (lend_gen hf ks)
  have pk : Part (toH (lendH s.heap ks)) (toH Hl) (mK ks) := part_ok hyk hn
  have hR : Roots ks (lendH s.heap ks) Hl (mK ks) := roots_ok hyk
  have pt : Part (toH s.heap) (toH Hl) (mK ks) := part_ok hy hn
  have r2 := pk.rel rk
  have r20 := pt.rel r
  have hargs : ∀ j, j < (mkArgs c.ar x).length → VRel (toH Hl) (mι (mK ks) (mι (lentM ks) ι)) (FZ (toH s.heap) ι (lentZ ks) F) w (toV Hl.len (nthE (mkArgs c.ar x) j)) (cargs.getD j undef) := fun j hj => by
    rw [mkArgs_len] at hj
    rw [seqT_env hq j, Nat.zero_add]
    obtain ⟨hb, hv⟩ := ha j (by omega)
    have e : nthE (scrubs (lendF s.heap ks) us) j = scrub (lendF s.heap ks) (nthE us j) := by
      have : ∀ (l : List EV) (j : Nat), nthE (scrubs (lendF s.heap ks) l) j = scrub (lendF s.heap ks) (nthE l j) := by
        intro l
        induction l with
        | nil => intro j; simp [scrubs, nthE, scrub]
        | cons a l ih => intro j; cases j with
          | zero => simp [scrubs, nthE]
          | succ j => simpa [scrubs, nthE] using ih j
      exact this us j
    have h1 := sc.keeps (nthE us j) hb E ι F w _ r hv
    rw [← e] at h1
    have := exT_ok (Z := fun _ => False) hR c.ar x hx j _ _ _ _ _ rk h1
    rw [FZ_none] at this
    exact this
  refine ((c.ok x y res hF).out _ _ _ _ cargs r2 (by rw [mkArgs_len]; exact hsz) hargs).mono fun e w' ⟨v, ι3, F3, Hx, cv, h1, r3, hv, h4, h5⟩ => ?_
  subst h4
  subst h5
  have r3 : RelH (callEnv w (toH Hl) (mι (mK ks) ι) (fun b => F b ∨ ∃ i, lentZ ks i ∧ ((toH s.heap).slot i).is ∧ ι i = some b)) ι3 F3 (toH (mkH c.os.length c.ro res.2)) w' := by
    have := r3
    rw [lent_ι hn] at this
    exact this
  have r3' := r3.unlend (fun b hb ⟨i, _, hi, hib⟩ => r.nofr i b hi hib hb) (fun b hb => ⟨r.frlt b hb, fun ⟨i, hi, hib⟩ => r20.nofr i b hi hib hb⟩) hff.h
  obtain ⟨ι', F', q1, q2, q3, q4⟩ := call_back r hf c hn hlt hd hy hlen r3' (VRel.ff hff.v hv)
  exact ⟨cv, ι', F', h1, q1, q2, q3, q4⟩
class FFs where
  st : Nat → Bool
  ok : ∀ i, st i = true → Codes.fro i = true ∧ ∀ (x : SU.D i) c, c < SU.sz i → T.ff (SU.enc i x c)
variable [FFs]
def ffTy : Ty → Bool
  | .bool => true
  | .int _ => true
  | .str => true
  | .st i => FFs.st i
  | .sl _ => false
  | .ol _ e => ffTy e
def ffSh : Sh → Bool
  | .un => true
  | .b => true
  | .i _ => true
  | .s => true
  | .fz _ => false
  | .st n => FFs.st n
  | .fp _ _ => false
  | .nils => true
  | .nilp => true
  | .nilm => true
  | .nilf => true
  | .nili => true
  | .ptr _ _ => true
  | .rptr _ _ => true
  | .full _ => true
  | .mref _ => true
  | .agg l => ffShs l
  | .tup l => ffShs l
  | .fn _ l => ffShs l
where ffShs : List Sh → Bool
  | [] => true
  | a :: l => ffSh a && ffShs l
theorem ffTy_own {τ : Ty} (h : ffTy τ = true) {x : τ.D} {c : Nat} {t : TypeId} {e : Ty} {l : List e.D} (hc : cellC τ x c = .own t e l) : ffTy e = true := by
  cases τ with
  | st i => obtain ⟨u, e1, _⟩ := Codes.cell_ok i x c (FFs.ok i h).1; simp only [cellC] at hc; rw [e1] at hc; cases hc
  | ol t' e' => cases c with
    | zero => simp only [cellC] at hc; injection hc with h1 h2; subst h2; exact h
    | succ c => cases hc
  | bool => cases c <;> cases hc
  | int k => cases c <;> cases hc
  | str => cases c <;> cases hc
  | sl e' => cases h
theorem ffTy_ev {τ : Ty} (h : ffTy τ = true) {x : τ.D} {c : Nat} {u : EV} (hs : c < τ.sz) (hc : cellC τ x c = .ev u) (len : Len) : V.ff (toV len u) := by
  cases τ with
  | st i =>
    obtain ⟨h1, h2⟩ := FFs.ok i h
    obtain ⟨u', e1, e2⟩ := Codes.cell_ok i x c h1
    simp only [cellC] at hc
    rw [e1] at hc
    injection hc with hc
    subst hc
    rw [e2 hs]
    exact h2 x c hs
  | ol t' e' => cases c with
    | zero => cases hc
    | succ c => injection hc with hc; subst hc; simp only [toV]; trivial
  | bool => cases c <;> (injection hc with hc; subst hc; simp only [toV]; trivial)
  | int k => cases c <;> (injection hc with hc; subst hc; simp only [toV]; trivial)
  | str => cases c <;> (injection hc with hc; subst hc; simp only [toV]; trivial)
  | sl e' => cases h
theorem ffTy_at : ∀ (p : List Nat) (v a : LV), ffTy v.τ = true → v.at p = some a → ffTy a.τ = true
  | [], v, a, h, ha => by rw [LV.at_nil] at ha; injection ha with ha; exact ha ▸ h
  | [_], v, a, h, ha => by rw [LV.at_odd] at ha; cases ha
  | c :: r :: p, v, a, h, ha => by
    rw [LV.at_cons] at ha
    cases hk : v.kid c r with
    | none => rw [hk] at ha; cases ha
    | some k => rw [hk] at ha; exact ffTy_at p k a (ffTy_own h (LV.kid_some hk)) ha
def LV.ffP (v : LV) : Prop := ∀ p a, v.at p = some a → ∀ r, r < a.l.length → ∀ c, c < a.τ.sz → ∀ u, cellC a.τ (a.row r) c = .ev u → ∀ len, V.ff (toV len u)
theorem LV.ffP_of {v : LV} (h : ∀ r, r < v.l.length → ∀ c, (c < v.τ.sz → ∀ u, cellC v.τ (v.row r) c = .ev u → ∀ len, V.ff (toV len u)) ∧ ∀ t e l, cellC v.τ (v.row r) c = .own t e l → LV.ffP ⟨t, e, l⟩) : v.ffP
  | [], a, ha => by rw [LV.at_nil] at ha; injection ha with ha; subst ha; exact fun r hr c hc => (h r hr c).1 hc
  | [_], a, ha => by rw [LV.at_odd] at ha; cases ha
  | c :: r :: p, a, ha => by
    rw [LV.at_cons] at ha
    cases hk : v.kid c r with
    | none => rw [hk] at ha; cases ha
    | some k =>
      rw [hk] at ha
      by_cases hr : r < v.l.length
      · exact (h r hr c).2 _ _ _ (LV.kid_some hk) p a ha
      · have hkc := LV.kid_some hk
        have e : v.row r = v.τ.z := by unfold LV.row; rw [List.getD_eq_getElem?_getD, List.getElem?_eq_none (by omega)]; rfl
        rw [e] at hkc
        have hz := z_ownC _ _ _ _ _ hkc
        have := LV.at_empty p k a hz ha
        intro r' hr'
        rw [this] at hr'; simp at hr'
theorem ffTy_ffP {v : LV} (h : ffTy v.τ = true) : v.ffP := fun p a ha r hr c hc u hu len => ffTy_ev (ffTy_at p v a h ha) hc hu len
mutual
theorem ffSh_ok (len : Len) : ∀ (a : Sh) (x : a.D), ffSh a = true → V.ff (toV len (mkE a x))
  | .un, _, _ => by simp only [mkE, toV]; trivial
  | .b, _, _ => by simp only [mkE, toV]; trivial
  | .i _, _, _ => by simp only [mkE, toV]; trivial
  | .s, _, _ => by simp only [mkE, toV]; trivial
  | .fz _, _, h => by cases h
  | .st n, x, h => by simp only [mkE, toV]; exact fun j hj => (FFs.ok n h).2 x j hj
  | .fp _ _, _, h => by cases h
  | .nils, _, _ => by simp only [mkE, toV]; trivial
  | .nilp, _, _ => by simp only [mkE, toV]; trivial
  | .nilm, _, _ => by simp only [mkE, toV]; trivial
  | .nilf, _, _ => by simp only [mkE, toV]; trivial
  | .nili, _, _ => by simp only [mkE, toV]; trivial
  | .ptr _ _, _, _ => by simp only [mkE, toV]; trivial
  | .rptr _ _, _, _ => by simp only [mkE, toV]; trivial
  | .full id, _, _ => by
    simp only [mkE, toV]
    split <;> trivial
  | .mref _, _, _ => by simp only [mkE, toV]; trivial
  | .agg l, x, h => by simp only [mkE, toV]; exact fun j _ => ffShs_ok len l x h j
  | .tup l, x, h => by simp only [mkE, toV]; exact fun j _ => ffShs_ok len l x h j
  | .fn _ l, x, h => by simp only [mkE, toV]; exact fun j _ => ffShs_ok len l x h j
theorem ffShs_ok (len : Len) : ∀ (l : List Sh) (x : DS l), ffSh.ffShs l = true → ∀ j, V.ff (toVs len (mkEs l x) j)
  | [], _, _, j => by simp only [mkEs, toVs]; trivial
  | a :: l, x, h, j => by
    simp only [ffSh.ffShs, Bool.and_eq_true] at h
    cases j with
    | zero => simp only [mkEs, toVs]; exact ffSh_ok len a x.1 h.1
    | succ j => simp only [mkEs, toVs]; exact ffShs_ok len l x.2 h.2 j
end
def OD.ffP (o : OD) : Prop := ∀ len k p, (∀ a, o.slot len k p = .live a → ∀ r, r < a.n → ∀ c, c < a.sz → V.ff (a.get r c)) ∧ ∀ s g, o.slot len k p = .mp s g → ∀ x u, g x = some u → V.ff u
theorem LV.ffO {v : LV} (h : v.ffP) : OD.ffP (.lst v) := fun len k p => by
  refine ⟨fun a ha r hr c hc => ?_, fun s g hg => ?_⟩
  · simp only [OD.slot] at ha
    cases hv : v.at p with
    | none => rw [hv] at ha; cases ha
    | some b =>
      rw [hv] at ha
      injection ha with ha; subst ha
      show V.ff (cellV len k p r c (cellC b.τ (b.row r) c))
      cases hcc : cellC b.τ (b.row r) c with
      | ev u => exact h p b hv r hr c hc u hcc len
      | own t e l => trivial
  · simp only [OD.slot] at hg
    cases hv : v.at p <;> rw [hv] at hg <;> cases hg
section
open Classical
variable {ρ : Type}
noncomputable def ffK : (ro : List OSh) → DO ro → Option ρ → Option ρ
  | [], _, K => K
  | .dead :: l, y, K => ffK l y.2 K
  | .lst e τ :: l, y, K => bif ffTy τ then ffK l y.2 K else grd (okB (LV.ffP ⟨e, τ, y.1⟩)) (ffK l y.2 K)
  | .box e τ :: l, y, K => bif ffTy τ then ffK l y.2 K else grd (okB (LV.ffP ⟨e, τ, [y.1]⟩)) (ffK l y.2 K)
  | .cells _ m :: l, y, K => bif ffSh.ffShs m then ffK l y.2 K else none
  | .mp _ τ :: l, y, K => bif (ffTy τ && froT τ) && Nat.blt 0 τ.sz then ffK l y.2 K else none
theorem ffK_out {K : Option ρ} {res : ρ} : ∀ (ro : List OSh) (y : DO ro), ffK ro y K = some res → (∀ j, OD.ffP (mkObj ro y j)) ∧ K = some res
  | [], y, h => ⟨fun j len k p => ⟨fun a ha => (by cases j <;> cases ha), fun s g hg => (by cases j <;> cases hg)⟩, h⟩
  | o :: l, y, h => by
    have step : OD.ffP (mkO o y.1) → ffK l y.2 K = some res → (∀ j, OD.ffP (mkObj (o :: l) y j)) ∧ K = some res := fun h1 h2 => by
      obtain ⟨a, b⟩ := ffK_out l y.2 h2
      exact ⟨fun j => by cases j with
        | zero => exact h1
        | succ j => exact a j, b⟩
    cases o with
    | dead => exact step (fun len k p => ⟨fun a ha => (by cases ha), fun s g hg => (by cases hg)⟩) h
    | lst e τ =>
      unfold ffK at h
      cases hb : ffTy τ with
      | true => rw [hb] at h; exact step (LV.ffO (ffTy_ffP hb)) h
      | false =>
        rw [hb] at h
        simp only [cond_false] at h
        obtain ⟨h1, h2⟩ := grd_out h
        exact step (LV.ffO (okB_out h1)) h2
    | box e τ =>
      unfold ffK at h
      cases hb : ffTy τ with
      | true => rw [hb] at h; exact step (LV.ffO (ffTy_ffP hb)) h
      | false =>
        rw [hb] at h
        simp only [cond_false] at h
        obtain ⟨h1, h2⟩ := grd_out h
        exact step (LV.ffO (okB_out h1)) h2
    | cells e m =>
      unfold ffK at h
      obtain ⟨hb, h⟩ := bif_none h
      refine step (fun len k p => ⟨fun a ha r hr c hc => ?_, fun s g hg => ?_⟩) h
      · cases p with
        | nil => injection ha with ha; subst ha; exact ffShs_ok len m y.1 hb c
        | cons _ _ => cases ha
      · cases p <;> cases hg
    | mp s τ =>
      unfold ffK at h
      obtain ⟨hb, h⟩ := bif_none h
      simp only [Bool.and_eq_true] at hb
      refine step (fun len k p => ⟨fun a ha => ?_, fun s g hg x u hu => ?_⟩) h
      · cases p <;> cases ha
      · cases p with
        | cons _ _ => cases hg
        | nil =>
          injection hg with h1 h2
          subst h2
          dsimp only at hu
          split at hu
          · rename_i z hz
            injection hu with hu; subst hu
            obtain ⟨u', e1, e2⟩ := cellC_enc τ z 0 hb.1.2
            have hs : 0 < τ.sz := Nat.le_of_ble_eq_true hb.2
            have := ffTy_ev hb.1.1 hs e1 (fun _ _ => Option.none)
            rw [e2 hs] at this
            exact this
          · cases hu
theorem ffK_FF {rv : Sh} {ro : List OSh} {n : Nat} {r : rv.D × DO ro} (hv : ffSh rv = true) (h : ∀ j, OD.ffP (mkObj ro r.2 j)) : FFok rv ro n r :=
  ⟨ffSh_ok _ _ _ hv, ⟨fun i o ho => (h i.k _ _ _).1 o ho, fun i s g hg => (h i.k _ _ _).2 s g hg⟩⟩
end
end
end Go.Abs


set_option linter.unusedVariables false
set_option linter.unusedSimpArgs false
namespace Go.Abs
open Go
variable {P : Program} {Q : Exit → St → Prop} {st : St} {L : List GOp} {d : Option Tmp} {ty : TypeId}
theorem O.makeFunc {f : FuncId} {caps : Array Operand} : QV P ⟨d, .makeFunc (.func f) #[] caps, ty, none⟩ (.fn f caps.size (fun j => st.eval (caps.getD j (.func 0)))) st := fun E ι F a w r =>
  ⟨.func (.func f) #[] (caps.map a.eval), by simp [execOp, GOp.oper, Instr.makeFunc], _, rfl, by simp, fun j hj => ⟨a.eval (caps.getD j (.func 0)), by simp [hj, Array.getD], r.eval _⟩⟩
def Heap.setM (H : Heap) (id : Id) (s : Bool) (g : MKey → Option V) : Heap := { H with slot := fun i => bif Id.beq i id then .mp s g else H.slot i }
def Heap.addM (H : Heap) (s : Bool) (g : MKey → Option V) : Heap := { next := H.next + 1, slot := fun i => bif Id.beq i ⟨H.next, []⟩ then .mp s g else H.slot i, lo := H.lo }
def MapIs (H : Heap) (ι : Id → Option Nat) (F : Nat → Prop) (w : World) (s : Bool) (g : MKey → Option V) (es : Array MapEntry) : Prop :=
  (∀ e ∈ es.toList, ∃ k : MKey, k.isS = s ∧ e.key = k.val) ∧
    ∀ k : MKey, k.isS = s → match g k with
      | none => ∀ e ∈ es.toList, e.key ≠ k.val
      | some u => ∃ (i : Nat) (e : MapEntry), es[i]? = some e ∧ (e.key = k.val ∧ ∀ j, j < i → ∀ e', es[j]? = some e' → e'.key ≠ k.val) ∧ VRel H ι F w u e.val
theorem MapIs.ext {H H' : Heap} {ι ι' : Id → Option Nat} {F F' : Nat → Prop} {w w' : World} {s : Bool} {g : MKey → Option V} {es : Array MapEntry} (h : MapIs H ι F w s g es) (x : Ext H ι F w H' ι' F' w') : MapIs H' ι' F' w' s g es := by
  refine ⟨h.1, fun k hk => ?_⟩
  have := h.2 k hk
  cases hg : g k with
  | none => rw [hg] at this; exact this
  | some u => rw [hg] at this; obtain ⟨i, e, a, b, c⟩ := this; exact ⟨i, e, a, b, x _ _ c⟩
theorem RelH.stepM {E : Env} {ι : Id → Option Nat} {F : Nat → Prop} {H : Heap} {w : World} (r : RelH E ι F H w) (id : Id) (b : Nat) (s : Bool) (g : MKey → Option V) (es' : Array MapEntry) (clock' : Nat) (w' : World) (H' : Heap)
    (hH : ∀ i, H'.slot i = if i = id then .mp s g else H.slot i) (hn : ∀ i, H'.next ≤ i.k → i ≠ id ∧ H.next ≤ i.k) (hlo : H'.lo = H.lo)
    (hos : w'.os = w.os) (htape : w'.tape = w.tape) (hout : w'.output = w.output) (hsz : w.heap.size ≤ w'.heap.size) (hoth : ∀ k, k ≠ b → k < w.heap.size → w'.heap[k]? = w.heap[k]?)
    (hb' : w'.heap[b]? = some (.map es' clock'))
    (hfresh : b = w.heap.size ∨ (ι id = some b ∧ (H.slot id).is))
    (hmap : MapIs H ι F w s g es')
    (hslot : match H.slot id with
      | .unborn => True
      | .mp _ _ => ι id = some b
      | _ => False) :
    RelH E (upd ι id b) F H' w' ∧ Ext H ι F w H' (upd ι id b) F w' := by
  have hbF : ¬ F b := by
    rcases hfresh with h | ⟨h1, h2⟩
    · intro hf; have := r.frlt b hf; omega
    · exact r.nofr id b h2 h1
  have hF : ∀ k, F k → w'.heap[k]? = w.heap[k]? := fun k hk => hoth k (fun e => hbF (e ▸ hk)) (r.frlt k hk)
  have hne : ∀ i k, i ≠ id → (H.slot i).is → ι i = some k → k ≠ b := by
    intro i k hi hl hk e
    subst e
    rcases hfresh with h | ⟨h1, h2⟩
    · have := r.lt i k hl hk; omega
    · exact hi (r.inj i id k hl h2 hk h1)
  have ho : ∀ i k, i ≠ id → (H.slot i).is → ι i = some k → w'.heap[k]? = w.heap[k]? := fun i k hi hl hk => hoth k (hne i k hi hl hk) (r.lt i k hl hk)
  have hx : Ext H ι F w H' (upd ι id b) F w' := by
    refine Ext.of (fun _ h => h) hF fun i => ?_
    unfold SlotOk
    by_cases hi : i = id
    · subst hi
      rw [hH, if_pos rfl]
      cases hs : H.slot i with
      | unborn => trivial
      | dead => rw [hs] at hslot; exact hslot.elim
      | live o => rw [hs] at hslot; exact hslot.elim
      | mp s0 g0 =>
        rw [hs] at hslot
        exact .inr ⟨⟨s, g, rfl⟩, by simp only [upd, if_true]; exact hslot.symm⟩
    · rw [hH, if_neg hi]
      cases hs : H.slot i with
      | unborn => trivial
      | dead => rfl
      | mp s g => exact .inr ⟨⟨s, g, rfl⟩, by simp [upd, hi]⟩
      | live o =>
        refine .inr ⟨o, rfl, Nat.le_refl _, fun _ => ⟨rfl, rfl, Nat.le_refl _, by simp [upd, hi], fun b0 cur hb0 hcur => ⟨cur, ?_, rfl⟩⟩⟩
        rw [ho i b0 hi (by rw [hs]; trivial) hb0]; exact hcur
  have hid : (H'.slot id) = .mp s g := by rw [hH, if_pos rfl]
  have hwas : ∀ i, i ≠ id → (H'.slot i).is → (H.slot i).is := fun i hi h => by rw [hH, if_neg hi] at h; exact h
  have hι : ∀ i, i ≠ id → upd ι id b i = ι i := fun i hi => by simp [upd, hi]
  have hιd : upd ι id b id = some b := by simp [upd]
  have hblt : b < w'.heap.size := (Array.getElem?_eq_some_iff.1 hb').1
  refine ⟨⟨hos.trans r.os, htape.trans r.tape, hout.trans r.output, Nat.le_trans r.size hsz, fun k hk hW => ?_, fun i o hi => ?_, fun i s' g' hi => ?_, fun i i' k hi hi' hk hk' => ?_, fun i k hi hk => ?_,
    fun i k hi hk => ?_, fun i k hi hk => ?_, fun k hk => Nat.lt_of_lt_of_le (r.frlt k hk) hsz, r.frin, fun i hi => ?_, r.ext.trans hx, by rw [hlo]; exact r.lo⟩, hx⟩
  · have hkb : k ≠ b := by
      intro e; subst e
      rcases hfresh with h | ⟨h1, h2⟩
      · have := r.size; omega
      · rcases r.own id k h2 h1 with h | h
        · exact hW h
        · omega
    rw [hoth k hkb (Nat.lt_of_lt_of_le hk r.size)]
    exact r.kept k hk hW
  · have h : i ≠ id := fun e => by subst e; rw [hid] at hi; cases hi
    rw [hH, if_neg h] at hi
    obtain ⟨h1, h2⟩ := r.obj i o hi
    refine ⟨h1, ?_⟩
    rw [hι i h]
    cases hk : ι i with
    | none => rw [hk] at h2; exact h2
    | some k =>
      rw [hk] at h2
      obtain ⟨cur, g1, g2, g3⟩ := h2
      exact ⟨cur, by rw [ho i k h (by rw [hi]; trivial) hk]; exact g1, g2, fun i hi j hj => by obtain ⟨c, a, b, d⟩ := g3 i hi j hj; exact ⟨c, a, b, hx _ _ d⟩⟩
  · by_cases h : i = id
    · subst h
      rw [hid] at hi
      injection hi with e1 e2
      subst e1; subst e2
      exact ⟨b, es', clock', hιd, hb', (hmap.ext hx).1, (hmap.ext hx).2⟩
    · rw [hH, if_neg h] at hi
      obtain ⟨k, es, clock, g1, g2, g3, g4⟩ := r.mapo i s' g' hi
      refine ⟨k, es, clock, by rw [hι i h]; exact g1, by rw [ho i k h (by rw [hi]; trivial) g1]; exact g2, g3, fun key hkey => ?_⟩
      have := g4 key hkey
      cases hg : g' key with
      | none => rw [hg] at this; exact this
      | some u => rw [hg] at this; obtain ⟨n, e, a, b, c⟩ := this; exact ⟨n, e, a, b, hx _ _ c⟩
  · by_cases h : i = id
    · by_cases h' : i' = id
      · exact h.trans h'.symm
      · subst h
        rw [hιd] at hk
        rw [hι i' h'] at hk'
        exact absurd (Option.some.inj hk).symm (hne i' k h' (hwas i' h' hi') hk')
    · by_cases h' : i' = id
      · subst h'
        rw [hιd] at hk'
        rw [hι i h] at hk
        exact absurd (Option.some.inj hk').symm (hne i k h (hwas i h hi) hk)
      · rw [hι i h] at hk
        rw [hι i' h'] at hk'
        exact r.inj i i' k (hwas i h hi) (hwas i' h' hi') hk hk'
  · by_cases h : i = id
    · subst h; rw [hιd] at hk; rw [← Option.some.inj hk]; exact hbF
    · rw [hι i h] at hk; exact r.nofr i k (hwas i h hi) hk
  · by_cases h : i = id
    · subst h; rw [hιd] at hk
      rw [← Option.some.inj hk]
      rcases hfresh with h | ⟨h1, h2⟩
      · right; rw [h]; exact r.size
      · exact r.own i b h2 h1
    · rw [hι i h] at hk; exact r.own i k (hwas i h hi) hk
  · by_cases h : i = id
    · subst h; rw [hιd] at hk; rw [← Option.some.inj hk]; exact hblt
    · rw [hι i h] at hk; exact Nat.lt_of_lt_of_le (r.lt i k (hwas i h hi) hk) hsz
  · obtain ⟨h1, h2⟩ := hn i hi
    rw [hH, if_neg h1]; exact r.next i h2
structure MapT (P : Program) (t : TypeId) (s : Bool) (e : TypeId) : Prop where
  d : ∃ k, P.underlying t = some (.map k e) ∧ P.underlying k = some (if s = true then .string else .int .i64)
theorem MKey.val_inj {a b : MKey} (h : a.val = b.val) : a = b := by
  cases a <;> cases b <;> simp [MKey.val] at h <;> simp [h]
theorem beq_mkey {a b : MKey} (h : a.isS = b.isS) : Instr.sameNow (if a.isS = true then .string else .int .i64) a.val b.val = some (decide (a = b)) := by
  cases a <;> cases b <;> first | (cases h; done) | skip
  · rename_i m n
    simp only [MKey.isS, MKey.val, Instr.sameNow, Bool.false_eq_true, if_false, if_true]
    simp only [Option.some.injEq]
    by_cases e : m = n <;> simp [e]
  · rename_i m n
    simp only [MKey.isS, MKey.val, Instr.sameNow, if_true]
    simp only [Option.some.injEq]
    by_cases e : m = n
    · subst e; simpa using (MapKept.bytes_beq m m).2 rfl
    · have : (m == n) = false := by
        cases h2 : (m == n) with
        | false => rfl
        | true => exact absurd ((MapKept.bytes_beq m n).1 h2) e
      simp [this, e]
theorem findNow_run {s : Bool} {k : MKey} (hk : k.isS = s) : ∀ (l : List MapEntry) (i : Nat), (∀ e ∈ l, ∃ q : MKey, q.isS = s ∧ e.key = q.val) →
    (Instr.findNow (if s = true then .string else .int .i64) k.val l i = some none ∧ ∀ e ∈ l, e.key ≠ k.val) ∨
    ∃ j e, l[j]? = some e ∧ (e.key = k.val ∧ ∀ j', j' < j → ∀ e', l[j']? = some e' → e'.key ≠ k.val) ∧ Instr.findNow (if s = true then .string else .int .i64) k.val l i = some (some (i + j, e.val))
  | [], i, h => .inl ⟨rfl, fun e he => by cases he⟩
  | e :: l, i, h => by
    obtain ⟨q, hq, he⟩ := h e (by simp)
    have hb : Instr.sameNow (if s = true then .string else .int .i64) k.val e.key = some (decide (k = q)) := by rw [he, ← hk]; exact beq_mkey (by rw [hk, hq])
    simp only [Instr.findNow, hb]
    by_cases hkq : k = q
    · refine .inr ⟨0, e, rfl, ⟨by rw [he, hkq], fun j' hj => absurd hj (Nat.not_lt_zero _)⟩, ?_⟩
      rw [decide_eq_true hkq]; rfl
    · rw [decide_eq_false hkq]
      rcases findNow_run hk l (i + 1) (fun e he => h e (by simp [he])) with ⟨h1, h2⟩ | ⟨j, e', h1, h2, h3⟩
      · refine .inl ⟨h1, fun e' he' => ?_⟩
        rcases List.mem_cons.1 he' with rfl | he'
        · rw [he]; exact fun x => hkq (MKey.val_inj x).symm
        · exact h2 e' he'
      · refine .inr ⟨j + 1, e', by simpa using h1, ⟨h2.1, fun j' hj e2 he2 => ?_⟩, by rw [h3]; simp; omega⟩
        cases j' with
        | zero => simp at he2; subst he2; rw [he]; exact fun x => hkq (MKey.val_inj x).symm
        | succ j' => exact h2.2 j' (by omega) e2 (by simpa using he2)
section
variable {t e : TypeId} {s : Bool} {w : World}
theorem findKey_run {kt : TypeId} (hd : P.underlying kt = some (if s = true then .string else .int .i64)) {k : MKey} (hk : k.isS = s) {es : List MapEntry} (h : ∀ e ∈ es, ∃ q : MKey, q.isS = s ∧ e.key = q.val) :
    ((Instr.findKey kt k.val es).run P w = .ok none w ∧ ∀ e ∈ es, e.key ≠ k.val) ∨
    ∃ (j : Nat) (e : MapEntry), es[j]? = some e ∧ (e.key = k.val ∧ ∀ j', j' < j → ∀ e', es[j']? = some e' → e'.key ≠ k.val) ∧ (Instr.findKey kt k.val es).run P w = .ok (some (j, e.val)) w := by
  rcases findNow_run hk es 0 h with ⟨h1, h2⟩ | ⟨j, e, h1, h2, h3⟩
  · refine .inl ⟨?_, h2⟩
    simp only [Instr.findKey, Sem.run_bind, run_underlying' hd, Result.andThen_ok, h1]; rfl
  · refine .inr ⟨j, e, h1, h2, ?_⟩
    simp only [Instr.findKey, Sem.run_bind, run_underlying' hd, Result.andThen_ok, h3, Nat.zero_add]; rfl
theorem checkKey_run {kt : TypeId} {em : Bool} (hd : P.underlying kt = some (if s = true then .string else .int .i64)) {k : MKey} (hk : k.isS = s) (n : Nat) : (Instr.checkKey em (n + 1) kt k.val).run P w = .ok () w := by
  simp only [Instr.checkKey, Sem.run_bind, run_underlying' hd, Result.andThen_ok]
  cases s <;> cases k <;> first | (cases hk; done) | rfl
theorem getObj_run {b : Nat} {es : Array MapEntry} {c : Nat} (h : w.heap[b]? = some (.map es c)) : (getObj b).run P w = .ok (.map es c) w := MapKept.run_getObj_map h
end
theorem sameBits_mkey (n : Nat) (k : MKey) : Instr.sameBits n k.val k.val = true := by
  cases k with
  | i m => simp [MKey.val, Instr.sameBits]
  | s b => simp only [MKey.val, Instr.sameBits]; exact (MapKept.bytes_beq b b).2 rfl
theorem map_eval {E : Env} {ι : Id → Option Nat} {F : Nat → Prop} {a : Act} {w : World} (r : Rel E ι F st a w) {x : Operand} {id : Id} {s : Bool} {g : MKey → Option V} (hx : st.eval x = .mref id) (ho : st.heap.slot id = .mp s g) :
    ∃ b es clock, a.eval x = .map (some b) ∧ ι id = some b ∧ w.heap[b]? = some (.map es clock) ∧ MapIs st.heap ι F w s g es := by
  have hr := r.eval x
  rw [hx] at hr
  obtain ⟨_, h2⟩ := hr
  rw [ho] at h2
  obtain ⟨b, hb, hv⟩ := h2
  obtain ⟨b', es, clock, g1, g2, g3, g4⟩ := r.h.mapo _ s g ho
  rw [hb] at g1; injection g1 with g1; subst g1
  exact ⟨b, es, clock, hv, hb, g2, g3, g4⟩
theorem SL.makeMap {t : TypeId} {s : Bool} (hk : SL P L Q ((st.on (st.heap.addM s (fun _ => none))).put d (.mref ⟨st.heap.next, []⟩))) : SL P (⟨d, .makeMap t none, ty, none⟩ :: L) Q st :=
  SL.value rfl fun E ι F a w r => by
    obtain ⟨g1, g2⟩ := r.h.stepM ⟨st.heap.next, []⟩ w.heap.size s (fun _ => none) #[] 0 (w.alloc (.map #[] 0)) (st.heap.addM s (fun _ => none)) (fun i => by
        simp only [Heap.addM]
        by_cases h : i = ⟨st.heap.next, []⟩
        · rw [if_pos h, Id.beq_iff.2 h]; rfl
        · have : Id.beq i ⟨st.heap.next, []⟩ = false := by
            cases hb : Id.beq i ⟨st.heap.next, []⟩ with
            | false => rfl
            | true => exact absurd (Id.beq_iff.1 hb) h
          rw [if_neg h, this]; rfl)
      (fun i hi => by
        have hi : st.heap.next + 1 ≤ i.k := hi
        exact ⟨fun e => by subst e; exact absurd hi (by simp), by omega⟩) rfl rfl rfl rfl (by show w.heap.size ≤ (w.heap.push _).size; simp) (fun k _ hk => (MapKept.heap_alloc w _).2 k hk) (MapKept.heap_alloc w _).1 (.inl rfl)
      ⟨fun e he => by simp at he, fun k hk e he => by simp at he⟩ (by rw [r.h.next _ (Nat.le_refl _)]; trivial)
    refine ⟨.map (some w.heap.size), _, _, F, _, .mref ⟨st.heap.next, []⟩, ?_, g1, g2, ⟨rfl, ?_⟩, hk⟩
    · rfl
    · have : (st.heap.addM s (fun _ => none)).slot ⟨st.heap.next, []⟩ = .mp s (fun _ => none) := by simp only [Heap.addM, Id.beq_refl]; rfl
      rw [this]
      exact ⟨w.heap.size, by simp [upd], rfl⟩
def putK (g : MKey → Option V) (k : MKey) (u : V) : MKey → Option V := fun x => if x = k then some u else g x
theorem SL.mapUpdate {t e : TypeId} {s : Bool} (ht : MapT P t s e) {x y z : Operand} {id : Id} {g : MKey → Option V} {k : MKey} {u : V} (hx : st.eval x = .mref id) (ho : st.heap.slot id = .mp s g) (hks : k.isS = s)
    (hy : ∀ E ι F a w, Rel E ι F st a w → a.eval y = k.val) (hz : ∀ E ι F a w, Rel E ι F st a w → VRel st.heap ι F w u (a.eval z))
    (hk : SL P L Q ((st.on (st.heap.setM id s (putK g k u))).put d .un)) : SL P (⟨d, .mapUpdate t x y z, ty, none⟩ :: L) Q st :=
  SL.skip rfl fun E ι F a w r => by
    obtain ⟨kt, hd, hdk⟩ := ht.d
    obtain ⟨b, es, clock, hv, hb, hh, hm⟩ := map_eval r hx ho
    have hu := hz E ι F a w r
    have hlt : b < w.heap.size := (Array.getElem?_eq_some_iff.1 hh).1
    have key : ∃ es' clock', (Instr.mapUpdate t (a.eval x) (a.eval y) (a.eval z)).run P w = .ok () { w with heap := w.heap.setIfInBounds b (.map es' clock') } ∧ MapIs st.heap ι F w s (putK g k u) es' := by
      rw [hv, hy E ι F a w r]
      rcases findKey_run (w := w) hdk hks hm.1 with ⟨h1, h2⟩ | ⟨j, en, h1, h2, h3⟩
      · refine ⟨es.push ⟨k.val, a.eval z, clock⟩, clock + 1, ?_, ?_, fun q hq => ?_⟩
        · simp only [Instr.mapUpdate, Sem.run_bind, run_underlying' hd, Result.andThen_ok, getObj_run hh, checkKey_run hdk hks 9999, h1, MapKept.run_setObj_map _ hh]
        · intro en hen
          rw [Array.toList_push] at hen
          rcases List.mem_append.1 hen with hen | hen
          · exact hm.1 en hen
          · simp only [List.mem_singleton] at hen; subst hen; exact ⟨k, hks, rfl⟩
        · unfold putK
          by_cases hqk : q = k
          · subst hqk
            rw [if_pos rfl]
            refine ⟨es.size, ⟨q.val, a.eval z, clock⟩, by simp, ⟨rfl, fun j hj e' he' => ?_⟩, hu⟩
            rw [Array.getElem?_push_lt hj] at he'
            injection he' with he'
            exact h2 e' (by rw [← he']; exact Array.getElem_mem_toList _)
          · rw [if_neg hqk]
            have h4 := hm.2 q hq
            cases hg : g q with
            | none =>
              rw [hg] at h4
              intro en hen
              rw [Array.toList_push] at hen
              rcases List.mem_append.1 hen with hen | hen
              · exact h4 en hen
              · simp only [List.mem_singleton] at hen; subst hen; exact fun x => hqk (MKey.val_inj x).symm
            | some v =>
              rw [hg] at h4
              obtain ⟨i, en, h5, h6, h7⟩ := h4
              have hi : i < es.size := (Array.getElem?_eq_some_iff.1 h5).1
              refine ⟨i, en, by rw [Array.getElem?_push_lt hi, ← h5]; exact (Array.getElem?_eq_getElem hi).symm, ⟨h6.1, fun j hj e' he' => h6.2 j hj e' ?_⟩, h7⟩
              rw [Array.getElem?_push_lt (by omega)] at he'
              rw [← he']; exact Array.getElem?_eq_getElem _
      · have hj : j < es.size := by
          have := (List.getElem?_eq_some_iff.1 h1).1
          simpa using this
        have hje : es[j]? = some en := by rw [← Array.getElem?_toList]; exact h1
        have hmod : ∀ i : Nat, (es.modify j fun e => { e with key := k.val, val := a.eval z })[i]? = if j = i then es[i]?.map (fun e => { e with key := k.val, val := a.eval z }) else es[i]? := fun i => by
          rw [Array.getElem?_modify]
        refine ⟨es.modify j fun e => { e with key := k.val, val := a.eval z }, clock, ?_, ?_, fun q hq => ?_⟩
        · simp only [Instr.mapUpdate, Sem.run_bind, run_underlying' hd, Result.andThen_ok, getObj_run hh, checkKey_run hdk hks 9999, h3]
          have : ((Option.map (fun x => x.key) es[j]?).getD k.val) = k.val := by rw [hje]; exact h2.1
          rw [this]
          simp only [Instr.keyThatStays, sameBits_mkey, if_true, Sem.run_pure, Result.andThen_ok, MapKept.run_setObj_map _ hh]
        · intro e2 he2
          obtain ⟨i, hi, rfl⟩ := List.getElem_of_mem he2
          have h8 := hmod i
          have hi' : i < es.size := by simpa using hi
          have h9 : (es.modify j fun e => { e with key := k.val, val := a.eval z })[i]? = some ((es.modify j fun e => { e with key := k.val, val := a.eval z }).toList[i]) := by
            rw [← Array.getElem?_toList]; exact List.getElem?_eq_getElem hi
          rw [h9] at h8
          by_cases hji : j = i
          · rw [if_pos hji, Array.getElem?_eq_getElem hi'] at h8
            injection h8 with h8
            rw [h8]; exact ⟨k, hks, rfl⟩
          · rw [if_neg hji, Array.getElem?_eq_getElem hi'] at h8
            injection h8 with h8
            rw [h8]; exact hm.1 _ (Array.getElem_mem_toList _)
        · unfold putK
          have hkey : ∀ (i : Nat) e', (es.modify j fun e => { e with key := k.val, val := a.eval z })[i]? = some e' → ∃ e0, es[i]? = some e0 ∧ e0.key = e'.key := by
            intro i e' he'
            rw [hmod] at he'
            by_cases hji : j = i
            · subst hji
              rw [if_pos rfl, hje] at he'
              injection he' with he'
              subst he'
              exact ⟨en, hje, h2.1⟩
            · rw [if_neg hji] at he'
              exact ⟨e', he', rfl⟩
          by_cases hqk : q = k
          · subst hqk
            rw [if_pos rfl]
            refine ⟨j, ⟨q.val, a.eval z, en.born⟩, by rw [hmod, if_pos rfl, hje]; rfl, ⟨rfl, fun i hi e' he' => ?_⟩, hu⟩
            obtain ⟨e0, q1, q2⟩ := hkey i e' he'
            rw [← q2]
            exact h2.2 i hi e0 (by rw [Array.getElem?_toList]; exact q1)
          · rw [if_neg hqk]
            have h4 := hm.2 q hq
            cases hg : g q with
            | none =>
              rw [hg] at h4
              intro e2 he2
              obtain ⟨i, hi, rfl⟩ := List.getElem_of_mem he2
              obtain ⟨e0, q1, q2⟩ := hkey i _ (by rw [← Array.getElem?_toList]; exact List.getElem?_eq_getElem hi)
              rw [← q2]
              have hi0 := (Array.getElem?_eq_some_iff.1 q1)
              obtain ⟨hi0, q1⟩ := hi0
              exact h4 e0 (by rw [← q1]; exact Array.getElem_mem_toList _)
            | some v =>
              rw [hg] at h4
              obtain ⟨i, e2, h5, h6, h7⟩ := h4
              have hji : j ≠ i := fun e => by
                subst e
                rw [hje] at h5; injection h5 with h5; subst h5
                exact hqk (MKey.val_inj (h6.1.symm.trans h2.1))
              refine ⟨i, e2, by rw [hmod, if_neg hji]; exact h5, ⟨h6.1, fun i' hi' e' he' => ?_⟩, h7⟩
              obtain ⟨e0, q1, q2⟩ := hkey i' e' he'
              rw [← q2]; exact h6.2 i' hi' e0 q1
    obtain ⟨es', clock', hrun, hm'⟩ := key
    obtain ⟨g1, g2⟩ := r.h.stepM id b s (putK g k u) es' clock' { w with heap := w.heap.setIfInBounds b (.map es' clock') } (st.heap.setM id s (putK g k u)) (fun i => by
        simp only [Heap.setM]
        by_cases h : i = id
        · rw [if_pos h, Id.beq_iff.2 h]; rfl
        · have : Id.beq i id = false := by
            cases hb : Id.beq i id with
            | false => rfl
            | true => exact absurd (Id.beq_iff.1 hb) h
          rw [if_neg h, this]; rfl)
      (fun i hi => ⟨fun e => (by subst e; rw [r.h.next _ hi] at ho; cases ho), hi⟩) rfl rfl rfl rfl (by simp) (fun k hk _ => (MapKept.heap_set hh).2 k hk) (MapKept.heap_set hh).1 (.inr ⟨hb, by rw [ho]; trivial⟩) hm' (by rw [ho]; exact hb)
    refine ⟨_, _, F, _, ?_, g1, g2, hk⟩
    simp only [execOp, GOp.oper, Sem.run_bind, hrun, Result.andThen_ok, Sem.run_pure]
theorem O.lookup {t e : TypeId} {s : Bool} (ht : MapT P t s e) {zv : Value} [hz : TyZero P e zv] {x y : Operand} {id : Id} {g : MKey → Option V} {k : MKey} (hx : st.eval x = .mref id) (ho : st.heap.slot id = .mp s g) (hks : k.isS = s)
    (hy : ∀ E ι F a w, Rel E ι F st a w → a.eval y = k.val) :
    QV P ⟨d, .lookup t x y false, ty, none⟩ ((g k).getD (V.ofValue zv)) st ∧ QV P ⟨d, .lookup t x y true, ty, none⟩ (.tup 2 (fun j => if j = 0 then (g k).getD (V.ofValue zv) else .t (.bool (g k).isSome))) st := by
  have hzr : ∀ w : World, (zeroValue e).run P w = .ok zv w := fun w => zero_run w
  have key : ∀ E ι F a w, Rel E ι F st a w → ∃ v, VRel st.heap ι F w ((g k).getD (V.ofValue zv)) v ∧ (∀ ok, (Instr.lookup t (a.eval x) (a.eval y) ok).run P w = .ok (if ok = true then .tuple #[v, .bool (g k).isSome] else v) w) := by
    intro E ι F a w r
    obtain ⟨kt, hd, hdk⟩ := ht.d
    obtain ⟨b, es, clock, hv, hb, hh, hm⟩ := map_eval r hx ho
    rw [hv, hy E ι F a w r]
    have h4 := hm.2 k hks
    rcases findKey_run (w := w) hdk hks hm.1 with ⟨h1, h2⟩ | ⟨j, en, h1, h2, h3⟩
    · have hg : g k = none := by
        cases hg : g k with
        | none => rfl
        | some u =>
          rw [hg] at h4
          obtain ⟨i, en, h5, h6, _⟩ := h4
          obtain ⟨hi, h5⟩ := Array.getElem?_eq_some_iff.1 h5
          exact absurd h6.1 (h2 en (by rw [← h5]; exact Array.getElem_mem_toList _))
      rw [hg]
      refine ⟨zv, V.ofValue_rel _ _ _ _ _, fun ok => ?_⟩
      simp only [Instr.lookup, Sem.run_bind, run_underlying' hd, Result.andThen_ok, getObj_run hh, Sem.run_pure, checkKey_run hdk hks 9999, h1, hzr]
      cases ok <;> rfl
    · have h1' : es[j]? = some en := by rw [← Array.getElem?_toList]; exact h1
      obtain ⟨hj, h1''⟩ := Array.getElem?_eq_some_iff.1 h1'
      cases hg : g k with
      | none => rw [hg] at h4; exact absurd h2.1 (h4 en (by rw [← h1'']; exact Array.getElem_mem_toList _))
      | some u =>
        rw [hg] at h4
        obtain ⟨i, e2, h5, h6, h7⟩ := h4
        have hij : i = j := by
          rcases Nat.lt_trichotomy i j with h | h | h
          · exact absurd h6.1 (h2.2 i h e2 (by rw [Array.getElem?_toList]; exact h5))
          · exact h
          · exact absurd h2.1 (h6.2 j h en h1')
        subst hij
        rw [h1'] at h5; injection h5 with h5; subst h5
        refine ⟨en.val, h7, fun ok => ?_⟩
        simp only [Instr.lookup, Sem.run_bind, run_underlying' hd, Result.andThen_ok, getObj_run hh, Sem.run_pure, checkKey_run hdk hks 9999, h3]
        cases ok <;> rfl
  constructor
  · intro E ι F a w r
    obtain ⟨v, h1, h2⟩ := key E ι F a w r
    refine ⟨v, ?_, h1⟩
    simp only [execOp, GOp.oper, Sem.run_bind, h2, Result.andThen_ok, Sem.run_pure]; rfl
  · intro E ι F a w r
    obtain ⟨v, h1, h2⟩ := key E ι F a w r
    refine ⟨_, by simp only [execOp, GOp.oper, Sem.run_bind, h2, Result.andThen_ok, Sem.run_pure, if_true], #[v, .bool (g k).isSome], rfl, rfl, fun j hj => ?_⟩
    match j, hj with
    | 0, _ => exact ⟨v, rfl, h1⟩
    | 1, _ => exact ⟨_, rfl, rfl⟩
end Go.Abs


set_option linter.unusedVariables false
set_option linter.unusedSimpArgs false
set_option linter.unusedSectionVars false
namespace Go.Abs
open Go
noncomputable section
variable {P : Program} {d : Option Tmp} {ty : TypeId} {ρ : Type}
structure TyXE where
  nf : Option Nat := none
  eq : Option (List TypeDesc) := none
  mp : Option (Bool × TypeId × Ty) := none
  ar : Option (Nat × Nat) := none
def sameD : Option TypeDesc → TypeDesc → Bool
  | some (.int k), .int k' => kindEq k k'
  | some .bool, .bool => true
  | some .string, .string => true
  | _, _ => false
theorem sameD_eq {o : Option TypeDesc} {x : TypeDesc} (h : sameD o x = true) : o = some x := by
  unfold sameD at h
  split at h
  · rw [kindEq_eq h]
  · rfl
  · rfl
  · cases h
def eqFs (P : Program) : List Field → List TypeDesc → Nat → Bool
  | [], [], _ => true
  | f :: l, x :: m, k => !(f.name == "_") && (Nat.beq f.offset k && (sameD (P.underlying f.type) x && eqFs P l m (k + 1)))
  | _, _, _ => false
def eqTy (P : Program) (t : TypeId) (l : List TypeDesc) : Bool := match P.underlying t with
  | some (.struct fs) => !P.stoodInHeld t && (!P.eqGuardType P.depth t && eqFs P fs.toList l 0)
  | _ => false
structure TyXE.Ok (P : Program) [Tys P] (t : TypeId) (c : TyXE) : Prop where
  nf : ∀ n, c.nf = some n → ∃ fs, P.underlying t = some (.struct fs) ∧ fs.size = n ∧ (Tys.c P t).fields.length = n
  eq : ∀ l, c.eq = some l → eqTy P t l = true
  mp : ∀ s e τ, c.mp = some (s, e, τ) → MapT P t s e
  ar : ∀ n s, c.ar = some (n, s) → ∃ e, TyArr P t n e s
class TyX (P : Program) [Tys P] where
  x : TypeId → TyXE
  ok : ∀ t, TyXE.Ok P t (x t)
section
variable [SU] [Codes]
def EV.isStr : EV → Bool
  | .st _ _ => true
  | .agg _ => true
  | _ => false
def partE (u : EV) (K : List EV → Option ρ) : Option ρ := match u with
  | .st i x => bif Codes.fro i then K (cellsE 0 [] (.st i) x 0 0 (SU.sz i)) else none
  | .agg l => K l
  | .un => none
  | .und => none
  | .tup _ => none
  | u => K [u]
structure CellsOk (H : Heap) (ι : Id → Option Nat) (F : Nat → Prop) (w : World) (len : Len) (l : List EV) (cs : Array Value) : Prop where
  sz : cs.size = l.length
  get : ∀ j, j < l.length → ∃ c, cs[j]? = some c ∧ c.oneCell' = true ∧ VRel H ι F w (toVs len l j) c
theorem partE_ok {u : EV} {K : List EV → Option ρ} {res : ρ} (h : partE u K = some res) : ∃ l, K l = some res ∧ ∀ H ι F w len v, VRel H ι F w (toV len u) v → CellsOk H ι F w len l v.cells := by
  have one : ∀ u' : EV, (∀ len, (toV len u').one = true) → ∀ H ι F w len v, VRel H ι F w (toV len u') v → CellsOk H ι F w len [u'] v.cells := by
    intro u' ho H ι F w len v hv
    have hp := V.one_plain (ho len) hv
    have hc : v.cells = #[v] := by cases v <;> first | rfl | (simp [Value.oneCell'] at hp)
    refine ⟨by rw [hc]; rfl, fun j hj => ⟨v, ?_, hp, ?_⟩⟩
    · have : j = 0 := by simpa using hj
      subst this; rw [hc]; rfl
    · have : j = 0 := by simpa using hj
      subst this; exact hv
  unfold partE at h
  split at h
  · rename_i i x
    obtain ⟨hf, h⟩ := bif_none h
    refine ⟨_, h, fun H ι F w len v hv => ?_⟩
    obtain ⟨cs, rfl, h2, h3⟩ := hv
    refine ⟨by rw [cellsE_len]; exact h2, fun j hj => ?_⟩
    rw [cellsE_len] at hj
    obtain ⟨c, a, b, e⟩ := h3 j hj
    refine ⟨c, a, b, ?_⟩
    rw [cellsE_at len 0 [] (.st i) x 0 (SU.sz i) 0 j hj, Nat.zero_add, cellE_F (τ := .st i) hf hj]
    exact e
  · rename_i l
    refine ⟨_, h, fun H ι F w len v hv => ?_⟩
    obtain ⟨cs, rfl, h2, h3⟩ := hv
    exact ⟨h2, h3⟩
  · cases h
  · cases h
  · cases h
  · rename_i h1 h2 h3 h4 h5
    refine ⟨_, h, one u fun len => ?_⟩
    cases u <;> first | (simp only [toV, V.one]; done) | exact absurd rfl (h1 _ _) | exact absurd rfl (h2 _) | exact absurd rfl h3 | exact absurd rfl h4 | exact absurd rfl (h5 _) | (simp only [toV]; split <;> rfl)
def setE : List EV → Nat → List EV → List EV
  | l, _, [] => l
  | [], _, _ => []
  | _ :: l, 0, v :: m => v :: setE l 0 m
  | a :: l, n + 1, m => a :: setE l n m
theorem setE_len : ∀ (l : List EV) (c : Nat) (m : List EV), (setE l c m).length = l.length
  | [], c, m => by cases m <;> simp [setE]
  | _ :: _, c, [] => by simp [setE]
  | _ :: l, 0, _ :: m => by simp only [setE, List.length_cons, setE_len l 0 m]
  | _ :: l, c + 1, v :: m => by simp only [setE, List.length_cons, setE_len l c (v :: m)]
theorem setE_at (len : Len) : ∀ (l : List EV) (c : Nat) (m : List EV) (j : Nat), c + m.length ≤ l.length → toVs len (setE l c m) j = if c ≤ j ∧ j < c + m.length then toVs len m (j - c) else toVs len l j
  | l, c, [], j, h => by
    have : setE l c [] = l := by cases l <;> rfl
    rw [this, if_neg (by simp)]
  | [], c, v :: m, j, h => by simp at h
  | a :: l, 0, v :: m, 0, h => by simp [setE, toVs]
  | a :: l, 0, v :: m, j + 1, h => by
    simp only [setE, toVs, List.length_cons]
    rw [setE_at len l 0 m j (by simp only [List.length_cons] at h; omega)]
    by_cases hj : j < m.length
    · rw [if_pos (by omega), if_pos (by omega)]; simp only [Nat.sub_zero, toVs]
    · rw [if_neg (by omega), if_neg (by omega)]
  | a :: l, c + 1, v :: m, 0, h => by simp [setE, toVs]
  | a :: l, c + 1, v :: m, j + 1, h => by
    simp only [setE, toVs]
    rw [setE_at len l c (v :: m) j (by simp only [List.length_cons] at h ⊢; omega)]
    by_cases hj : c ≤ j ∧ j < c + (v :: m).length
    · rw [if_pos hj, if_pos (by omega), show j + 1 - (c + 1) = j - c by omega]
    · rw [if_neg hj, if_neg (by omega)]
def fillE (fs : List (Nat × Bool × Nat)) (ev : Operand → EV) : List (Nat × Operand) → List EV → (List EV → Option ρ) → Option ρ
  | [], c, K => K c
  | (i, x) :: r, c, K => match nth fs i with
    | some (off, _, s) => partE (ev x) fun l => bif Nat.beq l.length s && Nat.ble (off + s) c.length then fillE fs ev r (setE c off l) K else none
    | none => none
def buildStO (P : Program) [Tys P] [TyX P] (ev : Operand → EV) (t : TypeId) (A : List (Nat × Operand)) (K : EV → Option ρ) : Option ρ := match (TyX.x P t).nf, (Tys.c P t).zero with
  | some _, some z => fillE (Tys.c P t).fields ev A (z.cells.toList.map evCell) fun c => K (.agg c)
  | _, _ => none
theorem foldl_set : ∀ (l : List Value) (o : Nat) (cs : Array Value) (j0 : Nat), o + j0 + l.length ≤ cs.size → ((l.zipIdx j0).foldl (fun cs (p : Value × Nat) => cs.setIfInBounds (o + p.2) p.1) cs).size = cs.size ∧
    (∀ j, j < l.length → ((l.zipIdx j0).foldl (fun cs (p : Value × Nat) => cs.setIfInBounds (o + p.2) p.1) cs)[o + j0 + j]? = l[j]?) ∧
    (∀ x, x < o + j0 ∨ o + j0 + l.length ≤ x → ((l.zipIdx j0).foldl (fun cs (p : Value × Nat) => cs.setIfInBounds (o + p.2) p.1) cs)[x]? = cs[x]?) := by
  intro l
  induction l with
  | nil => intro o cs j0 _; exact ⟨rfl, fun j hj => absurd hj (Nat.not_lt_zero _), fun x _ => rfl⟩
  | cons a l ih =>
    intro o cs j0 hsz
    simp only [List.length_cons] at hsz
    simp only [List.zipIdx_cons, List.foldl_cons]
    obtain ⟨i1, i2, i3⟩ := ih o (cs.setIfInBounds (o + j0) a) (j0 + 1) (by simp; omega)
    refine ⟨by rw [i1]; simp, fun j hj => ?_, fun x hx => ?_⟩
    · cases j with
      | zero =>
        rw [i3 _ (by omega)]
        simp [Array.getElem?_setIfInBounds_self_of_lt (show o + j0 < cs.size by omega)]
      | succ j =>
        have := i2 j (by simpa using hj)
        rw [show o + j0 + (j + 1) = o + (j0 + 1) + j by omega, this]; simp
    · rw [i3 x (by simp only [List.length_cons] at hx; omega)]
      rw [Array.getElem?_setIfInBounds_ne (by simp only [List.length_cons] at hx; omega)]
theorem fillE_ok {fs : List (Nat × Bool × Nat)} {s : ESt} {place : Nat → Option (Nat × Nat)} (hpl : ∀ i off a n, nth fs i = some (off, a, n) → place i = some (off, n)) {res : ρ} : ∀ (A : List (Nat × Operand)) (c : List EV) (K : List EV → Option ρ), fillE fs s.eval A c K = some res →
    ∃ c', K c' = some res ∧ ∀ E ι F a w, Rel E ι F (toSt s) a w → ∀ cs, CellsOk (toH s.heap) ι F w s.heap.len c cs → ∃ cs', Instr.fill place cs (A.map fun p => (p.1, a.eval p.2)) = some cs' ∧ CellsOk (toH s.heap) ι F w s.heap.len c' cs'
  | [], c, K, h => ⟨c, h, fun E ι F a w r cs hc => ⟨cs, rfl, hc⟩⟩
  | (i, x) :: A, c, K, h => by
    simp only [fillE] at h
    cases hn : nth fs i with
    | none => rw [hn] at h; cases h
    | some q =>
      obtain ⟨off, ag, n⟩ := q
      rw [hn] at h
      obtain ⟨l, hl, hp⟩ := partE_ok h
      obtain ⟨hb, hl⟩ := bif_none hl
      simp only [Bool.and_eq_true] at hb
      obtain ⟨b1, b2⟩ := hb
      have b1 := Nat.eq_of_beq_eq_true b1
      have b2 := Nat.le_of_ble_eq_true b2
      obtain ⟨c', k1, k2⟩ := fillE_ok hpl A _ K hl
      refine ⟨c', k1, fun E ι F a w r cs hc => ?_⟩
      have hv : VRel (toH s.heap) ι F w (toV s.heap.len (s.eval x)) (a.eval x) := s.eval_wk x _ _ _ _ _ (r.eval x)
      have pc := hp _ _ _ _ _ _ hv
      have hcz := hc.sz
      have hsz : (a.eval x).cells.size = n := by rw [pc.sz, b1]
      have hz : (a.eval x).cells.zipIdx.foldl (fun cs (p : Value × Nat) => cs.setIfInBounds (off + p.2) p.1) cs = ((a.eval x).cells.toList.zipIdx 0).foldl (fun cs (p : Value × Nat) => cs.setIfInBounds (off + p.2) p.1) cs := by
        rw [← Array.foldl_toList, Array.toList_zipIdx]
      obtain ⟨g1, g2, g3⟩ := foldl_set (a.eval x).cells.toList off cs 0 (by simp [hsz]; omega)
      obtain ⟨cs', r1, r2⟩ := k2 E ι F a w r (((a.eval x).cells.toList.zipIdx 0).foldl (fun cs (p : Value × Nat) => cs.setIfInBounds (off + p.2) p.1) cs) ⟨by rw [g1, setE_len]; exact hcz, fun j hj => by
        rw [setE_len] at hj
        rw [setE_at _ _ _ _ _ (by omega)]
        by_cases hin : off ≤ j ∧ j < off + l.length
        · rw [if_pos hin]
          obtain ⟨v, q1, q2, q3⟩ := pc.get (j - off) (by omega)
          refine ⟨v, ?_, q2, q3⟩
          have := g2 (j - off) (by simp [hsz]; omega)
          rw [Nat.add_zero, show off + (j - off) = j by omega] at this
          rw [this, Array.getElem?_toList]; exact q1
        · rw [if_neg hin]
          obtain ⟨v, q1, q2, q3⟩ := hc.get j hj
          refine ⟨v, ?_, q2, q3⟩
          rw [g3 j (by simp [hsz]; omega)]; exact q1⟩
      refine ⟨cs', ?_, r2⟩
      simp only [List.map_cons, Instr.fill, hpl i off ag n hn]
      rw [if_neg (by simp [hsz]; omega), hz]
      exact r1
theorem places_run {w : World} : ∀ (fs : List Field) (l : List (Nat × Bool × Nat)), fs.length = l.length → (∀ i off a n, nth l i = some (off, a, n) → ∃ fl, fs[i]? = some fl ∧ fl.offset = off ∧ TySz P fl.type a n) →
    (fs.mapM fun f => do pure (f.offset, ← sizeOf f.type) : Sem (List (Nat × Nat))).run P w = .ok (l.map fun q => (q.1, q.2.2)) w
  | [], [], _, _ => by simp
  | f :: fs, (off, a, n) :: l, hl, h => by
    obtain ⟨fl, h1, h2, h3⟩ := h 0 off a n rfl
    simp only [List.getElem?_cons_zero, Option.some.injEq] at h1
    subst h1
    have ih := places_run (w := w) fs l (by simpa using hl) (fun i off a n hn => by
      obtain ⟨fl, q1, q2⟩ := h (i + 1) off a n hn
      exact ⟨fl, by simpa using q1, q2⟩)
    simp only [List.mapM_cons, Sem.run_bind, sizeOf_run (P := P) (t := f.type) w, Result.andThen_ok, Sem.run_pure, ih, h2, List.map_cons]
theorem nth_get {α : Type} : ∀ (l : List α) (i : Nat), nth l i = l[i]?
  | [], i => by simp [nth]
  | a :: l, 0 => rfl
  | a :: l, i + 1 => by simp only [nth, nth_get l i]; simp
theorem buildStO_ok [T : Tys P] [X : TyX P] {s : ESt} {t : TypeId} {A : Array (Nat × Operand)} {K : EV → Option ρ} {res : ρ} (h : buildStO P s.eval t A.toList K = some res) :
    ∃ u, (∀ d ty, QV P ⟨d, .build t A, ty, none⟩ (toV s.heap.len u) (toSt s)) ∧ K u = some res := by
  unfold buildStO at h
  split at h
  · rename_i n z hn hz
    obtain ⟨fs, hu, hsz, hlen⟩ := (X.ok t).nf n hn
    have hzero := (T.ok t).zero z hz
    have hfld : ∀ i off a m, nth (Tys.c P t).fields i = some (off, a, m) → ∃ fl, fs.toList[i]? = some fl ∧ fl.offset = off ∧ TySz P fl.type a m := fun i off a m hi => by
      obtain ⟨⟨fs', fl, q1, q2, q3, q4⟩, _⟩ := (T.ok t).fld i off a m hi
      rw [hu] at q1
      injection q1 with q1; injection q1 with q1; subst q1
      exact ⟨fl, by rw [Array.getElem?_toList]; exact q2, q3, q4⟩
    obtain ⟨c', k1, k2⟩ := fillE_ok (place := fun i => ((Tys.c P t).fields.map fun q => (q.1, q.2.2))[i]?) (fun i off a m hi => by rw [nth_get] at hi; simp [hi]) A.toList _ _ h
    refine ⟨_, fun d ty E ι F a w r => ?_, k1⟩
    obtain ⟨cs', r1, r2⟩ := k2 E ι F a w r z.cells ⟨by simp, fun j hj => by
      have hj : j < z.cells.size := by simpa using hj
      refine ⟨z.cells[j], Array.getElem?_eq_getElem hj, Array.all_eq_true_iff_forall_mem.1 hzero.c _ (Array.getElem_mem hj), ?_⟩
      rw [toVs_eq, List.getD_eq_getElem?_getD]
      simp only [List.getElem?_map, Array.getElem?_toList, Array.getElem?_eq_getElem hj, Option.map_some, Option.getD_some, evCell_eq]
      exact V.cell_rel _ _ _ _ _⟩
    have hp := places_run (P := P) (w := w) fs.toList (Tys.c P t).fields (by simp [hsz, hlen]) hfld
    have hp2 : (fs.mapM fun f => do pure (f.offset, ← sizeOf f.type) : Sem (Array (Nat × Nat))).run P w = .ok ((Tys.c P t).fields.map fun q => (q.1, q.2.2)).toArray w := by
      rw [Array.mapM_eq_mapM_toList]
      rw [Sem.run_map]
      exact (congrArg (fun r => Result.andThen r _) hp).trans rfl
    refine ⟨.agg cs', ?_, cs', rfl, r2.sz, r2.get⟩
    have hr1 : Instr.fill (fun i => ((Tys.c P t).fields.map fun q => (q.1, q.2.2)).toArray[i]?) z.cells ((A.map fun p => (p.1, a.eval p.2)).toList) = some cs' := by
      rw [← r1]; simp
    simp only [execOp, GOp.oper, Instr.build, Sem.run_bind, zero_run (P := P) (t := t) (v := z), Result.andThen_ok, run_underlying' hu, hp2]
    simp only [hr1, Sem.run_pure, Result.andThen_ok]
  · cases h
def eqE : TypeDesc → EV → EV → Option Bool
  | .int q, .i k m, .i k' n => bif kindEq k q && kindEq k' q then some (decide (m = n)) else none
  | .bool, .b a, .b b => some (a == b)
  | .string, .s a, .s b => some (a.toList == b.toList)
  | _, _, _ => none
def eqEs : List TypeDesc → List EV → List EV → (Bool → Option ρ) → Option ρ
  | [], [], [], K => K true
  | [x], [a], [b], K => match eqE x a b with
    | some r => K r
    | none => none
  | x :: q, a :: l, b :: m, K => match eqE x a b with
    | some r => eqEs q l m fun q => K (r && q)
    | none => none
  | _, _, _, _ => none
def eqStO (P : Program) [Tys P] [TyX P] (neg : Bool) (t : TypeId) (u v : EV) (K : EV → Option ρ) : Option ρ := match (TyX.x P t).eq with
  | some q => partE u fun l => partE v fun m => eqEs q l m fun r => K (.b (bif neg then !r else r))
  | none => none
def eqV : List TypeDesc → List EV → List EV → Option Bool
  | [], [], [] => some true
  | x :: q, a :: l, b :: m => match eqE x a b, eqV q l m with
    | some r, some q => some (r && q)
    | _, _ => none
  | _, _, _ => none
theorem eqEs_ok : ∀ (q : List TypeDesc) (l m : List EV) (K : Bool → Option ρ) (res : ρ), eqEs q l m K = some res → ∃ r, eqV q l m = some r ∧ K r = some res := by
  intro q
  induction q with
  | nil =>
    intro l m K res h
    cases l <;> cases m <;> first | exact ⟨true, rfl, h⟩ | cases h
  | cons x q ih =>
    intro l m K res h
    cases l with
    | nil => cases q <;> cases m <;> cases h
    | cons a l =>
      cases m with
      | nil => cases q <;> cases l <;> cases h
      | cons b m =>
        cases he : eqE x a b with
        | none => cases q <;> cases l <;> cases m <;> simp only [eqEs, he] at h <;> cases h
        | some r =>
          have gen : eqEs q l m (fun q => K (r && q)) = some res → ∃ r, eqV (x :: q) (a :: l) (b :: m) = some r ∧ K r = some res := fun h => by
            obtain ⟨q', h1, h2⟩ := ih l m _ res h
            exact ⟨r && q', by simp only [eqV, he, h1], h2⟩
          cases q <;> cases l <;> cases m <;> simp only [eqEs, he] at h <;> first | exact gen h | (cases h; done) | exact ⟨r, by simp [eqV, he], h⟩
theorem part_run {t : TypeId} {x : TypeDesc} (h : sameD (P.underlying t) x = true) {cs : Array Value} {k : Nat} {c : Value} (hc : cs[k]? = some c) (w : World) : (part t cs k).run P w = .ok c w := by
  have hu := sameD_eq h
  have : (isAgg t).run P w = .ok false w := by
    unfold isAgg
    rw [Sem.run_bind, run_underlying' hu]
    rw [hu] at h
    cases x <;> first | (cases h; done) | rfl
  simp only [part, Sem.run_bind, this, Result.andThen_ok, hc]
  rfl
theorem eqCell_run {t : TypeId} {td : TypeDesc} (h : sameD (P.underlying t) td = true) {dp : Nat} {H : Heap} {ι : Id → Option Nat} {F : Nat → Prop} {w : World} {len : Len} {a b : EV} {r : Bool} (he : eqE td a b = some r) {x y : Value} (hx : VRel H ι F w (toV len a) x) (hy : VRel H ι F w (toV len b) y) :
    (Op.equalIn (dp + 1) t x y).run P w = .ok r w := by
  have hu := sameD_eq h
  unfold eqE at he
  split at he
  · rename_i q k m k' n
    have hh := bif_none he
    clear he
    obtain ⟨hb, he⟩ := hh
    simp only [Bool.and_eq_true] at hb
    have h1 := kindEq_eq hb.1
    have h2 := kindEq_eq hb.2
    subst h1; subst h2
    injection he with he
    have hx : x = .int k' m := hx
    have hy : y = .int k' n := hy
    subst hx; subst hy
    rw [run_equalIn_int w dp t k' k' m n hu, ← he]
    rw [Bool.beq_eq_decide_eq]
  · injection he with he
    have hx : x = .bool _ := hx
    have hy : y = .bool _ := hy
    subst hx; subst hy
    rw [run_equalIn_bool' w dp t _ _ hu, ← he]
  · injection he with he
    have hx := hx.1
    have hy := hy.1
    subst hx; subst hy
    rw [run_equalIn_string w dp t _ _ hu, ← he]
  · cases he
theorem eqFields_run {dp : Nat} {H : Heap} {ι : Id → Option Nat} {F : Nat → Prop} {w : World} {len : Len} {xs ys : Array Value} : ∀ (fs : List Field) (q : List TypeDesc) (l m : List EV) (k : Nat) (r : Bool), eqFs P fs q k = true → eqV q l m = some r →
    (∀ j, j < l.length → ∃ c, xs[k + j]? = some c ∧ VRel H ι F w (toVs len l j) c) → (∀ j, j < m.length → ∃ c, ys[k + j]? = some c ∧ VRel H ι F w (toVs len m j) c) →
    (Op.eqFields (dp + 1) xs ys fs).run P w = .ok r w
  | [], [], l, m, k, r, h, he, hx, hy => by
    cases l <;> cases m <;> simp only [eqV] at he <;> first | (cases he; done) | (injection he with he; subst he; simp [Op.eqFields])
  | [], _ :: _, l, m, k, r, h, he, hx, hy => by cases h
  | _ :: _, [], l, m, k, r, h, he, hx, hy => by cases h
  | f :: fs, x :: q, l, m, k, r, h, he, hx, hy => by
    cases l with
    | nil => cases m <;> cases he
    | cons a l =>
      cases m with
      | nil => cases he
      | cons b m =>
        simp only [eqFs, Bool.and_eq_true, Bool.not_eq_true'] at h
        obtain ⟨h1, h2, h3, h4⟩ := h
        have h2 := Nat.eq_of_beq_eq_true h2
        simp only [eqV] at he
        cases e1 : eqE x a b with
        | none => rw [e1] at he; cases he
        | some r1 =>
          cases e2 : eqV q l m with
          | none => rw [e1, e2] at he; cases he
          | some r2 =>
            rw [e1, e2] at he
            injection he with he
            obtain ⟨c, c1, c2⟩ := hx 0 (by simp)
            obtain ⟨c', c1', c2'⟩ := hy 0 (by simp)
            have ih := eqFields_run fs q l m (k + 1) r2 h4 e2 (fun j hj => by
                obtain ⟨c, a1, a2⟩ := hx (j + 1) (by simpa using hj)
                exact ⟨c, by rw [show k + 1 + j = k + (j + 1) by omega]; exact a1, by simpa only [toVs] using a2⟩) (fun j hj => by
                obtain ⟨c, a1, a2⟩ := hy (j + 1) (by simpa using hj)
                exact ⟨c, by rw [show k + 1 + j = k + (j + 1) by omega]; exact a1, by simpa only [toVs] using a2⟩) (dp := dp)
            have hn : f.name ≠ "_" := by simpa using h1
            have p1 := part_run (P := P) h3 (cs := xs) (k := f.offset) (c := c) (by rw [h2]; exact c1) w
            have p2 := part_run (P := P) h3 (cs := ys) (k := f.offset) (c := c') (by rw [h2]; exact c1') w
            have p3 := eqCell_run (P := P) h3 (dp := dp) e1 (by simpa only [toVs] using c2) (by simpa only [toVs] using c2')
            simp only [Op.eqFields, if_pos hn, Sem.run_bind, p1, p2, p3, Result.andThen_ok]
            subst he
            cases r1
            · simp
            · simpa using ih
theorem eqStO_ok [T : Tys P] [X : TyX P] {s : ESt} {neg : Bool} {o : BinOp} (ho : o = if neg = true then .neq else .eql) {t tY : TypeId} {x y : Operand} {K : EV → Option ρ} {res : ρ} (hx : (s.eval x).isStr = true) (hy : (s.eval y).isStr = true) (h : eqStO P neg t (s.eval x) (s.eval y) K = some res) :
    ∃ u, (∀ d ty, QV P ⟨d, .binOp o t x y tY, ty, none⟩ (toV s.heap.len u) (toSt s)) ∧ K u = some res := by
  unfold eqStO at h
  split at h
  · rename_i q hq
    have hk := (X.ok t).eq q hq
    obtain ⟨l, h, hl⟩ := partE_ok h
    obtain ⟨m, h, hm⟩ := partE_ok h
    obtain ⟨r, hr, h⟩ := eqEs_ok _ _ _ _ _ h
    refine ⟨_, fun d ty E ι F a w rr => ?_, h⟩
    have hvx : VRel (toH s.heap) ι F w (toV s.heap.len (s.eval x)) (a.eval x) := s.eval_wk x _ _ _ _ _ (rr.eval x)
    have hvy : VRel (toH s.heap) ι F w (toV s.heap.len (s.eval y)) (a.eval y) := s.eval_wk y _ _ _ _ _ (rr.eval y)
    have cx := hl _ _ _ _ _ _ hvx
    have cy := hm _ _ _ _ _ _ hvy
    have agg : ∀ (u : EV) (v : Value), u.isStr = true → VRel (toH s.heap) ι F w (toV s.heap.len u) v → ∃ cs, v = .agg cs := fun u v hu hv => by
      cases u <;> first | (cases hu; done) | (obtain ⟨cs, e, _⟩ := hv; exact ⟨cs, e⟩)
    obtain ⟨xs, ex⟩ := agg _ _ hx hvx
    obtain ⟨ys, ey⟩ := agg _ _ hy hvy
    rw [ex] at cx; rw [ey] at cy
    unfold eqTy at hk
    split at hk
    · rename_i fs hu
      simp only [Bool.and_eq_true, Bool.not_eq_true'] at hk
      obtain ⟨k1, k2, k3⟩ := hk
      have hf : P.fieldsOf t = fs := by simp [Program.fieldsOf, hu]
      have he : (Op.equalIn 10000 t (.agg xs) (.agg ys)).run P w = .ok r w := by
        rw [run_equalIn_struct (P := P) w 9999 t xs ys (by rw [hf]; exact hu) k1, hf]
        exact eqFields_run (dp := 9998) fs.toList q l m 0 r k3 hr (fun j hj => by obtain ⟨c, a1, a2, a3⟩ := cx.get j hj; exact ⟨c, by rw [Nat.zero_add]; exact a1, a3⟩) (fun j hj => by obtain ⟨c, a1, a2, a3⟩ := cy.get j hj; exact ⟨c, by rw [Nat.zero_add]; exact a1, a3⟩)
      have hg := fun o => run_eqGuard_agg (P := P) w o t x y xs ys k2
      cases neg with
      | false =>
        subst ho
        refine ⟨.bool r, ?_, rfl⟩
        simp only [execOp, GOp.oper, ex, ey, Sem.run_bind, hg, Result.andThen_ok, Bool.false_eq_true, if_false, run_eql_struct, he, Sem.run_pure]
      | true =>
        subst ho
        refine ⟨.bool (!r), ?_, rfl⟩
        simp only [execOp, GOp.oper, ex, ey, Sem.run_bind, hg, Result.andThen_ok, if_true, run_neq_struct, he, Sem.run_pure]
    · cases hk
  · cases h
def highI (len : Nat) : Option (IntKind × Int) → Int
  | some p => p.2
  | none => len
theorem bounds_run {b : Bool} {len cap : Nat} {lo hi : Option (IntKind × Int)} {w : World} (hh : ∀ p, hi = some p → 0 ≤ p.2 ∧ p.2 ≤ cap) (hl : ∀ p, lo = some p → 0 ≤ p.2 ∧ p.2 ≤ highI len hi) :
    (Instr.sliceBounds b len cap (lo.map fun p => .int p.1 p.2) (hi.map fun p => .int p.1 p.2) none).run P w = .ok ((match lo with | some p => p.2.toNat | none => 0), (match hi with | some p => p.2.toNat | none => len), cap) w := by
  cases lo with
  | none =>
    cases hi with
    | none => simp [Instr.sliceBounds]
    | some q =>
      obtain ⟨h1, h2⟩ := hh q rfl
      simp [Instr.sliceBounds, run_sliceBound, h1, h2]
  | some p =>
    cases hi with
    | none =>
      obtain ⟨h1, h2⟩ := hl p rfl
      have h2 : p.2 ≤ (len : Int) := h2
      simp [Instr.sliceBounds, run_sliceBound, h1, h2]
    | some q =>
      obtain ⟨h1, h2⟩ := hh q rfl
      obtain ⟨h3, h4⟩ := hl p rfl
      have h4 : p.2 ≤ q.2 := h4
      have h4 : p.2 ≤ ((q.2.toNat : Nat) : Int) := by omega
      simp [Instr.sliceBounds, run_sliceBound w q.1 q.2 cap _ h1 h2, run_sliceBound w p.1 p.2 q.2.toNat _ h3 h4]
def lowN : Option (IntKind × Int) → Nat
  | some p => p.2.toNat
  | none => 0
def highN (len : Nat) : Option (IntKind × Int) → Nat
  | some p => p.2.toNat
  | none => len
def BndOk (len : Nat) (lo hi : Option (IntKind × Int)) : Prop := (∀ p, hi = some p → 0 ≤ p.2 ∧ p.2 ≤ len) ∧ ∀ p, lo = some p → 0 ≤ p.2 ∧ p.2 ≤ highI len hi
theorem sliceAt_run {t e : TypeId} {sz by_ : Nat} [ht : TySlice P t e sz by_] {A : Option Addr} {len cap : Nat} (hlc : len ≤ cap) {lo hi : Option (IntKind × Int)} (hb : BndOk len lo hi) (w : World) :
    (Instr.sliceAt t (.slice A len cap) (lo.map fun p => .int p.1 p.2) (hi.map fun p => .int p.1 p.2) none).run P w = .ok (sliced A (lowN lo) (highN len hi) cap sz) w := by
  have he : P.elem t = e := by simp [Program.elem, ht.d]
  have hu : P.underlying t = some (.slice (P.elem t)) := by rw [he]; exact ht.d
  have hs : (sizeOf e).run P w = .ok sz w := by
    have hs := ht.s
    cases hq : P.info? e with
    | none => simp [hq] at hs
    | some i => simp [hq] at hs; simp [sizeOf, typeInfo, hq, hs.1]
  rw [run_sliceAt_slice w t _ _ _ _ hu, run_slice_any w t A len cap hu, bounds_run (fun p hp => by have := hb.1 p hp; omega) hb.2]
  simp only [Result.andThen_ok, he, hs]
  cases lo <;> cases hi <;> rfl
theorem bnd_le {len : Nat} {lo hi : Option (IntKind × Int)} (hb : BndOk len lo hi) : lowN lo ≤ highN len hi ∧ highN len hi ≤ len := by
  obtain ⟨h1, h2⟩ := hb
  cases lo with
  | none => cases hi with
    | none => simp [lowN, highN]
    | some q => have := h1 q rfl; simp [lowN, highN]; omega
  | some p => cases hi with
    | none => have := h2 p rfl; simp only [highI] at this; simp [lowN, highN]; omega
    | some q => have := h1 q rfl; have := h2 p rfl; simp only [highI] at this; simp [lowN, highN]; omega
theorem add_addr {b o n : Nat} : (⟨b, o, none⟩ : Addr).add n = ⟨b, o + n, none⟩ := by
  unfold Addr.add
  split
  · rename_i h; simp [h]
  · rfl
theorem reads_sliced {F : Nat → Prop} {w : World} {sz len cap L H : Nat} {get : Nat → Nat → T} {A : Option Addr} (h : Reads F w (.sl sz len get) (.slice A len cap)) (hLH : L ≤ H) (hH : H ≤ len) :
    Reads F w (.sl sz (H - L) (fun i j => get (i + L) j)) (sliced A L H cap sz) := by
  obtain ⟨A', cap', e, h1, h2, h3⟩ := h
  injection e with e1 e2 e3
  subst e1; subst e3
  refine ⟨_, _, rfl, by omega, by omega, fun hn => ?_⟩
  obtain ⟨b, o, hA, hF, hc⟩ := h3 (by omega)
  subst hA
  refine ⟨b, o + L * sz, by rw [if_neg (by omega)]; simp [add_addr], hF, fun i hi j hj => ?_⟩
  obtain ⟨c, hc1, hc2⟩ := hc (i + L) (by omega) j hj
  refine ⟨c, ?_, hc2⟩
  rw [← hc1]
  congr 1
  rw [Nat.add_mul]
  simp only [Addr.mk.injEq, true_and, and_true]
  omega
theorem sref_sliced {H0 : Heap} {ι : Id → Option Nat} {F : Nat → Prop} {w : World} {id : Id} {o : AObj} {r len cap L H : Nat} {A : Option Addr} (ho : H0.slot id = .live o) (hv : o.ver = 0) (h : VRel H0 ι F w (.sref id 0 r len) (.slice A len cap)) (hLH : L ≤ H) (hH : H ≤ len) :
    VRel H0 ι F w (.sref id 0 (r + L) (H - L)) (sliced A L H cap o.sz) := by
  obtain ⟨_, h⟩ := h
  rw [ho] at h
  obtain ⟨h1, h2⟩ := h
  obtain ⟨h3, A', cap', e, h4, h5⟩ := h2 hv.symm
  injection e with e1 e2 e3
  subst e1; subst e3
  refine ⟨rfl, ?_⟩
  rw [ho]
  refine ⟨h1, fun _ => ⟨by omega, _, _, rfl, by omega, fun hc => ?_⟩⟩
  have hlt : L < cap := Nat.lt_of_sub_pos hc
  obtain ⟨b, cur, g1, g2, g3, g4⟩ := h5 (Nat.lt_of_le_of_lt (Nat.zero_le _) hlt)
  clear h5 hc
  subst g2
  refine ⟨b, cur, g1, ?_, g3, ?_⟩
  · rw [if_neg (by omega)]
    simp only [Option.map_some, add_addr, Nat.add_mul]
  · rw [Nat.sub_mul, Nat.add_mul]
    have h9 : L * o.sz ≤ cap * o.sz := Nat.mul_le_mul_right _ (Nat.le_trans (Nat.le_trans hLH hH) h4)
    revert g4 h9
    generalize r * o.sz = a
    generalize L * o.sz = b'
    generalize cap * o.sz = c
    generalize cur.size = n
    intro g4 h9
    omega
def bndE (ev : Operand → EV) (x : Option Operand) (K : Option (IntKind × Int) → Option ρ) : Option ρ := match x with
  | none => K none
  | some x => match ev x with
    | .i k n => K (some (k, n))
    | _ => none
theorem bndE_ok {s : ESt} {x : Option Operand} {K : Option (IntKind × Int) → Option ρ} {res : ρ} (h : bndE s.eval x K = some res) : ∃ q, K q = some res ∧ ∀ E ι F a w, Rel E ι F (toSt s) a w → x.map a.eval = q.map fun p => .int p.1 p.2 := by
  unfold bndE at h
  split at h
  · exact ⟨none, h, fun _ _ _ _ _ _ => rfl⟩
  · rename_i x
    split at h
    · rename_i k n hx
      have hx := eval_eq hx rfl
      exact ⟨some (k, n), h, fun E ι F a w r => by simp only [Option.map_some]; rw [int_eval r hx]⟩
    · cases h
def takeDrop {α : Type} (l : List α) : Option (IntKind × Int) → Option (IntKind × Int) → List α
  | none, none => l
  | some p, none => l.drop p.2.toNat
  | none, some q => l.take q.2.toNat
  | some p, some q => (l.take q.2.toNat).drop p.2.toNat
def bndG (n : Nat) : Option (IntKind × Int) → Option (IntKind × Int) → Bool
  | none, none => true
  | some p, none => okB (0 ≤ p.2 ∧ p.2 ≤ n)
  | none, some q => okB (0 ≤ q.2 ∧ q.2 ≤ n)
  | some p, some q => okB (0 ≤ p.2 ∧ p.2 ≤ q.2 ∧ q.2 ≤ n)
theorem bndG_ok {n : Nat} {lo hi : Option (IntKind × Int)} (h : bndG n lo hi = true) : BndOk n lo hi := by
  cases lo with
  | none => cases hi with
    | none => exact ⟨fun p hp => (by cases hp), fun p hp => by cases hp⟩
    | some q => exact ⟨fun p hp => (by cases hp; exact okB_out h), fun p hp => by cases hp⟩
  | some p => cases hi with
    | none => exact ⟨fun p hp => (by cases hp), fun p hp => by cases hp; exact okB_out h⟩
    | some q =>
      obtain ⟨h1, h2, h3⟩ := okB_out h
      exact ⟨fun p hp => (by cases hp; exact ⟨by omega, h3⟩), fun p hp => by cases hp; exact ⟨h1, h2⟩⟩
theorem takeDrop_len {α : Type} {l : List α} {lo hi : Option (IntKind × Int)} (h : BndOk l.length lo hi) : (takeDrop l lo hi).length = highN l.length hi - lowN lo := by
  have := bnd_le h
  cases lo <;> cases hi <;> simp [takeDrop, highN, lowN] at this ⊢ <;> omega
theorem takeDrop_get {α : Type} {l : List α} {lo hi : Option (IntKind × Int)} (z : α) {i : Nat} (hi' : i < highN l.length hi - lowN lo) : (takeDrop l lo hi).getD i z = l.getD (i + lowN lo) z := by
  cases lo <;> cases hi <;> simp only [takeDrop, highN, lowN, Nat.add_zero] at hi' ⊢ <;> simp only [List.getD_eq_getElem?_getD, List.getElem?_drop, List.getElem?_take]
  · rw [if_pos (by omega)]
  · rw [Nat.add_comm]
  · rw [if_pos (by omega), Nat.add_comm]
def sliceO (P : Program) [Tys P] (ev : Operand → EV) (H : EHeap) (t : TypeId) (x : Operand) (lo hi mx : Option Operand) (K : EV → Option ρ) : Option ρ := match mx with
  | some _ => none
  | none => bndE ev lo fun l => bndE ev hi fun h => match ev x with
    | .fz τ d => match (Tys.c P t).sl with
      | some (_, sz, _) => bif Nat.beq τ.sz sz then grd (bndG d.length l h) (K (.fz τ (takeDrop d l h))) else none
      | none => none
    | .sfull id p => match H.at id p with
      | some v => match (Tys.c P t).sl with
        | some (_, sz, _) => bif Nat.beq v.τ.sz sz then grd (bndG v.l.length l h) (K (.sref id p (lowN l) (highN v.l.length h - lowN l))) else none
        | none => none
      | none => none
    | .sref id p r n => match H.at id p with
      | some v => match (Tys.c P t).sl with
        | some (_, sz, _) => bif Nat.beq v.τ.sz sz then grd (bndG n l h) (K (.sref id p (r + lowN l) (highN n h - lowN l))) else none
        | none => none
      | none => none
    | .s b => match (Tys.c P t).desc with
      | some .string => grd (bndG b.size l h) (K (.s (b.extract (lowN l) (highN b.size h))))
      | _ => none
    | _ => none
theorem sliceO_ok [T : Tys P] {s : ESt} {t : TypeId} {x : Operand} {lo hi mx : Option Operand} {K : EV → Option ρ} {res : ρ} (h : sliceO P s.eval s.heap t x lo hi mx K = some res) :
    ∃ u, (∀ d ty, QV P ⟨d, .slice t x lo hi mx, ty, none⟩ (toV s.heap.len u) (toSt s)) ∧ K u = some res := by
  unfold sliceO at h
  split at h
  · cases h
  · obtain ⟨l, h, hl⟩ := bndE_ok h
    obtain ⟨hh, h, hhi⟩ := bndE_ok h
    have run : ∀ {E ι F a w}, Rel E ι F (toSt s) a w → ∀ v v', (a.eval x = v) → (Instr.sliceAt t v (l.map fun p => .int p.1 p.2) (hh.map fun p => .int p.1 p.2) none).run P w = .ok v' w → ∀ d ty, (execOp a.eval (GOp.oper ⟨d, .slice t x lo hi none, ty, none⟩)).run P w = .ok (.value v') w := by
      intro E ι F a w r v v' hv hrun d ty
      simp only [execOp, GOp.oper, hl E ι F a w r, hhi E ι F a w r, hv, Sem.run_bind, Option.map_none, hrun, Result.andThen_ok, Sem.run_pure]
    split at h
    · rename_i τ dd hx
      have hx := eval_eq hx rfl
      split at h
      · rename_i e sz by_ hsl
        have ht := (T.ok t).sl _ _ _ hsl
        obtain ⟨hb, h⟩ := bif_none h
        have hb := Nat.eq_of_beq_eq_true hb
        obtain ⟨hg, h⟩ := grd_out h
        have hbn := bndG_ok hg
        have hle := bnd_le hbn
        refine ⟨_, fun d ty E ι F a w r => ?_, h⟩
        have hr := r.eval x
        rw [hx] at hr
        simp only [toV, encL] at hr
        obtain ⟨A, cap, e1, e2, e3, e4⟩ := id hr
        rw [e1] at hr
        refine ⟨_, run r _ _ e1 (sliceAt_run e2 hbn w) d ty, ?_⟩
        have h5 := reads_sliced hr hle.1 hle.2
        rw [← hb]
        simp only [toV, encL]
        rw [takeDrop_len hbn]
        obtain ⟨A2, cap2, q1, q2, q3, q4⟩ := h5
        refine ⟨A2, cap2, q1, q2, q3, fun hn => ?_⟩
        obtain ⟨b, o, w1, w2, w3⟩ := q4 hn
        refine ⟨b, o, w1, w2, fun i hi j hj => ?_⟩
        show ∃ c, _ ∧ Reads F w (encC τ ((takeDrop dd l hh).getD i τ.z) j) c
        rw [takeDrop_get _ hi]
        exact w3 i hi j hj
      · cases h
    · rename_i id p hx
      split at h
      · rename_i v hv
        split at h
        · rename_i e sz by_ hsl
          have ht := (T.ok t).sl _ _ _ hsl
          obtain ⟨hb, h⟩ := bif_none h
          have hb := Nat.eq_of_beq_eq_true hb
          obtain ⟨hg, h⟩ := grd_out h
          have hbn := bndG_ok hg
          have hle := bnd_le hbn
          have hx := eval_eq hx rfl
          have hlen := EHeap.len_at hv
          have hs := slot_lst hv
          refine ⟨_, fun d ty E ι F a w r => ?_, h⟩
          have hr := r.eval x
          rw [hx] at hr
          simp only [toV, hlen] at hr
          have hr0 := hr
          obtain ⟨_, hr0⟩ := hr0
          have hs' : (toSt s).heap.slot ⟨id, p⟩ = .live (v.obj s.heap.len id p) := hs
          rw [hs'] at hr0
          obtain ⟨_, hr0⟩ := hr0
          obtain ⟨_, A, cap, e1, e2, _⟩ := hr0 rfl
          rw [e1] at hr
          refine ⟨_, run r _ _ e1 (sliceAt_run e2 hbn w) d ty, ?_⟩
          have h5 := sref_sliced hs' rfl hr hle.1 hle.2
          rw [Nat.zero_add] at h5
          rw [← hb]
          simp only [toV]
          exact h5
        · cases h
      · cases h
    · rename_i id p rr n hx
      split at h
      · rename_i v hv
        split at h
        · rename_i e sz by_ hsl
          have ht := (T.ok t).sl _ _ _ hsl
          obtain ⟨hb, h⟩ := bif_none h
          have hb := Nat.eq_of_beq_eq_true hb
          obtain ⟨hg, h⟩ := grd_out h
          have hbn := bndG_ok hg
          have hle := bnd_le hbn
          have hx := eval_eq hx rfl
          have hs := slot_lst hv
          refine ⟨_, fun d ty E ι F a w r => ?_, h⟩
          have hr := r.eval x
          rw [hx] at hr
          simp only [toV] at hr
          have hr0 := hr
          obtain ⟨_, hr0⟩ := hr0
          have hs' : (toSt s).heap.slot ⟨id, p⟩ = .live (v.obj s.heap.len id p) := hs
          rw [hs'] at hr0
          obtain ⟨_, hr0⟩ := hr0
          obtain ⟨_, A, cap, e1, e2, _⟩ := hr0 rfl
          rw [e1] at hr
          refine ⟨_, run r _ _ e1 (sliceAt_run e2 hbn w) d ty, ?_⟩
          have h5 := sref_sliced hs' rfl hr hle.1 hle.2
          rw [← hb]
          simp only [toV]
          exact h5
        · cases h
      · cases h
    · rename_i b hx
      split at h
      · rename_i hdsc
        have ht := (T.ok t).desc _ hdsc
        obtain ⟨hg, h⟩ := grd_out h
        have hbn := bndG_ok hg
        have hle := bnd_le hbn
        have hx := eval_eq hx rfl
        refine ⟨_, fun d ty E ι F a w r => ?_, h⟩
        have hr := r.eval x
        rw [hx] at hr
        simp only [toV] at hr
        obtain ⟨e1, e2⟩ := hr
        have hrun : (Instr.sliceAt t (.string b) (l.map fun p => .int p.1 p.2) (hh.map fun p => .int p.1 p.2) none).run P w = .ok (.string (b.extract (lowN l) (highN b.size hh))) w := by
          rw [run_sliceAt_string w t _ _ _ _ ht.d]
          simp only [Instr.slice, Sem.run_bind, run_underlying' ht.d, Result.andThen_ok, Option.isSome_none, Bool.false_eq_true, if_false, Sem.run_pure]
          rw [bounds_run (fun p hp => by have := hbn.1 p hp; omega) hbn.2]
          simp only [Result.andThen_ok, Sem.run_pure]
          cases l <;> cases hh <;> rfl
        refine ⟨_, run r _ _ e1 hrun d ty, rfl, ?_⟩
        rw [ByteArray.size_extract]
        omega
      · cases h
    · cases h
end
end
end Go.Abs


set_option linter.unusedVariables false
set_option linter.unusedSimpArgs false
set_option linter.unusedSectionVars false
namespace Go.Abs
open Go
noncomputable section
variable {P : Program} {d : Option Tmp} {ty : TypeId} {L : List GOp} {ρ : Type}
section
variable [SU] [Codes] {Q : Exit → ESt → Prop}
def mput {α : Type} (g : MKey → Option α) (k : MKey) (y : α) : MKey → Option α := fun q => if q = k then some y else g q
def scEV : (τ : Ty) → τ.D → EV
  | .bool, x => .b x
  | .int k, x => .i k x
  | .str, x => .s x
  | .sl e, x => .fz e x
  | _, _ => .un
def zOk : Ty → Value → Bool
  | .bool, .bool false => true
  | .int k, .int k' 0 => kindEq k k'
  | .str, .string s => Nat.beq s.size 0
  | .sl _, .slice none 0 0 => true
  | _, _ => false
theorem zOk_wk {τ : Ty} {z : Value} (h : zOk τ z = true) (len : Len) : Wk (V.ofValue z) (toV len (scEV τ τ.z)) := by
  unfold zOk at h
  split at h
  · exact Wk.refl _
  · have := kindEq_eq h
    subst this; exact Wk.refl _
  · rename_i s
    have h0 := Nat.eq_of_beq_eq_true h
    have : s = ByteArray.empty := by
      cases s with
      | mk a =>
        have : a.size = 0 := h0
        have : a = #[] := Array.eq_empty_of_size_eq_zero this
        rw [this]; rfl
    subst this
    exact Wk.refl _
  · exact Wk.nils _ _
  · cases h
theorem scEV_enc {τ : Ty} {z : Value} (h : zOk τ z = true) (len : Len) (y : τ.D) : toV len (scEV τ y) = .t (encC τ y 0) := by
  cases τ <;> simp [zOk] at h <;> simp only [scEV, toV, encC] <;> rfl
def keyE (s : Bool) : EV → Option MKey
  | .i k n => match s, k with
    | false, .i64 => some (.i n)
    | _, _ => none
  | .s b => match s with
    | true => some (.s b)
    | false => none
  | _ => none
theorem keyE_ok {s : ESt} {x : Operand} {sk : Bool} {k : MKey} (h : keyE sk (s.eval x) = some k) : k.isS = sk ∧ ∀ E ι F a w, Rel E ι F (toSt s) a w → a.eval x = k.val := by
  unfold keyE at h
  split at h
  · rename_i kk n hx
    have hx := eval_eq hx rfl
    split at h
    · injection h with h; subst h
      exact ⟨rfl, fun E ι F a w r => int_eval r hx⟩
    · cases h
  · rename_i b hx
    have hx := eval_eq hx rfl
    split at h
    · injection h with h; subst h
      refine ⟨rfl, fun E ι F a w r => ?_⟩
      have := r.eval x
      rw [hx] at this
      exact this.1
    · cases h
  · cases h
def lookO (P : Program) [Tys P] [TyX P] (ev : Operand → EV) (H : EHeap) (t : TypeId) (x y : Operand) (ok : Bool) (K : EV → Option ρ) : Option ρ := match (TyX.x P t).mp with
  | some (sk, e, _) => match (Tys.c P e).zero with
    | some z => match ev x with
      | .mref id => match H.obj id with
        | .mp sm τ g => bif zOk τ z then (match keyE sm (ev y) with
          | some k => bif (sm == sk) then (bif ok then K (.tup [scEV τ ((g k).getD τ.z), .b (g k).isSome]) else K (scEV τ ((g k).getD τ.z))) else none
          | none => none) else none
        | _ => none
      | _ => none
    | none => none
  | none => none
theorem slot_map {H : EHeap} {id : Nat} {s : Bool} {τ : Ty} {g : MKey → Option τ.D} (h : H.obj id = .mp s τ g) : (toH H).slot ⟨id, []⟩ = .mp s (fun x => match g x with
    | some y => some (.t (encC τ y 0))
    | none => none) := by
  show (H.obj id).slot _ _ _ = _
  rw [h]; rfl
theorem lookO_ok [T : Tys P] [X : TyX P] {s : ESt} {t : TypeId} {x y : Operand} {ok : Bool} {K : EV → Option ρ} {res : ρ} (h : lookO P s.eval s.heap t x y ok K = some res) :
    ∃ u, (∀ d ty, QV P ⟨d, .lookup t x y ok, ty, none⟩ (toV s.heap.len u) (toSt s)) ∧ K u = some res := by
  unfold lookO at h
  split at h
  · rename_i sk e τ0 hm
    have ht := (X.ok t).mp _ _ _ hm
    split at h
    · rename_i z hz
      have hzz := (T.ok e).zero _ hz
      split at h
      · rename_i id hx
        have hx := eval_eq hx rfl
        split at h
        · rename_i sm τ g ho
          have hh := bif_none h
          clear h
          obtain ⟨hzo, h⟩ := hh
          split at h
          · rename_i k hk
            have hh := bif_none h
            clear h
            obtain ⟨hs, h⟩ := hh
            have hs : sm = sk := by simpa using hs
            subst hs
            obtain ⟨k1, k2⟩ := keyE_ok hk
            have hsl := slot_map ho
            have hsl' : (toSt s).heap.slot ⟨id, []⟩ = _ := hsl
            have hl : ∀ d ty, _ := fun d ty => O.lookup (d := d) (ty := ty) ht (zv := z) hx hsl' k1 k2
            have hw : Wk ((match g k with
                | some y => some (V.t (encC τ y 0))
                | none => none).getD (V.ofValue z)) (toV s.heap.len (scEV τ ((g k).getD τ.z))) := by
              cases hg : g k with
              | none => exact zOk_wk hzo _
              | some y => simp only [Option.getD_some]; rw [scEV_enc hzo]; exact Wk.refl _
            cases ok with
            | false =>
              exact ⟨_, fun d ty => (hl d ty).1.wk hw, h⟩
            | true =>
              refine ⟨_, fun d ty => (hl d ty).2.wk ?_, h⟩
              simp only [toV, List.length_cons, List.length_nil]
              intro H ι F w c ⟨cs, q1, q2, q3⟩
              refine ⟨cs, q1, q2, fun j hj => ?_⟩
              obtain ⟨c, w1, w2⟩ := q3 j hj
              match j, hj with
              | 0, _ => exact ⟨c, w1, by simp only [toVs]; exact hw _ _ _ _ _ w2⟩
              | 1, _ =>
                refine ⟨c, w1, ?_⟩
                simp only [toVs, toV]
                have w2 : c = .bool _ := w2
                show c = .bool _
                rw [w2]
                cases g k <;> rfl
          · cases h
        · cases h
      · cases h
    · cases h
  · cases h
theorem indexA_run {t n e s : Nat} [h : TyArr P t n e s] {w : World} {b o : Nat} {k : IntKind} {i : Nat} (h1 : i < n) :
    (Instr.indexAt t (.pointer (some ⟨b, o, none⟩)) (.int k (Int.ofNat i))).run P w = .ok (.pointer (some ⟨b, o + i * s, none⟩)) w := by
  have hs := h.s
  have hsz : (sizeOf e).run P w = .ok s w := by
    cases hq : P.info? e with
    | none => simp [hq] at hs
    | some i => simp [hq] at hs; simp [sizeOf, typeInfo, hq, hs]
  simp [Instr.indexAt, asIntOf, run_underlying' h.d, Instr.sureAddr, h1, hsz, addr_add]
theorem O.indexA {st : St} {t n e s : Nat} [TyArr P t n e s] {x y : Operand} {id : Id} {ver rr c : Nat} {o : AObj} {k : IntKind} {i : Nat} (hx : st.eval x = .ptr id ver rr c) (ho : st.heap.slot id = .live o) (hv : ver = o.ver) (hy : st.eval y = .t (.int k (Int.ofNat i))) (hi : i < n) :
    QV P ⟨d, .indexAddr t x y, ty, none⟩ (.ptr id ver rr (c + i * s)) st :=
  fun E ι F a w r => by
    obtain ⟨b, hb, he⟩ := live_ptr r hx ho hv
    refine ⟨_, by simp only [execOp, GOp.oper, he, int_eval r hy, Sem.run_bind, indexA_run (P := P) (t := t) hi, Result.andThen_ok]; rfl, rfl, ?_⟩
    rw [ho]
    exact ⟨by omega, fun _ => ⟨b, hb, by rw [Nat.add_assoc]⟩⟩
def arrO (P : Program) [Tys P] [TyX P] (H : EHeap) (t : TypeId) (a i : EV) (K : EV → Option ρ) : Option ρ := match (TyX.x P t).ar with
  | some (n, sz) => match i with
    | .i _ m => match m with
      | .ofNat i => bif Nat.blt i n then (match a with
        | .ptr id p r c => bif H.is id p then litO (c + i * sz) fun c' => K (.ptr id p r c') else none
        | _ => none) else none
      | _ => none
    | _ => none
  | none => none
theorem arrO_ok [T : Tys P] [X : TyX P] {s : ESt} {t : TypeId} {x y : Operand} {K : EV → Option ρ} {res : ρ} (h : arrO P s.heap t (s.eval x) (s.eval y) K = some res) : ∃ u, (∀ d ty, QV P ⟨d, .indexAddr t x y, ty, none⟩ (toV s.heap.len u) (toSt s)) ∧ K u = some res := by
  unfold arrO at h
  split at h
  · rename_i n sz har
    obtain ⟨e, har⟩ := (X.ok t).ar n sz har
    split at h
    · rename_i k m hy
      have hy := eval_eq hy rfl
      simp only [toV] at hy
      split at h
      · rename_i i
        have hh := bif_none h
        clear h
        obtain ⟨h1, h⟩ := hh
        split at h
        · rename_i id p r c hx
          have hx := eval_eq hx rfl
          simp only [toV] at hx
          have hh := bif_none h
          clear h
          obtain ⟨h2, h⟩ := hh
          obtain ⟨o, ho, hv⟩ := EHeap.is_out h2
          rw [litO_eq] at h
          exact ⟨_, fun d ty => (by simp only [toV]; exact O.indexA (e := e) hx ho hv.symm hy (Nat.le_of_ble_eq_true h1)), h⟩
        · cases h
      · cases h
    · cases h
  · cases h
def runX (P : Program) [Tys P] [TyX P] (ev : Operand → EV) (H : EHeap) (op : Op) (K : EV → Option ρ) : Option ρ := match op with
  | .makeFunc fn first caps => match fn, first.toList with
    | .func f, [] => fnE f ev caps.toList [] K
    | _, _ => none
  | .build t A => buildStO P ev t A.toList K
  | .lookup t x y ok => lookO P ev H t x y ok K
  | .slice t x lo hi mx => sliceO P ev H t x lo hi mx K
  | .indexAddr t x y => bif (TyX.x P t).ar.isSome then arrO P H t (ev x) (ev y) K else runO P ev H (.indexAddr t x y) K
  | .binOp o t x y tY => bif (ev x).isStr && (ev y).isStr then (match o with
    | .eql => eqStO P false t (ev x) (ev y) K
    | .neq => eqStO P true t (ev x) (ev y) K
    | _ => none) else runO P ev H (.binOp o t x y tY) K
  | op => runO P ev H op K
where
  fnE (f : FuncId) (ev : Operand → EV) : List Operand → List EV → (EV → Option ρ) → Option ρ
  | [], us, K => K (.fn f us.reverse)
  | x :: l, us, K => fE (ev x) fun u => fnE f ev l (u :: us) K
theorem fnE_eq (f : FuncId) (ev : Operand → EV) (K : EV → Option ρ) : ∀ (l : List Operand) (us : List EV), runX.fnE f ev l us K = K (.fn f (us.reverse ++ l.map ev))
  | [], us => by simp [runX.fnE]
  | x :: l, us => by simp only [runX.fnE]; rw [fE_eq, fnE_eq f ev K l]; simp
theorem runX_ok [T : Tys P] [X : TyX P] {s : ESt} {op : Op} {K : EV → Option ρ} {res : ρ} (h : runX P s.eval s.heap op K = some res) : ∃ u, (∀ d ty, QV P ⟨d, op, ty, none⟩ (toV s.heap.len u) (toSt s)) ∧ K u = some res := by
  unfold runX at h
  split at h
  · rename_i fn first caps
    split at h
    · rename_i f hf
      rw [fnE_eq] at h
      refine ⟨_, fun d ty => ?_, h⟩
      have : first = #[] := by cases first; simp_all
      subst this
      refine (O.makeFunc (f := f) (caps := caps) (st := toSt s)).wk ?_
      simp only [toV, List.reverse_nil, List.nil_append, List.length_map, Array.length_toList]
      intro H ι F w c ⟨cs, q1, q2, q3⟩
      refine ⟨cs, q1, q2, fun j hj => ?_⟩
      obtain ⟨c, w1, w2⟩ := q3 j hj
      refine ⟨c, w1, ?_⟩
      rw [toVs_eq]
      have e : (List.map s.eval caps.toList).getD j .un = s.eval (caps.getD j (.func 0)) := by
        simp [List.getD_eq_getElem?_getD, hj, Array.getD]
      rw [e]
      exact s.eval_wk _ _ _ _ _ _ w2
    · cases h
  · exact buildStO_ok h
  · exact lookO_ok h
  · exact sliceO_ok h
  · rename_i t x y
    rcases Bool.eq_false_or_eq_true (TyX.x P t).ar.isSome with hb | hb
    · rw [hb] at h
      exact arrO_ok h
    · rw [hb] at h
      exact runO_ok h
  · rename_i o t x y tY
    rcases Bool.eq_false_or_eq_true ((s.eval x).isStr && (s.eval y).isStr) with hb | hb
    · rw [hb] at h
      simp only [Bool.and_eq_true] at hb
      simp only [cond_true] at h
      split at h
      · exact eqStO_ok (neg := false) rfl hb.1 hb.2 h
      · exact eqStO_ok (neg := true) rfl hb.1 hb.2 h
      · cases h
    · rw [hb] at h
      exact runO_ok h
  · exact runO_ok h
def makeMapO (P : Program) [Tys P] [TyX P] (t : TypeId) (K : OD → Option ρ) : Option ρ := match (TyX.x P t).mp with
  | some (sk, _, τ) => K (.mp sk τ (fun _ => none))
  | none => none
theorem weak_addM {s : ESt} {sk : Bool} {τ : Ty} (hf : Fair s) (d : Option Tmp) :
    Weak (((toSt s).on ((toSt s).heap.addM sk (fun _ => none))).put d (.mref ⟨s.heap.next, []⟩)) (toSt ((s.on (s.heap.add s.heap.next (.mp sk τ (fun _ => none)))).put d (.mref s.heap.next))) := by
  have hsl : ∀ i : Id, ((toSt s).heap.addM sk (fun _ => none)).slot i = if i = ⟨s.heap.next, []⟩ then .mp sk (fun _ => none) else (toH s.heap).slot i := fun i => by
    show (bif Id.beq i ⟨s.heap.next, []⟩ then _ else _) = _
    exact beq_if _ _ _ _
  have hnew : ∀ p, (toH (s.heap.add s.heap.next (.mp sk τ (fun _ => none)))).slot ⟨s.heap.next, p⟩ = (OD.mp sk τ (fun _ => none)).slot (s.heap.add s.heap.next (.mp sk τ (fun _ => none))).len s.heap.next p := fun p => by
    show ((s.heap.add s.heap.next (.mp sk τ (fun _ => none))).obj s.heap.next).slot _ _ _ = _
    simp only [EHeap.add, Nat.beq_refl, cond_true]
  refine weak_root hf s.heap.next (fun k' hk => by simp only [EHeap.add, natBeq_ne hk, cond_false]) (fun id p hb => ?_) (fun i hi => ?_) rfl (fun hn i hi => ?_) (fun p hne => ?_) (fun p o' hl => ?_) (fun p sb g' hl => ?_) d (fun _ => by simp only [toV]; exact Wk.refl _)
  · have : id ≠ s.heap.next := fun e => hb (hf.next ⟨id, p⟩ (by rw [e]; exact Nat.le_refl _))
    exact EHeap.len_obj (EHeap.add_ne this) p
  · rw [hsl, if_neg (fun e => hi (by rw [e]))]
  · have hi : s.heap.next + 1 ≤ i.k := hi
    have hne : i.k ≠ s.heap.next := by omega
    have := hf.next i (by omega)
    have h' : (s.heap.obj i.k).slot s.heap.len i.k i.p = .unborn := this
    show ((s.heap.add s.heap.next (.mp sk τ (fun _ => none))).obj i.k).slot _ _ _ = .unborn
    simp only [EHeap.add, natBeq_ne hne, cond_false]
    exact (slot_dead (len := s.heap.len)).2.2 h'
  · rw [hsl] at hne ⊢
    by_cases hp : p = []
    · subst hp
      rw [if_pos rfl, hnew]
      trivial
    · rw [if_neg (fun e => hp (by injection e))] at hne
      exact absurd (hf.next ⟨s.heap.next, p⟩ (Nat.le_refl _)) hne
  · rw [hnew] at hl
    cases p <;> cases hl
  · rw [hnew] at hl
    rw [hsl]
    cases p with
    | nil => rw [if_pos rfl]; exact hl
    | cons x y => cases hl
theorem makeMapO_ok [T : Tys P] [X : TyX P] {s : ESt} {t : TypeId} {K : ESt → Option ρ} {res : ρ} (hK : ∀ s', K s' = some res → SLT P L Q s')
    (h : makeMapO P t (fun o => litO s.heap.next fun id => K ((s.on (s.heap.add id o)).put d (.mref id))) = some res) : SLT P (⟨d, .makeMap t none, ty, none⟩ :: L) Q s := by
  refine ⟨SL.fair fun hf => ?_⟩
  unfold makeMapO at h
  split at h
  · rename_i sk e τ hm
    simp only [litO_eq] at h
    exact SL.makeMap (SL.weak (weak_addM hf d) (hK _ h).out)
  · cases h
def updO (P : Program) [Tys P] [TyX P] (s : ESt) (d : Option Tmp) (t : TypeId) (x y z : Operand) (K : ESt → Option ρ) : Option ρ := match (TyX.x P t).mp with
  | some (sk, _, _) => match s.eval x with
    | .mref id => match s.heap.obj id with
      | .mp sm τ g => bif froT τ && (Nat.beq τ.sz 1 && (sm == sk)) then (match keyE sm (s.eval y) with
        | some k => match setC τ τ.z 0 (s.eval z) with
          | some v => K ((s.on (s.heap.set id (.mp sm τ (mput g k v)))).put d .un)
          | none => none
        | none => none) else none
      | _ => none
    | _ => none
  | none => none
theorem weak_setM {s : ESt} {sk : Bool} {τ : Ty} {id : Nat} {g g' : MKey → Option τ.D} {G : MKey → Option V} (hf : Fair s) (ho : s.heap.obj id = .mp sk τ g) (hG : G = fun x => match g' x with
    | some y => some (.t (encC τ y 0))
    | none => none) (d : Option Tmp) :
    Weak (((toSt s).on ((toSt s).heap.setM ⟨id, []⟩ sk G)).put d .un) (toSt ((s.on (s.heap.set id (.mp sk τ g'))).put d .un)) := by
  subst hG
  have hlen : ∀ j p, (s.heap.set id (.mp sk τ g')).len j p = s.heap.len j p := fun j p => by
    by_cases hj : j = id
    · subst hj
      unfold EHeap.len
      simp only [EHeap.set, Nat.beq_refl, cond_true]
      rw [ho]; rfl
    · exact EHeap.len_obj (EHeap.set_ne hj) p
  have hs1 : ∀ i : Id, ((toSt s).heap.setM ⟨id, []⟩ sk (fun x => match g' x with
    | some y => some (.t (encC τ y 0))
    | none => none)).slot i = if i = ⟨id, []⟩ then .mp sk (fun x => match g' x with
    | some y => some (.t (encC τ y 0))
    | none => none) else (toH s.heap).slot i := fun i => by
    show (bif Id.beq i ⟨id, []⟩ then _ else _) = _
    exact beq_if _ _ _ _
  have hsn : ∀ p, (toH (s.heap.set id (.mp sk τ g'))).slot ⟨id, p⟩ = (OD.mp sk τ g').slot (s.heap.set id (.mp sk τ g')).len id p := fun p => by
    show ((s.heap.set id (.mp sk τ g')).obj id).slot _ _ _ = _
    simp only [EHeap.set, Nat.beq_refl, cond_true]
  have hun : ∀ x y, (toH s.heap).slot ⟨id, x :: y⟩ = .unborn := fun x y => by
    show (s.heap.obj id).slot _ _ _ = _
    rw [ho]; rfl
  refine weak_root hf id (fun k' hk => EHeap.set_ne hk) (fun j q _ => hlen j q) (fun i hi => by rw [hs1, if_neg (fun e => hi (by rw [e]))]) rfl (fun hn i hi => ?_) (fun p hne => ?_) (fun p o' hl' => ?_) (fun p sb g' hl' => ?_) d (fun _ => by simp only [toV]; exact Wk.refl _)
  · by_cases hi2 : i.k = id
    · obtain ⟨j, p⟩ := i
      simp only at hi2
      subst hi2
      have := hn ⟨j, p⟩ hi
      rw [hs1] at this
      rw [hsn]
      split at this
      · cases this
      · rename_i hne
        cases p with
        | nil => exact absurd rfl hne
        | cons x y => rfl
    · have := hf.next i hi
      have h' : (s.heap.obj i.k).slot s.heap.len i.k i.p = .unborn := this
      show ((s.heap.set id (.mp sk τ g')).obj i.k).slot _ _ _ = .unborn
      rw [EHeap.set_ne hi2]
      exact (slot_dead (len := s.heap.len)).2.2 h'
  · rw [hs1] at hne ⊢
    cases p with
    | nil => rw [if_pos rfl, hsn]; trivial
    | cons x y => rw [if_neg (fun e => by injection e with _ e; cases e)] at hne; exact absurd (hun x y) hne
  · rw [hsn] at hl'
    cases p <;> cases hl'
  · rw [hsn] at hl'
    rw [hs1]
    cases p with
    | nil => rw [if_pos rfl]; exact hl'
    | cons x y => cases hl'
theorem updO_ok [T : Tys P] [X : TyX P] {s : ESt} {t : TypeId} {x y z : Operand} {K : ESt → Option ρ} {res : ρ} (hK : ∀ s', K s' = some res → SLT P L Q s')
    (h : updO P s d t x y z K = some res) : SLT P (⟨d, .mapUpdate t x y z, ty, none⟩ :: L) Q s := by
  refine ⟨SL.fair fun hf => ?_⟩
  unfold updO at h
  split at h
  · rename_i sk e τ0 hm
    have ht := (X.ok t).mp _ _ _ hm
    split at h
    · rename_i id hx
      have hx := eval_eq hx rfl
      split at h
      · rename_i sm τ g ho
        have hh := bif_none h
        clear h
        obtain ⟨hb, h⟩ := hh
        simp only [Bool.and_eq_true] at hb
        obtain ⟨b1, b2, b3⟩ := hb
        have b2 := Nat.eq_of_beq_eq_true b2
        have b3 : sm = sk := by simpa using b3
        subst b3
        split at h
        · rename_i k hk
          split at h
          · rename_i v hv
            obtain ⟨k1, k2⟩ := keyE_ok hk
            obtain ⟨_, ⟨u, hu, hw⟩, _⟩ := setC_ok _ _ _ _ _ hv
            obtain ⟨u', hu', he⟩ := cellC_enc τ v 0 b1
            rw [hu] at hu'; injection hu' with hu'; subst hu'
            have he := he (by omega) s.heap.len
            have hsl' : (toSt s).heap.slot ⟨id, []⟩ = _ := slot_map ho
            refine SL.mapUpdate (u := .t (encC τ v 0)) ht hx hsl' k1 k2 (fun E ι F a w r => ?_) (SL.weak (weak_setM (g := g) (g' := mput g k v) hf ho ?_ d) (hK _ h).out)
            · have := hw s.heap.len _ _ _ _ _ (s.eval_wk z _ _ _ _ _ (r.eval z))
              rw [he] at this
              exact this
            · funext q
              unfold putK mput
              by_cases hq : q = k
              · rw [if_pos hq, if_pos hq]
              · rw [if_neg hq, if_neg hq]
          · cases h
        · cases h
      · cases h
    · cases h
  · cases h
end
end
end Go.Abs


set_option linter.unusedVariables false
set_option linter.unusedSimpArgs false
set_option linter.unusedSectionVars false
namespace Go.Abs
open Go
noncomputable section
variable {P : Program} {d : Option Tmp} {ty : TypeId} {L : List GOp} {ρ : Type}
section
variable [SU] [Codes] {Q : Exit → St → Prop} {st : St}
theorem SL.trunc {t e : TypeId} {sz by_ : Nat} [ht : TySlice P t e sz by_] {x y : Operand} {id : Id} {o : AObj} {k : IntKind} {h : Int} (hx : st.eval x = .sref id o.ver 0 o.n) (ho : st.heap.slot id = .live o) (hz : o.sz = sz)
    (hy : st.eval y = .t (.int k h)) (h0 : 0 ≤ h) (h1 : h ≤ o.n) (hk : SL P L Q ((st.on (st.heap.set id { o with n := h.toNat, ver := o.ver + 1 })).put d (.sref id (o.ver + 1) 0 h.toNat))) :
    SL P (⟨d, .slice t x none (some y) none, ty, none⟩ :: L) Q st :=
  SL.value rfl fun E ι F a w r => by
    have hr := r.eval x
    rw [hx] at hr
    obtain ⟨_, hr⟩ := hr
    rw [ho] at hr
    obtain ⟨_, hr⟩ := hr
    obtain ⟨_, A, cap, e1, e2, e3⟩ := hr rfl
    subst hz
    have hb : BndOk o.n none (some (k, h)) := ⟨fun p hp => (by cases hp; exact ⟨h0, h1⟩), fun p hp => (by cases hp)⟩
    have hrun := sliceAt_run (P := P) (t := t) (A := A) e2 hb w
    simp only [Option.map_none, Option.map_some, lowN, highN] at hrun
    have hval : sliced A 0 h.toNat cap o.sz = .slice A h.toNat cap := by
      unfold sliced
      simp only [Nat.zero_mul, Nat.sub_zero]
      split
      · rfl
      · cases A with
        | none => rfl
        | some ad => simp [Addr.add]
    rw [hval] at hrun
    have hex : (execOp a.eval (GOp.oper ⟨d, .slice t x none (some y) none, ty, none⟩)).run P w = .ok (.value (.slice A h.toNat cap)) w := by
      simp only [execOp, GOp.oper, Option.map_none, Option.map_some, e1, int_eval r hy, Sem.run_bind, hrun, Result.andThen_ok, Sem.run_pure]
    have hH : ∀ i, (st.heap.set id { o with n := h.toNat, ver := o.ver + 1 }).slot i = if i = id then .live { o with n := h.toNat, ver := o.ver + 1 } else st.heap.slot i := fun i => beq_if _ _ _ _
    have hnx : ∀ i : Id, (st.heap.set id { o with n := h.toNat, ver := o.ver + 1 }).next ≤ i.k → i ≠ id ∧ st.heap.next ≤ i.k := fun i hi => ⟨fun e => (by subst e; rw [r.h.next _ hi] at ho; cases ho), hi⟩
    obtain ⟨hlen, ho2⟩ := r.h.obj id o ho
    have hself : (st.heap.set id { o with n := h.toNat, ver := o.ver + 1 }).slot id = .live { o with n := h.toNat, ver := o.ver + 1 } := by rw [hH, if_pos rfl]
    cases hι : ι id with
    | none =>
      rw [hι] at ho2
      have ho2 : o.n = 0 := ho2
      have hh : h.toNat = 0 := by omega
      obtain ⟨g1, g2⟩ := r.h.virt id { o with n := h.toNat, ver := o.ver + 1 } _ hH hnx rfl hh (by rw [ho]; show o.ver < o.ver + 1; omega)
      refine ⟨_, w, _, F, _, .sref id (o.ver + 1) 0 h.toNat, hex, g1, g2, ⟨rfl, ?_⟩, hk⟩
      rw [hself]
      refine ⟨Nat.le_refl _, fun _ => ⟨by show 0 + h.toNat ≤ h.toNat; omega, A, cap, rfl, by omega, fun hc => ?_⟩⟩
      obtain ⟨b, cur, q1, _⟩ := e3 hc
      rw [hι] at q1; cases q1
    | some b =>
      rw [hι] at ho2
      obtain ⟨cur, c1, c2, c3⟩ := ho2
      have hle : h.toNat ≤ o.n := by omega
      obtain ⟨g1, g2⟩ := r.h.step id b { o with n := h.toNat, ver := o.ver + 1 } cur w _ hH hnx rfl rfl rfl rfl (Nat.le_refl _) (fun _ _ _ => rfl) c1 (.inr ⟨hι, by rw [ho]; trivial⟩) (Nat.le_trans hle hlen)
        (Nat.le_trans (Nat.mul_le_mul_right _ hle) c2) (fun i hi j hj => c3 i (Nat.lt_of_lt_of_le hi hle) j hj) (by rw [ho]; exact ⟨Nat.le_succ _, fun e => absurd e (by simp)⟩)
      refine ⟨_, w, _, F, _, .sref id (o.ver + 1) 0 h.toNat, hex, g1, g2, ⟨rfl, ?_⟩, hk⟩
      rw [hself]
      refine ⟨Nat.le_refl _, fun _ => ⟨by show 0 + h.toNat ≤ h.toNat; omega, A, cap, rfl, by omega, fun hc => ?_⟩⟩
      obtain ⟨b', cur', q1, q2, q3, q4⟩ := e3 hc
      rw [hι] at q1
      exact ⟨b', cur', by simp [upd]; exact Option.some.inj q1, q2, q3, q4⟩
theorem eqNil_run {t e : TypeId} {sz by_ : Nat} [ht : TySlice P t e sz by_] (dp : Nat) (A : Option Addr) (n cap : Nat) (w : World) : (Op.equalIn (dp + 1) t (.slice A n cap) (.slice none 0 0)).run P w = .ok A.isNone w := by
  simp only [Op.equalIn, Sem.run_bind, run_underlying' ht.d, Result.andThen_ok]
  cases A <;> rfl
theorem SL.nilCmp {t e : TypeId} {sz by_ : Nat} [ht : TySlice P t e sz by_] {x : Operand} {o : BinOp} {tY : TypeId} {neg : Bool} (hop : o = if neg = true then .neq else .eql) {emp : Prop}
    (hx : ∀ E ι F a w, Rel E ι F st a w → ∃ A n cap, a.eval x = .slice A n cap ∧ (A = none → emp))
    (hk0 : SL P L Q (st.put d (.t (.bool neg)))) (hk1 : emp → SL P L Q (st.put d (.t (.bool !neg)))) :
    SL P (⟨d, .binOp o t x (.const (.slice none 0 0)) tY, ty, none⟩ :: L) Q st :=
  SL.value rfl fun E ι F a w r => by
    obtain ⟨A, n, cap, e1, e2⟩ := hx E ι F a w r
    have heq : (Op.equal t (.slice A n cap) (.slice none 0 0)).run P w = .ok A.isNone w := eqNil_run 9999 A n cap w
    have ec : a.eval (.const (.slice none 0 0)) = .slice none 0 0 := rfl
    have hg : ∀ o', (eqGuard o' t x (.const (.slice none 0 0)) (.slice A n cap) (.slice none 0 0)).run P w = .ok () w := fun o' => by
      unfold eqGuard; cases o' <;> rfl
    have hex : (execOp a.eval (GOp.oper ⟨d, .binOp o t x (.const (.slice none 0 0)) tY, ty, none⟩)).run P w = .ok (.value (.bool (if neg = true then !A.isNone else A.isNone))) w := by
      cases neg with
      | false =>
        subst hop
        simp only [execOp, GOp.oper, e1, ec, Bool.false_eq_true, if_false, Sem.run_bind, hg, Result.andThen_ok, binOp, heq, Sem.run_pure]
      | true =>
        subst hop
        simp only [execOp, GOp.oper, e1, ec, if_true, Sem.run_bind, hg, Result.andThen_ok, binOp, heq, Sem.run_pure]
    cases A with
    | none =>
      refine ⟨_, w, ι, F, st.heap, .t (.bool !neg), hex, r.h, Ext.refl _ _ _ _, ?_, hk1 (e2 rfl)⟩
      cases neg <;> rfl
    | some ad =>
      refine ⟨_, w, ι, F, st.heap, .t (.bool neg), hex, r.h, Ext.refl _ _ _ _, ?_, hk0⟩
      cases neg <;> rfl
theorem SL.bytes {src dst e : TypeId} (hs : P.underlying src = some .string) (hd : P.underlying dst = some (.slice e)) (he : P.underlying e = some (.int .u8)) {x : Operand} {b : ByteArray} (hx : st.eval x = .t (.str b)) (hb : b.size ≤ LEN)
    (hk : SL P L Q (st.put d (.t (.sl 1 b.size (fun i _ => .int .u8 ((b.data.getD i 0).toNat : Nat)))))) :
    SL P (⟨d, .convert src dst x, ty, none⟩ :: L) Q st :=
  SL.value rfl fun E ι F a w r => by
    have hr := r.eval x
    rw [hx] at hr
    have hr := hr.1
    have key : ∃ cap cells m w', b.size ≤ cap ∧ (Conv.stringToBytes e b).run P w = .ok (.slice (some ⟨w.heap.size, 0, none⟩) b.size cap) w' ∧ w'.os = w.os ∧ w'.tape = w.tape ∧ w'.output = w.output ∧ w'.heap.size = w.heap.size + 1 ∧
        (∀ k, k < w.heap.size → w'.heap[k]? = w.heap[k]?) ∧ w'.heap[w.heap.size]? = some (.cells cells e m) ∧ ∀ i, i < b.size → cells[i]? = some (.int .u8 ((b.data.getD i 0).toNat : Nat)) := by
      have hforced : (Question.appendCap b.size 0 e).forced = false := by rfl
      have hcap : b.size ≤ (Question.appendCap b.size 0 e).cut (w.tape w.drawn (.appendCap b.size 0 e)) := Nat.le_add_right _ _
      generalize hq : (Question.appendCap b.size 0 e).cut (w.tape w.drawn (.appendCap b.size 0 e)) = cap at hcap
      generalize hc : (b.data.map fun x => Value.int .u8 (x.toNat : Nat)) ++ Array.replicate (cap - b.size) (.int .u8 0) = cells
      have hsz : (w.drew.alloc (.cells cells e)).heap[w.heap.size]? = some (.cells cells e (0, 0)) := (MapKept.heap_alloc w.drew _).1
      have hlt : w.heap.size < (w.drew.alloc (.cells cells e)).heap.size := (Array.getElem?_eq_some_iff.1 hsz).1
      refine ⟨cap, cells, (cells.size, cells.size + 1), (w.drew.alloc (.cells cells e)).freeze ⟨w.heap.size, cells.size, none⟩ 1, hcap, ?_, rfl, rfl, rfl, ?_, fun k hk => ?_, ?_, fun i hi => ?_⟩
      · simp only [Conv.stringToBytes, Sem.run_bind, run_choose_drew, hforced, Bool.false_eq_true, if_false, Result.andThen_ok, newRow, run_newObj_alloc, Sem.run_pure, markStringish, run_shape, hq, hc]
        have : (w.drew.alloc (.cells cells e)).shape? w.drew.heap.size = some (e, cells.size) := by
          show (match (w.drew.alloc (.cells cells e)).heap[w.heap.size]? with
            | some (.cells c elem _) => some (elem, c.size)
            | _ => none) = _
          rw [hsz]
        simp only [this, Sem.run_bind, run_freeze, Result.andThen_ok, Sem.run_pure]
        rfl
      · show ((w.heap.push _).modify _ _).size = _
        simp
      · show ((w.heap.push _).modify _ _)[k]? = _
        rw [Array.getElem?_modify, if_neg (by show ¬ w.heap.size = k; omega), Array.getElem?_push_lt hk]
        exact (Array.getElem?_eq_getElem hk).symm
      · show ((w.heap.push _).modify _ _)[w.heap.size]? = _
        rw [Array.getElem?_modify, if_pos rfl]
        have : (w.heap.push (Obj.cells cells e (0, 0)))[w.heap.size]? = some (.cells cells e (0, 0)) := by simp
        exact (congrArg (Option.map _) this).trans rfl
      · subst hc
        have hi' : i < b.data.size := hi
        rw [Array.getElem?_append_left (by simpa using hi')]
        rw [Array.getElem?_map, Array.getElem?_eq_getElem hi', Option.map_some]
        rw [Array.getD_eq_getD_getElem?, Array.getElem?_eq_getElem hi', Option.getD_some]
    obtain ⟨cap, cells, m, w', hcap, hrun, k1, k2, k3, k4, k5, k6, k7⟩ := key
    obtain ⟨g1, g2⟩ := r.h.grow (F' := fun k => F k ∨ k = w.heap.size) k1 k2 k3 (by omega) k5 (fun k h => .inl h) (fun k h => by rcases h with h | h; exact .inl h; exact .inr (by omega)) (fun k h => by rcases h with h | h; (have := r.h.frlt k h; omega); omega)
    refine ⟨.slice (some ⟨w.heap.size, 0, none⟩) b.size cap, w', ι, _, st.heap, _, ?_, g1, g2, ?_, hk⟩
    · simp only [execOp, GOp.oper, convert, hr, Sem.run_bind, run_underlying' hs, run_underlying' hd, run_underlying' he, Result.andThen_ok, hrun, Sem.run_pure]
    · refine ⟨_, cap, rfl, hcap, hb, fun hn => ⟨w.heap.size, 0, rfl, .inr rfl, fun i hi j hj => ⟨_, ?_, rfl⟩⟩⟩
      have : j = 0 := by omega
      subst this
      simp only [World.cell?, k6]
      simpa using k7 i hi
end
section
variable [SU] [Codes] {Q : Exit → ESt → Prop}
def bytesI (b : ByteArray) : List Int := b.data.toList.map fun x => (x.toNat : Int)
theorem bytesI_len (b : ByteArray) : (bytesI b).length = b.size := by simp [bytesI]
def bytesO (P : Program) [Tys P] (s : ESt) (d : Option Tmp) (src dst : TypeId) (x : Operand) (K : ESt → Option ρ) : Option ρ := match (Tys.c P src).desc, (Tys.c P dst).sl, s.eval x with
  | some .string, some (e, _, _), .s b => match (Tys.c P e).desc with
    | some (.int .u8) => grd (okB (b.size ≤ 281474976710656)) (K (s.put d (.fz (.int .u8) (bytesI b))))
    | _ => none
  | _, _, _ => none
theorem bytesO_ok [T : Tys P] {s : ESt} {src dst : TypeId} {x : Operand} {K : ESt → Option ρ} {res : ρ} (hK : ∀ s', K s' = some res → SLT P L Q s') (h : bytesO P s d src dst x K = some res) : SLT P (⟨d, .convert src dst x, ty, none⟩ :: L) Q s := by
  refine ⟨?_⟩
  unfold bytesO at h
  split at h
  · rename_i e sz by_ b h1 h2 hx
    have t1 := (T.ok src).desc _ h1
    have t2 := (T.ok dst).sl _ _ _ h2
    split at h
    · rename_i h3
      have t3 := (T.ok e).desc _ h3
      obtain ⟨hp, h⟩ := grd_out h
      have hp := okB_out hp
      have hx := eval_eq hx rfl
      refine SL.bytes t1.d t2.d t3.d hx hp ?_
      have := (hK _ h).out
      rw [toSt_put] at this
      have e : toV s.heap.len (.fz (.int .u8) (bytesI b)) = .t (.sl 1 b.size (fun i _ => .int .u8 ((b.data.getD i 0).toNat : Nat))) := by
        simp only [toV, encL]
        have e1 : (bytesI b).length = b.size := bytesI_len b
        show V.t (.sl 1 (bytesI b).length (fun r c => .int .u8 ((bytesI b).getD r 0))) = _
        rw [e1]
        congr 2
        funext i _
        congr 1
        simp only [bytesI, List.getD_eq_getElem?_getD, List.getElem?_map, Array.getElem?_toList, Array.getD_eq_getD_getElem?]
        cases b.data[i]? <;> rfl
      rw [e] at this
      exact this
    · cases h
  · cases h
def nilQ (s : ESt) (o : BinOp) (x y : Operand) : Option (Bool × Prop) := match y with
  | .const (.slice none 0 0) => match (match o with | .eql => some false | .neq => some true | _ => none) with
    | some neg => match s.eval x with
      | .fz _ l => some (neg, l = [])
      | .sfull id p => match s.heap.at id p with
        | some v => some (neg, v.l = [])
        | none => none
      | _ => none
    | none => none
  | _ => none
def nilK (s : ESt) (d : Option Tmp) (neg : Bool) (emp : Prop) (K : ESt → Option ρ) : Option ρ :=
  grd (okB (emp → K (s.put d (.b (!neg))) = K (s.put d (.b neg)))) (K (s.put d (.b neg)))
def isSlTy (P : Program) [Tys P] (t : TypeId) : Bool := match (Tys.c P t).sl with
  | some _ => true
  | none => false
theorem nilK_ok [T : Tys P] {s : ESt} {o : BinOp} {t tY : TypeId} {x y : Operand} {neg : Bool} {emp : Prop} {K : ESt → Option ρ} {res : ρ} (hK : ∀ s', K s' = some res → SLT P L Q s') (hq : nilQ s o x y = some (neg, emp)) (ht : isSlTy P t = true)
    (h : nilK s d neg emp K = some res) : SLT P (⟨d, .binOp o t x y tY, ty, none⟩ :: L) Q s := by
  refine ⟨?_⟩
  obtain ⟨hp, h⟩ := grd_out h
  have hp := okB_out hp
  unfold isSlTy at ht
  split at ht
  rotate_left
  · cases ht
  rename_i q hsl
  obtain ⟨e, sz, by_⟩ := q
  have t2 := (T.ok t).sl _ _ _ hsl
  unfold nilQ at hq
  split at hq
  · split at hq
    · rename_i neg' hneg
      have hop : ∀ b, neg' = b → o = if b = true then .neq else .eql := fun b hb => by
        subst hb
        split at hneg <;> first | (injection hneg with hneg; subst hneg; rfl) | cases hneg
      have k0 : K (s.put d (.b neg)) = some res := h
      have done : (∀ E ι F a w, Rel E ι F (toSt s) a w → ∃ A n cap, a.eval x = .slice A n cap ∧ (A = none → emp)) → neg' = neg → SL P (⟨d, .binOp o t x (.const (.slice none 0 0)) tY, ty, none⟩ :: L) (liftQ Q) (toSt s) := fun hx hn => by
        refine SL.nilCmp (e := e) (sz := sz) (by_ := by_) (neg := neg) (hop _ hn) hx ?_ (fun he => ?_)
        · have := (hK _ k0).out
          rw [toSt_put] at this
          exact this
        · have := (hK _ ((hp he).trans k0)).out
          rw [toSt_put] at this
          exact this
      split at hq
      · rename_i τ l hx
        injection hq with hq
        injection hq with q1 q2
        have hx := eval_eq hx rfl
        refine done (fun E ι F a w r => ?_) q1
        have hr := r.eval x
        rw [hx] at hr
        simp only [toV, encL] at hr
        obtain ⟨A, cap, e1, e2, e3, e4⟩ := hr
        refine ⟨A, _, cap, e1, fun hA => ?_⟩
        rw [← q2]
        cases l with
        | nil => rfl
        | cons a l =>
          obtain ⟨b, o, q, _⟩ := e4 (by simp)
          rw [hA] at q; cases q
      · rename_i id p hx
        split at hq
        · rename_i v hv
          injection hq with hq
          injection hq with q1 q2
          have hx := eval_eq hx rfl
          refine done (fun E ι F a w r => ?_) q1
          have hr := r.eval x
          rw [hx] at hr
          simp only [toV, EHeap.len_at hv] at hr
          obtain ⟨_, hr⟩ := hr
          have hs' : (toSt s).heap.slot ⟨id, p⟩ = .live (v.obj s.heap.len id p) := slot_lst hv
          rw [hs'] at hr
          obtain ⟨_, hr⟩ := hr
          obtain ⟨hn, A, cap, e1, e2, e3⟩ := hr rfl
          refine ⟨A, _, cap, e1, fun hA => ?_⟩
          rw [← q2]
          cases hl : v.l with
          | nil => rfl
          | cons a l =>
            obtain ⟨b, cur, _, q, _⟩ := e3 (by rw [hl] at e2; simp at e2; omega)
            rw [hA] at q; cases q
        · cases hq
      · cases hq
    · cases hq
  · cases hq
def truncO (P : Program) [Tys P] (s : ESt) (d : Option Tmp) (t : TypeId) (x y : Operand) (K : ESt → Option ρ) : Option ρ := match (Tys.c P t).sl, s.eval x, s.eval y with
  | some (_, sz, _), .sfull id [], .i _ h => match s.heap.obj id with
    | .lst v => bif froT v.τ && Nat.beq v.τ.sz sz then grd (okB (0 ≤ h ∧ h ≤ v.l.length))
        (bif Nat.ble s.heap.lo id then K ((s.app (rootIs id) id id s.heap.next ⟨v.e, v.τ, v.l.take h.toNat⟩).put d (.sfull id []))
         else bif Nat.ble s.heap.lo s.heap.next then litO s.heap.next fun k2 => K ((s.app (rootIs id) id k2 (k2 + 1) ⟨v.e, v.τ, v.l.take h.toNat⟩).put d (.sfull k2 [])) else none) else none
    | _ => none
  | _, _, _ => none
theorem truncO_ok [T : Tys P] {s : ESt} {t : TypeId} {x y : Operand} {K : ESt → Option ρ} {res : ρ} (hK : ∀ s', K s' = some res → SLT P L Q s') (h : truncO P s d t x y K = some res) : SLT P (⟨d, .slice t x none (some y) none, ty, none⟩ :: L) Q s := by
  refine ⟨SL.fair fun hf => ?_⟩
  unfold truncO at h
  split at h
  · rename_i e sz by_ id k hh hsl hx hy
    have ht := (T.ok t).sl _ _ _ hsl
    split at h
    · rename_i v ho
      obtain ⟨ve, vτ, vl⟩ := v
      have hb := bif_none h
      clear h
      obtain ⟨hb, h⟩ := hb
      simp only [Bool.and_eq_true] at hb
      obtain ⟨hfro, hb⟩ := hb
      have hb := Nat.eq_of_beq_eq_true hb
      obtain ⟨hp, h⟩ := grd_out h
      obtain ⟨p1, p2⟩ := okB_out hp
      simp only at p2
      have hat : s.heap.at id [] = some ⟨ve, vτ, vl⟩ := by simp only [EHeap.at, ho, LV.at_nil]
      have hx := eval_eq hx rfl
      have hy := eval_eq hy rfl
      simp only [toV, EHeap.len_at hat] at hx
      simp only [toV] at hy
      have hs := slot_lst hat
      have hlive : id < s.heap.next := Classical.byContradiction fun hn => by
        have := hf.next ⟨id, []⟩ (Nat.le_of_not_lt hn)
        rw [hs] at this; cases this
      have hunb : ∀ p, (toH s.heap).slot ⟨s.heap.next, p⟩ = .unborn := fun p => hf.next ⟨s.heap.next, p⟩ (Nat.le_refl _)
      have hold : ∀ p, p ≠ [] → (toH s.heap).slot ⟨id, p⟩ = .unborn := fun p hp => by
        show (s.heap.obj id).slot _ _ _ = _
        rw [ho]
        exact OD.flat_slot (o := .lst ⟨ve, vτ, vl⟩) hfro p hp
      have hmin : min hh.toNat vl.length = hh.toNat := by omega
      refine SL.trunc (P := P) (t := t) (by_ := by_) (sz := sz) (o := LV.obj s.heap.len id [] ⟨ve, vτ, vl⟩) hx hs hb hy p1 p2 ?_
      have main : ∀ k2 nx, (k2 = id ∨ ∀ p, (toH s.heap).slot ⟨k2, p⟩ = .unborn) → s.heap.next ≤ nx → k2 < nx → s.heap.lo ≤ k2 → K ((s.app (rootIs id) id k2 nx ⟨ve, vτ, vl.take hh.toNat⟩).put d (.sfull k2 [])) = some res →
          SL P L (liftQ Q) (((toSt s).on ((toSt s).heap.set ⟨id, []⟩ { LV.obj s.heap.len id [] ⟨ve, vτ, vl⟩ with n := hh.toNat, ver := 0 + 1 })).put d (.sref ⟨id, []⟩ (0 + 1) 0 hh.toNat)) := by
        intro k2 nx q1 q2 q3 q4 q5
        refine SL.weak (weak_app (k := id) (k2 := k2) (nx := nx) (f := rootIs id) (v := ⟨ve, vτ, vl.take hh.toNat⟩) (a1 := { LV.obj s.heap.len id [] ⟨ve, vτ, vl⟩ with n := hh.toNat, ver := 0 + 1 }) hf hfro (fun i => ?_) rfl rfl rfl (by simp [hmin]) (fun r hr c hc => ?_) hold q1 q2 (by omega) q3 q4 (fun j p e _ e2 => by subst e2; simp [rootIs] at e) (fun j p hne => by simp only [rootIs, natBeq_ne hne, cond_false]) (fun j p u h => by unfold rootIs at h; cases hb : Nat.beq j id <;> rw [hb] at h <;> first | (cases h; done) | (injection h with h; exact h.symm)) d (fun _ => Wk.refl _)) (hK _ q5).out
        · show (bif Id.beq i ⟨id, []⟩ then _ else _) = _
          exact beq_if _ _ _ _
        · have hr : r < hh.toNat := hr
          have hc : c < vτ.sz := hc
          show Wk (cellV s.heap.len id [] r c (cellC vτ (LV.row ⟨ve, vτ, vl⟩ r) c)) (.t (encC vτ ((vl.take hh.toNat).getD r vτ.z) c))
          obtain ⟨u, e1, e2⟩ := cellC_enc vτ (vl.getD r vτ.z) c hfro
          have e3 : cellC vτ (LV.row ⟨ve, vτ, vl⟩ r) c = .ev u := e1
          have e4 : (vl.take hh.toNat).getD r vτ.z = vl.getD r vτ.z := by simp only [List.getD_eq_getElem?_getD, List.getElem?_take, if_pos hr]
          rw [e3, e4]
          exact Wk.of_eq (e2 hc _)
      cases hlo : Nat.ble s.heap.lo id with
      | true =>
        rw [hlo] at h
        exact main id s.heap.next (.inl rfl) (Nat.le_refl _) hlive (Nat.le_of_ble_eq_true hlo) h
      | false =>
        rw [hlo] at h
        simp only [cond_false] at h
        obtain ⟨hlo2, h⟩ := bif_none h
        rw [litO_eq] at h
        exact main s.heap.next (s.heap.next + 1) (.inr hunb) (by omega) (by omega) (Nat.le_of_ble_eq_true hlo2) h
    · cases h
  · cases h
end
end
end Go.Abs


set_option linter.unusedVariables false
set_option linter.unusedSimpArgs false
set_option linter.unusedSectionVars false
namespace Go.Abs
open Go
noncomputable section
variable {P : Program} {d : Option Tmp} {ty : TypeId} {L : List GOp} {ρ : Type}
section
variable [SU] [Codes] [Dats] [FFs] {Q : Exit → ESt → Prop}
def ESt.sub (s : ESt) (g : EV → EV) (H : EHeap) : ESt := ⟨s.nt, fun t => g (s.env t), H⟩
structure Fit (c : Ctr P) where
  ks : List (Option Nat)
  x : DT c.ar
  y : DO c.os
def fitO (c : Ctr P) (s : ESt) (us : List EV) : Option (Fit c) :=
  let ks := ksOf (bindO s.heap c.os 0 (bindT (nthE us) c.ar [])) c.os 0
  bif nodK ks && (ltKs s.heap.next ks && (seqT 0 c.ar && (deadOk c.os c.ro && Nat.beq c.ar.length us.length))) then (match exT ks (nthE us) c.ar with
    | some x => match exOs ks s.heap c.os ks with
      | some y => some ⟨ks, x, y⟩
      | none => none
    | none => none) else none
theorem fitO_out {c : Ctr P} {s : ESt} {us : List EV} {z : Fit c} (h : fitO c s us = some z) : nodK z.ks = true ∧ ltKs s.heap.next z.ks = true ∧ seqT 0 c.ar = true ∧ deadOk c.os c.ro = true ∧ c.ar.length = us.length ∧ exT z.ks (nthE us) c.ar = some z.x ∧ exOs z.ks s.heap c.os z.ks = some z.y := by
  unfold fitO at h
  have hh := bif_none h
  clear h
  obtain ⟨hb, h⟩ := hh
  simp only [Bool.and_eq_true] at hb
  split at h
  · rename_i x hx
    split at h
    · rename_i y hy
      injection h with h
      subst h
      exact ⟨hb.1, hb.2.1, hb.2.2.1, hb.2.2.2.1, Nat.eq_of_beq_eq_true hb.2.2.2.2, hx, hy⟩
    · cases h
  · cases h
def callRun (c : Ctr P) (s : ESt) (z : Fit c) (d : Option Tmp) (K : ESt → Option ρ) : Option ρ :=
  callB (c.F z.x z.y) fun res => grd (lenOk s.heap (mkH c.os.length c.ro res.2) z.ks 0) (K ((s.sub (scrub (nestF z.ks)) (callH s.heap z.ks (mkH c.os.length c.ro res.2))).put d (renE (outK z.ks s.heap.next) (mkE c.rv res.1))))
def Ctr.quiet (c : Ctr P) : Bool := isNil c.os && isNil c.ro
theorem VRel.of_none1 {H : Heap} {ι ι3 : Id → Option Nat} {F : Nat → Prop} {w : World} {u : V} {v : Value} (h : VRel Heap.none ι3 F w u v) : VRel H ι F w u v :=
  Ext.of (H := Heap.none) (ι := ι3) (fun _ h => h) (fun _ _ => rfl) (fun id => by unfold SlotOk Heap.none; trivial) u v h
structure ArgsOk (P : Program) (g : GOp) (f : FuncId) (us : List EV) (s : ESt) : Prop where
  out : ∀ E ι F a w, Rel E ι F (toSt s) a w → ∃ cargs, (execOp a.eval g.oper).run P w = .ok (.enter f cargs) w ∧ us.length = cargs.size ∧ ∀ j, j < cargs.size → VRel (toH s.heap) ι F w (toV s.heap.len (nthE us j)) (cargs.getD j undef)
theorem quiet_call {c : Ctr P} {s : ESt} {us : List EV} {z : Fit c} {g : GOp} (hq : c.quiet = true) (ha : ArgsOk P g c.f us s)
    (hz : fitO c s us = some z) {res : c.rv.D × DO c.ro} (hF : c.F z.x z.y = some res) : QO P g (toV s.heap.len (mkE c.rv res.1)) (toSt s) := fun E ι F a w r => by
  obtain ⟨cargs, h1, h2, h3⟩ := ha.out E ι F a w r
  obtain ⟨z1, z2, z3, z4, z5, z6, z7⟩ := fitO_out hz
  obtain ⟨ks, x, y⟩ := z
  obtain ⟨f, fnok, ar, os, rv, ro, cF, ok⟩ := c
  simp only [Ctr.quiet, Bool.and_eq_true] at hq
  simp only at x y hF z1 z2 z3 z4 z5 z6 z7 res ok h1 h2 ha ⊢
  obtain rfl := isNil_out hq.1
  obtain rfl := isNil_out hq.2
  simp only [Oper.wp, h1, Oper.upon]
  have pt : Part (toH s.heap) (toH (mkH 0 [] y)) (mK ks) := part_ok z7 z1
  have hR : Roots ks s.heap (mkH 0 [] y) (mK ks) := roots_ok z7
  have r2 := pt.rel r.h
  have hargs : ∀ j, j < (mkArgs ar x).length → VRel (toH (mkH 0 [] y)) (mι (mK ks) ι) F w (toV (mkH 0 [] y).len (nthE (mkArgs ar x) j)) (cargs.getD j undef) := fun j hj => by
    rw [mkArgs_len] at hj
    rw [seqT_env z3 j, Nat.zero_add]
    have := exT_ok (Z := fun _ => False) hR ar x z6 j _ _ _ _ _ r.h (h3 j (by omega))
    rw [FZ_none] at this
    exact this
  refine ((ok x y res hF).out _ _ _ _ cargs r2 (by rw [mkArgs_len]; omega) hargs).mono fun e w' ⟨v, ι3, F3, Hx, cv, k1, r3, hv, k4, k5⟩ => ?_
  subst k1
  subst k4
  subst k5
  refine ⟨cv, F3, rfl, ⟨r3.os, r3.tape, r3.output, r3.size, fun b hb => r3.kept b hb ?_, fun b hb => ?_, fun b hb => ?_, r3.frlt⟩, ?_⟩
  · rintro ⟨id, h, _⟩; exact h
  · have := r3.ext (.fp 0 (fun _ => .any)) (.pointer (some ⟨b, 0, none⟩)) ⟨b, 0, rfl, hb, fun j hj => absurd hj (Nat.not_lt_zero _)⟩
    obtain ⟨b', o', e1, e2, _⟩ := this
    injection e1 with e1; injection e1 with e1; injection e1 with e1
    subst e1; exact e2
  · rcases r3.frin b hb with h | ⟨id, h, _⟩ | h
    · exact .inl h
    · exact h.elim
    · exact .inr h
  · have hb : Born Heap.none (toV (mkH 0 [] res.2).len (mkE rv res.1)) := hv.born
    rw [toV_len (H := Heap.none) (len' := s.heap.len) (fun id p h => absurd rfl h) _ hb]
    exact VRel.of_none1 hv
def callO (s : ESt) (f : FuncId) (us : List EV) (d : Option Tmp) (K : ESt → Option ρ) : List (Ctr P) → Option ρ
  | [] => none
  | c :: T => bif Nat.beq c.f f then (match fitO c s us with
    | some z => bif c.quiet then callB (c.F z.x z.y) (fun res => K (s.put d (mkE c.rv res.1))) else callRun c s z d K
    | none => callO s f us d K T) else callO s f us d K T
theorem Rel.sub {E : Env} {ι ι' : Id → Option Nat} {F F' : Nat → Prop} {s : ESt} {a : Act} {w w' : World} (r : Rel E ι F (toSt s) a w) {H' : EHeap} {g : EV → EV} (hH : RelH E ι' F' (toH H') w')
    (he : ∀ u v, Born (toH s.heap) (toV s.heap.len u) → VRel (toH s.heap) ι F w (toV s.heap.len u) v → VRel (toH H') ι' F' w' (toV H'.len (g u)) v) (d : Option Tmp) {u : EV} {v : Value} (hv : VRel (toH H') ι' F' w' (toV H'.len u) v) :
    Rel E ι' F' (toSt ((s.sub g H').put d u)) (a.put d v) w' := by
  have r1 : Rel E ι' F' (toSt (s.sub g H')) a w' := ⟨hH, fun t => he _ _ (r.env t).born (r.env t), r.nt, r.defers⟩
  have := r1.put_same d hv
  rw [toSt_put]
  exact this
theorem callRun_ok {c : Ctr P} {s : ESt} {us : List EV} {z : Fit c} {g : GOp} {K : ESt → Option ρ} {res : ρ} (hg : g.g = none) (ha : ArgsOk P g c.f us s) (hz : fitO c s us = some z) (hK : ∀ s', K s' = some res → SLT P L Q s')
    (h : callRun c s z g.dst K = some res) : SLT P (g :: L) Q s := by
  obtain ⟨y, hF, h⟩ := callB_out h
  have hh := grd_out h
  clear h
  obtain ⟨hlen, h⟩ := hh
  obtain ⟨z1, z2, z3, z4, z5, z6, z7⟩ := fitO_out hz
  have hk := (hK _ h).out
  refine ⟨⟨fun E ι F a w r => ?_⟩⟩
  obtain ⟨cargs, h1, h2, h3⟩ := ha.out E ι F a w r
  have hw : g.wanted a.tmps = true := by unfold GOp.wanted; rw [hg]
  simp only [lwp, hw, if_true, Oper.wp, h1, Oper.upon]
  refine (call_rel r.h r.fair c z1 z2 z3 z4 z6 z7 hF hlen (by omega) h3).mono fun e w' ⟨cv, ι', F', k1, k2, k3, k4, _⟩ => ?_
  subst k1
  exact hk.out E ι' F' _ _ (r.sub k2 k3 g.dst k4)
theorem callO_ok {s : ESt} {f : FuncId} {us : List EV} {g : GOp} {K : ESt → Option ρ} {res : ρ} (hg : g.g = none) (ha : ArgsOk P g f us s) (hK : ∀ s', K s' = some res → SLT P L Q s') : ∀ {T : List (Ctr P)},
    callO s f us g.dst K T = some res → SLT P (g :: L) Q s
  | [], h => by cases h
  | c :: T, h => by
    unfold callO at h
    cases hb : Nat.beq c.f f with
    | false => rw [hb] at h; exact callO_ok hg ha hK (T := T) h
    | true =>
      rw [hb] at h
      obtain rfl := Nat.eq_of_beq_eq_true hb
      simp only [cond_true] at h
      split at h
      · rename_i z hz
        cases hq : c.quiet with
        | false => rw [hq] at h; exact callRun_ok hg ha hz hK h
        | true =>
          rw [hq] at h
          have hh := callB_out h
          clear h
          obtain ⟨y, hF, h⟩ := hh
          have q := quiet_call hq ha hz hF
          obtain ⟨gd, gop, gty, gg⟩ := g
          simp only at hg
          subst hg
          refine ⟨SL.q q ?_⟩
          have := (hK _ h).out
          rwa [toSt_put] at this
      · exact callO_ok hg ha hK (T := T) h
structure SLTG (P : Program) (g : GOp) (K : ESt → Prop) (s : ESt) : Prop where
  out : SLG P g (liftK K) (toSt s)
theorem SLG.weak {g : GOp} {K : St → Prop} {st st' : St} (w : Weak st st') (h : SLG P g K st') : SLG P g K st := ⟨fun E ι F a wd r => by
  obtain ⟨ι', F', r'⟩ := w E ι F a wd r
  exact h.out E ι' F' a wd r'⟩
theorem SLG.q {g : GOp} {K : St → Prop} {st : St} {u : V} (hg : g.g = none) (h : QO P g u st) (k : K (st.put g.dst u)) : SLG P g K st := ⟨fun E ι F a w r => by
  refine ⟨hg, Oper.wp_mono (fun a' w' ⟨c, F', e, gr, v⟩ => ?_) (h E ι F a w r)⟩
  subst e
  obtain ⟨r2, x2⟩ := r.h.grown gr
  exact ⟨gr.grown, ι, F', _, r.put r2 x2 g.dst v, k⟩⟩
variable {K1 : ESt → Prop}
theorem callRun_okG {c : Ctr P} {s : ESt} {us : List EV} {z : Fit c} {g : GOp} {K : ESt → Option ρ} {res : ρ} (hn : isNil c.os = true) (hg : g.g = none) (ha : ArgsOk P g c.f us s) (hz : fitO c s us = some z) (hK : ∀ s', K s' = some res → K1 s')
    (h : callRun c s z g.dst K = some res) : SLTG P g K1 s := by
  obtain ⟨y, hF, h⟩ := callB_out h
  have hh := grd_out h
  clear h
  obtain ⟨hlen, h⟩ := hh
  obtain ⟨z1, z2, z3, z4, z5, z6, z7⟩ := fitO_out hz
  refine ⟨⟨fun E ι F a w r => ⟨hg, ?_⟩⟩⟩
  obtain ⟨cargs, h1, h2, h3⟩ := ha.out E ι F a w r
  simp only [Oper.wp, h1, Oper.upon]
  refine (call_rel r.h r.fair c z1 z2 z3 z4 z6 z7 hF hlen (by omega) h3).mono fun e w' ⟨cv, ι', F', k1, k2, k3, k4, k5⟩ => ?_
  subst k1
  exact ⟨k5 hn, ι', F', _, r.sub k2 k3 g.dst k4, _, rfl, hK _ h⟩
def callG (s : ESt) (f : FuncId) (us : List EV) (d : Option Tmp) (K : ESt → Option ρ) : List (Ctr P) → Option ρ
  | [] => none
  | c :: T => bif Nat.beq c.f f && isNil c.os then (match fitO c s us with
    | some z => bif c.quiet then callB (c.F z.x z.y) (fun res => K (s.put d (mkE c.rv res.1))) else callRun c s z d K
    | none => callG s f us d K T) else callG s f us d K T
theorem callG_ok {s : ESt} {f : FuncId} {us : List EV} {g : GOp} {K : ESt → Option ρ} {res : ρ} (hg : g.g = none) (ha : ArgsOk P g f us s) (hK : ∀ s', K s' = some res → K1 s') : ∀ {T : List (Ctr P)},
    callG s f us g.dst K T = some res → SLTG P g K1 s
  | [], h => by cases h
  | c :: T, h => by
    unfold callG at h
    cases hb : Nat.beq c.f f && isNil c.os with
    | false => rw [hb] at h; exact callG_ok hg ha hK (T := T) h
    | true =>
      rw [hb] at h
      simp only [Bool.and_eq_true] at hb
      obtain ⟨hb, hn⟩ := hb
      obtain rfl := Nat.eq_of_beq_eq_true hb
      simp only [cond_true] at h
      split at h
      · rename_i z hz
        cases hq : c.quiet with
        | false => rw [hq] at h; exact callRun_okG hn hg ha hz hK h
        | true =>
          rw [hq] at h
          have hh := callB_out h
          clear h
          obtain ⟨y, hF, h⟩ := hh
          have q := quiet_call hq ha hz hF
          refine ⟨SLG.q hg q ⟨_, ?_, hK _ h⟩⟩
          rw [toSt_put]
      · exact callG_ok hg ha hK (T := T) h
structure FitL (c : Ctr P) where
  ks : List (Option Nat)
  x : DT c.ar
  y : DO c.os
  yk : DO c.os
def fitL (c : Ctr P) (s : ESt) (us : List EV) : Option (FitL c) :=
  let ks := ksOf (bindO s.heap c.os 0 (bindT (nthE us) c.ar [])) c.os 0
  bif (nodK ks && (ltKs s.heap.next ks && (seqT 0 c.ar && (deadOk c.os c.ro && Nat.beq c.ar.length us.length)))) && ffSh c.rv then (match exT ks (nthE (scrubs (lendF s.heap ks) us)) c.ar with
    | some x => match exOs ks s.heap c.os ks with
      | some y => match exOs ks (lendH s.heap ks) c.os ks with
        | some yk => some ⟨ks, x, y, yk⟩
        | none => none
      | none => none
    | none => none) else none
theorem fitL_out {c : Ctr P} {s : ESt} {us : List EV} {z : FitL c} (h : fitL c s us = some z) : (nodK z.ks = true ∧ ltKs s.heap.next z.ks = true ∧ seqT 0 c.ar = true ∧ deadOk c.os c.ro = true ∧ c.ar.length = us.length) ∧ ffSh c.rv = true ∧
    exT z.ks (nthE (scrubs (lendF s.heap z.ks) us)) c.ar = some z.x ∧ exOs z.ks s.heap c.os z.ks = some z.y ∧ exOs z.ks (lendH s.heap z.ks) c.os z.ks = some z.yk := by
  unfold fitL at h
  simp only at h
  have hh := bif_none h
  clear h
  obtain ⟨hb, h⟩ := hh
  simp only [Bool.and_eq_true] at hb
  obtain ⟨⟨h1, h2, h3, h4, h5⟩, h6⟩ := hb
  split at h
  · rename_i x hx
    split at h
    · rename_i y hy
      split at h
      · rename_i yk hyk
        injection h with h
        subst h
        exact ⟨⟨h1, h2, h3, h4, natBeq h5⟩, h6, hx, hy, hyk⟩
      · cases h
    · cases h
  · cases h
def sameY (c : Ctr P) (z : FitL c) (K : Option ρ) : Option ρ := bif isNil c.os then K else grd (okB (z.y = z.yk)) K
theorem sameY_out {c : Ctr P} {z : FitL c} {K : Option ρ} {res : ρ} (h : sameY c z K = some res) : z.yk = z.y ∧ K = some res := by
  unfold sameY at h
  cases hn : isNil c.os with
  | false =>
    rw [hn] at h
    obtain ⟨h1, h2⟩ := grd_out h
    exact ⟨(okB_out h1).symm, h2⟩
  | true =>
    rw [hn] at h
    obtain ⟨ks, x, y, yk⟩ := z
    obtain ⟨f, fnok, ar, os, rv, ro, cF, ok⟩ := c
    obtain rfl := isNil_out hn
    exact ⟨rfl, h⟩
def lendRun (c : Ctr P) (s : ESt) (z : FitL c) (d : Option Tmp) (K : ESt → Option ρ) : Option ρ :=
  sameY c z (callB (c.F z.x z.y) fun res => ffK c.ro res.2 (grd (lenOk s.heap (mkH c.os.length c.ro res.2) z.ks 0) (K ((s.sub (scrub (nestF z.ks)) (callH s.heap z.ks (mkH c.os.length c.ro res.2))).put d (renE (outK z.ks s.heap.next) (mkE c.rv res.1))))))
theorem lendRun_rel {c : Ctr P} {s : ESt} {us : List EV} {z : FitL c} {g : GOp} {K : ESt → Option ρ} {res : ρ} (ha : ArgsOk P g c.f us s) (hz : fitL c s us = some z) (h : lendRun c s z g.dst K = some res) {E : Env} {ι : Id → Option Nat} {F : Nat → Prop} {a : Act} {w : World} (r : Rel E ι F (toSt s) a w) :
    ∃ cargs s', K s' = some res ∧ (execOp a.eval g.oper).run P w = .ok (.enter c.f cargs) w ∧ Calls P c.f cargs w fun e w' => ∃ cv ι' F', e = .returned cv ∧ Rel E ι' F' (toSt s') (a.put g.dst cv) w' ∧ (isNil c.os = true → Grown w w') := by
  obtain ⟨he, h⟩ := sameY_out h
  obtain ⟨y, hF, h⟩ := callB_out h
  obtain ⟨hff, h⟩ := ffK_out _ _ h
  have hh := grd_out h
  clear h
  obtain ⟨hlen, h⟩ := hh
  obtain ⟨⟨z1, z2, z3, z4, z5⟩, z6, z7, z8, z9⟩ := fitL_out hz
  rw [he] at z9
  obtain ⟨cargs, h1, h2, h3⟩ := ha.out E ι F a w r
  refine ⟨cargs, _, h, h1, ?_⟩
  refine (lend_rel r.h r.fair c z1 z2 z3 z4 z7 z8 z9 hF (ffK_FF z6 hff) hlen (by omega) (fun j hj => ⟨(h3 j hj).born, h3 j hj⟩)).mono fun e w' ⟨cv, ι', F', k1, k2, k3, k4, k5⟩ => ?_
  exact ⟨cv, ι', F', k1, r.sub k2 k3 g.dst k4, k5⟩
theorem lendRun_ok {c : Ctr P} {s : ESt} {us : List EV} {z : FitL c} {g : GOp} {K : ESt → Option ρ} {res : ρ} (hg : g.g = none) (ha : ArgsOk P g c.f us s) (hz : fitL c s us = some z) (hK : ∀ s', K s' = some res → SLT P L Q s')
    (h : lendRun c s z g.dst K = some res) : SLT P (g :: L) Q s := ⟨⟨fun E ι F a w r => by
  obtain ⟨cargs, s', hk, h1, h2⟩ := lendRun_rel ha hz h r
  have hw : g.wanted a.tmps = true := by unfold GOp.wanted; rw [hg]
  simp only [lwp, hw, if_true, Oper.wp, h1, Oper.upon]
  refine h2.mono fun e w' ⟨cv, ι', F', k1, k2, _⟩ => ?_
  subst k1
  exact (hK _ hk).out.out E ι' F' _ _ k2⟩⟩
theorem lendRun_okG {c : Ctr P} {s : ESt} {us : List EV} {z : FitL c} {g : GOp} {K : ESt → Option ρ} {res : ρ} (hn : isNil c.os = true) (hg : g.g = none) (ha : ArgsOk P g c.f us s) (hz : fitL c s us = some z) (hK : ∀ s', K s' = some res → K1 s')
    (h : lendRun c s z g.dst K = some res) : SLTG P g K1 s := ⟨⟨fun E ι F a w r => by
  obtain ⟨cargs, s', hk, h1, h2⟩ := lendRun_rel ha hz h r
  refine ⟨hg, ?_⟩
  simp only [Oper.wp, h1, Oper.upon]
  refine h2.mono fun e w' ⟨cv, ι', F', k1, k2, k3⟩ => ?_
  subst k1
  exact ⟨k3 hn, ι', F', _, k2, _, rfl, hK _ hk⟩⟩⟩
def lendX (s : ESt) (f : FuncId) (us : List EV) (d : Option Tmp) (K : ESt → Option ρ) : List (Ctr P) → Option ρ
  | [] => none
  | c :: T => bif Nat.beq c.f f then (match fitL c s us with
    | some z => lendRun c s z d K
    | none => lendX s f us d K T) else lendX s f us d K T
def lendXFits (s : ESt) (f : FuncId) (us : List EV) : List (Ctr P) → Bool
  | [] => false
  | c :: T => (Nat.beq c.f f && (fitL c s us).isSome) || lendXFits s f us T
theorem lendX_ok {s : ESt} {f : FuncId} {us : List EV} {g : GOp} {K : ESt → Option ρ} {res : ρ} (hg : g.g = none) (ha : ArgsOk P g f us s) (hK : ∀ s', K s' = some res → SLT P L Q s') : ∀ {T : List (Ctr P)},
    lendX s f us g.dst K T = some res → SLT P (g :: L) Q s
  | [], h => by cases h
  | c :: T, h => by
    unfold lendX at h
    cases hb : Nat.beq c.f f with
    | false => rw [hb] at h; exact lendX_ok hg ha hK (T := T) h
    | true =>
      rw [hb] at h
      obtain rfl := Nat.eq_of_beq_eq_true hb
      simp only [cond_true] at h
      split at h
      · rename_i z hz
        exact lendRun_ok hg ha hz hK h
      · exact lendX_ok hg ha hK (T := T) h
def lendXG (s : ESt) (f : FuncId) (us : List EV) (d : Option Tmp) (K : ESt → Option ρ) : List (Ctr P) → Option ρ
  | [] => none
  | c :: T => bif Nat.beq c.f f && isNil c.os then (match fitL c s us with
    | some z => lendRun c s z d K
    | none => lendXG s f us d K T) else lendXG s f us d K T
theorem lendXG_ok {s : ESt} {f : FuncId} {us : List EV} {g : GOp} {K : ESt → Option ρ} {res : ρ} (hg : g.g = none) (ha : ArgsOk P g f us s) (hK : ∀ s', K s' = some res → K1 s') : ∀ {T : List (Ctr P)},
    lendXG s f us g.dst K T = some res → SLTG P g K1 s
  | [], h => by cases h
  | c :: T, h => by
    unfold lendXG at h
    cases hb : Nat.beq c.f f && isNil c.os with
    | false => rw [hb] at h; exact lendXG_ok hg ha hK (T := T) h
    | true =>
      rw [hb] at h
      simp only [Bool.and_eq_true] at hb
      obtain ⟨hb, hn⟩ := hb
      obtain rfl := Nat.eq_of_beq_eq_true hb
      simp only [cond_true] at h
      split at h
      · rename_i z hz
        exact lendRun_okG hn hg ha hz hK h
      · exact lendXG_ok hg ha hK (T := T) h
def memC (f : FuncId) : List (Ctr P) → Bool
  | [] => false
  | c :: T => Nat.beq c.f f || memC f T
theorem memC_out {f : FuncId} : ∀ {T : List (Ctr P)}, memC f T = true → FnOk P f
  | [], h => by cases h
  | c :: T, h => by
    simp only [memC, Bool.or_eq_true] at h
    rcases h with h | h
    · obtain rfl := Nat.eq_of_beq_eq_true h; exact c.fnok
    · exact memC_out h
theorem ESt.eval_rel {E : Env} {ι : Id → Option Nat} {F : Nat → Prop} {s : ESt} {a : Act} {w : World} (r : Rel E ι F (toSt s) a w) (x : Operand) : VRel (toH s.heap) ι F w (toV s.heap.len (s.eval x)) (a.eval x) :=
  s.eval_wk x _ _ _ _ _ (r.eval x)
theorem nthE_map {α : Type} (f : α → EV) : ∀ (l : List α) (j : Nat) (h : j < l.length), nthE (l.map f) j = f l[j]
  | [], _, h => absurd h (Nat.not_lt_zero _)
  | a :: l, 0, _ => rfl
  | a :: l, j + 1, h => by simp only [List.map_cons, nthE, List.getElem_cons_succ]; exact nthE_map f l j (by simpa using h)
theorem nthE_app : ∀ (l m : List EV) (j : Nat), nthE (l ++ m) j = if j < l.length then nthE l j else nthE m (j - l.length)
  | [], m, j => by simp
  | a :: l, m, 0 => by simp [nthE]
  | a :: l, m, j + 1 => by
    simp only [List.cons_append, nthE, nthE_app l m j, List.length_cons, Nat.add_lt_add_iff_right]
    split <;> simp
theorem args_fn {s : ESt} {f : FuncId} [FnOk P f] {args : Array Operand} {ats : Array TypeId} : ArgsOk P ⟨d, .call { callee := .value (.func f), args := args, argTypes := ats }, ty, none⟩ f (args.toList.map s.eval) s :=
  ⟨fun E ι F a w r => ⟨args.map a.eval, by simp [execOp, GOp.oper, resolve, Deferred.ofValue, invoke, Act.eval, callFunc_run], by simp, fun j hj => by
    have hj' : j < args.size := by simpa using hj
    have e2 : (args.map a.eval).getD j undef = a.eval args[j] := by simp [Array.getD, hj']
    rw [e2, nthE_map _ _ _ (by simpa using hj')]
    exact ESt.eval_rel r _⟩⟩
theorem args_val {s : ESt} {f : FuncId} [FnOk P f] {x : Operand} {l : List EV} {args : Array Operand} {ats : Array TypeId} (hx : s.eval x = .fn f l) :
    ArgsOk P ⟨d, .call { callee := .value x, args := args, argTypes := ats }, ty, none⟩ f (args.toList.map s.eval ++ l) s :=
  ⟨fun E ι F a w r => by
    have hr := ESt.eval_rel r x
    rw [hx] at hr
    simp only [toV] at hr
    obtain ⟨cs, h1, h2, h3⟩ := hr
    refine ⟨args.map a.eval ++ cs, by simp [execOp, GOp.oper, resolve, h1, Deferred.ofValue, invoke, callFunc_run], by simp [h2], fun j hj => ?_⟩
    rw [nthE_app]
    simp only [List.length_map, Array.length_toList]
    by_cases hj' : j < args.size
    · rw [if_pos hj']
      have e2 : (args.map a.eval ++ cs).getD j undef = a.eval args[j] := by
        rw [Array.getD_eq_getD_getElem?, Array.getElem?_append_left (by simpa using hj')]; simp [hj']
      rw [e2, nthE_map _ _ _ (by simpa using hj')]
      exact ESt.eval_rel r _
    · rw [if_neg hj']
      have hjn : j - args.size < l.length := by simp at hj; omega
      obtain ⟨c, g1, g2⟩ := h3 (j - args.size) hjn
      have e2 : (args.map a.eval ++ cs).getD j undef = c := by
        rw [Array.getD_eq_getD_getElem?, Array.getElem?_append_right (by simpa using Nat.le_of_not_lt hj')]; simp [g1]
      rw [e2, nthE_eq]
      exact g2⟩
mutual
def borrow (H : EHeap) : EV → EV
  | .sfull k p => match H.at k p with
    | some v => datE v
    | none => .un
  | .b x => .b x
  | .i k n => .i k n
  | .s x => .s x
  | .fz τ l => .fz τ l
  | .fp τ x c => .fp τ x c
  | .st i x => .st i x
  | .nils => .nils
  | .nilp => .nilp
  | .nilm => .nilm
  | .nilf => .nilf
  | .nili => .nili
  | .agg l => .agg (borrows H l)
  | .un => .un
  | .und => .un
  | .ptr _ _ _ _ => .un
  | .sref _ _ _ _ => .un
  | .mref _ => .un
  | .tup _ => .un
  | .fn _ _ => .un
def borrows (H : EHeap) : List EV → List EV
  | [] => []
  | a :: l => borrow H a :: borrows H l
end
theorem borrows_len (H : EHeap) : ∀ l : List EV, (borrows H l).length = l.length
  | [] => rfl
  | a :: l => by simp [borrows, borrows_len H l]
theorem FrzB.un {H : Heap} (u : V) : FrzB H u .un := fun E ι F w c r h => trivial
mutual
theorem borrow_ok (H : EHeap) (len0 : Len) : ∀ u : EV, FrzB (toH H) (toV H.len u) (toV len0 (borrow H u))
  | .sfull k p => by
    simp only [borrow]
    cases hv' : H.at k p with
    | none => simp only [toV]; exact FrzB.un _
    | some v =>
      intro E ι F w c r hv
      simp only [toV, EHeap.len_at hv'] at hv
      exact datE_ok hv' r hv (fun b hb => hb.imp (fun h => h) fun ⟨q, q1, q2⟩ => ⟨⟨k, q⟩, q1, q2⟩)
  | .b x => by simp only [borrow, toV]; exact FrzB.of (Frz.t _)
  | .i k n => by simp only [borrow, toV]; exact FrzB.of (Frz.t _)
  | .s x => by simp only [borrow, toV]; exact FrzB.of (Frz.t _)
  | .fz τ l => by simp only [borrow, toV]; exact FrzB.of (Frz.t _)
  | .fp τ x c => by simp only [borrow, toV]; exact FrzB.of (Frz.fp _ _)
  | .st i x => by simp only [borrow, toV]; exact FrzB.agg fun j hj => FrzB.of (Frz.t _)
  | .nils => by simp only [borrow, toV]; exact fun E ι F w c r h => h
  | .nilp => by simp only [borrow, toV]; exact fun E ι F w c r h => h
  | .nilm => by simp only [borrow, toV]; exact fun E ι F w c r h => h
  | .nilf => by simp only [borrow, toV]; exact fun E ι F w c r h => h
  | .nili => by simp only [borrow, toV]; exact FrzB.of (Frz.t _)
  | .agg l => by simp only [borrow, toV, borrows_len]; exact FrzB.agg fun j hj => borrows_ok H len0 l j
  | .un => by simp only [borrow, toV]; exact FrzB.un _
  | .und => by simp only [borrow, toV]; exact FrzB.un _
  | .ptr _ _ _ _ => by simp only [borrow, toV]; exact FrzB.un _
  | .sref _ _ _ _ => by simp only [borrow, toV]; exact FrzB.un _
  | .mref _ => by simp only [borrow, toV]; exact FrzB.un _
  | .tup _ => by simp only [borrow, toV]; exact FrzB.un _
  | .fn _ _ => by simp only [borrow, toV]; exact FrzB.un _
theorem borrows_ok (H : EHeap) (len0 : Len) : ∀ (l : List EV) (j : Nat), FrzB (toH H) (toVs H.len l j) (toVs len0 (borrows H l) j)
  | [], j => by simp only [borrows, toVs]; exact FrzB.un _
  | a :: l, 0 => by simp only [borrows, toVs]; exact borrow_ok H len0 a
  | a :: l, j + 1 => by simp only [borrows, toVs]; exact borrows_ok H len0 l j
end
def scalS : Sh → Bool
  | .b => true
  | .i _ => true
  | .s => true
  | .nili => true
  | .tup [.b] => true
  | .tup [.i _, .b] => true
  | .tup [.i _, .i _] => true
  | _ => false
theorem scalS_ok {len : Len} : ∀ {a : Sh} (x : a.D), scalS a = true → Scal (toV len (mkE a x))
  | .b, x, _ => by simp only [mkE, toV]; exact Scal.bool _
  | .i _, x, _ => by simp only [mkE, toV]; exact Scal.int _ _
  | .s, x, _ => by simp only [mkE, toV]; exact Scal.str _
  | .nili, x, _ => by simp only [mkE, toV]; exact Scal.nilI
  | .tup [.b], x, _ => by
    simp only [mkE, mkEs, toV]
    refine Scal.tup fun j hj => ?_
    match j, hj with
    | 0, _ => simp only [toVs, toV]; exact Scal.bool _
  | .tup [.i _, .b], x, _ => by
    simp only [mkE, mkEs, toV]
    refine Scal.tup fun j hj => ?_
    match j, hj with
    | 0, _ => simp only [toVs, toV]; exact Scal.int _ _
    | 1, _ => simp only [toVs, toV]; exact Scal.bool _
  | .tup [.i _, .i _], x, _ => by
    simp only [mkE, mkEs, toV]
    refine Scal.tup fun j hj => ?_
    match j, hj with
    | 0, _ => simp only [toVs, toV]; exact Scal.int _ _
    | 1, _ => simp only [toVs, toV]; exact Scal.int _ _
def noS (us : List EV) : ESt := ⟨0, nthE us, mkH 0 [] ()⟩
theorem Ctr.pc {c : Ctr P} {us : List EV} {z : Fit c} (hq : c.quiet = true) (hz : fitO c (noS us) us = some z) {res : c.rv.D × DO c.ro} (hF : c.F z.x z.y = some res) :
    PC P c.f (us.map (toV (mkH 0 [] ()).len)) (toV (mkH 0 [] ()).len (mkE c.rv res.1)) := ⟨fun F w cargs hlt hl ha => by
  obtain ⟨z1, z2, z3, z4, z5, z6, z7⟩ := fitO_out hz
  obtain ⟨ks, x, y⟩ := z
  obtain ⟨f, fnok, ar, os, rv, ro, cF, ok⟩ := c
  simp only [Ctr.quiet, Bool.and_eq_true] at hq
  simp only at x y hF z1 z2 z3 z4 z5 z6 z7 res ok ⊢
  obtain rfl := isNil_out hq.1
  obtain rfl := isNil_out hq.2
  have r0 : RelH ⟨w, fun _ => False, Heap.none, noι, F⟩ noι F (toH (noS us).heap) w := RelH.start hlt
  have pt : Part (toH (noS us).heap) (toH (mkH 0 [] y)) (mK ks) := part_ok z7 z1
  have hR : Roots ks (noS us).heap (mkH 0 [] y) (mK ks) := roots_ok z7
  have r2 := pt.rel r0
  rw [List.length_map] at hl
  have hargs : ∀ j, j < (mkArgs ar x).length → VRel (toH (mkH 0 [] y)) (mι (mK ks) noι) F w (toV (mkH 0 [] y).len (nthE (mkArgs ar x) j)) (cargs.getD j undef) := fun j hj => by
    rw [mkArgs_len] at hj
    rw [seqT_env z3 j, Nat.zero_add]
    have h3 : VRel (toH (noS us).heap) noι F w (toV (noS us).heap.len (nthE us j)) (cargs.getD j undef) := by
      have := ha j (by rw [List.length_map]; omega)
      rw [List.getD_eq_getElem?_getD, List.getElem?_map] at this
      rw [nthE_eq, toVs_eq, List.getD_eq_getElem?_getD]
      cases hu : us[j]? with
      | none => rw [hu] at this; simp only [Option.getD_none, toV]; exact trivial
      | some u => rw [hu] at this; exact this
    have := exT_ok (Z := fun _ => False) hR ar x z6 j _ _ _ _ _ r0 h3
    rw [FZ_none] at this
    exact this
  refine ((ok x y res hF).out _ _ _ _ cargs r2 (by rw [mkArgs_len]; omega) hargs).mono fun e w' ⟨v, ι3, F3, Hx, cv, k1, r3, hv, k4, k5⟩ => ?_
  subst k1
  subst k4
  subst k5
  refine ⟨cv, F3, rfl, r3.os, r3.tape, r3.output, r3.size, fun b hb => r3.kept b hb ?_, fun b hb => ?_, fun b hb => ?_, r3.frlt, VRel.of_none1 hv⟩
  · rintro ⟨id, h, _⟩; exact h
  · have := r3.ext (.fp 0 (fun _ => .any)) (.pointer (some ⟨b, 0, none⟩)) ⟨b, 0, rfl, hb, fun j hj => absurd hj (Nat.not_lt_zero _)⟩
    obtain ⟨b', o', e1, e2, _⟩ := this
    injection e1 with e1; injection e1 with e1; injection e1 with e1
    subst e1; exact e2
  · rcases r3.frin b hb with h | ⟨id, h, _⟩ | h
    · exact .inl h
    · exact h.elim
    · exact .inr h⟩
theorem lend_args {s : ESt} (len0 : Len) : ∀ l : List Operand, All2 (FrzB (toSt s).heap) (l.map (toSt s).eval) ((borrows s.heap (l.map s.eval)).map (toV len0))
  | [] => .nil
  | x :: l => .cons (fun E ι F w c r h => borrow_ok s.heap len0 (s.eval x) E ι F w c r (s.eval_wk x _ _ _ _ _ h)) (lend_args len0 l)
theorem lend_call {c : Ctr P} {s : ESt} {args : Array Operand} {ats : Array TypeId} {z : Fit c} (hq : c.quiet = true) (hs : scalS c.rv = true) (hz : fitO c (noS (borrows s.heap (args.toList.map s.eval))) (borrows s.heap (args.toList.map s.eval)) = some z)
    {res : c.rv.D × DO c.ro} (hF : c.F z.x z.y = some res) : QO P ⟨d, .call { callee := .value (.func c.f), args := args, argTypes := ats }, ty, none⟩ (toV s.heap.len (mkE c.rv res.1)) (toSt s) := by
  have := c.fnok
  have h1 := QO.callB (d := d) (ty := ty) (ats := ats) (c.pc hq hz hF) (lend_args _ _) (scalS_ok res.1 hs)
  have e : toV s.heap.len (mkE c.rv res.1) = toV (mkH 0 [] ()).len (mkE c.rv res.1) := by
    have key : ∀ {a : Sh} (x : a.D) (len len' : Len), scalS a = true → toV len (mkE a x) = toV len' (mkE a x) := fun {a} x len len' h => by
      unfold scalS at h
      split at h <;> first | (simp only [mkE, toV]; done) | (simp only [mkE, mkEs, toV]; congr 1; funext j; match j with
        | 0 => simp only [toVs, toV]
        | 1 => simp only [toVs, toV]
        | n + 2 => simp only [toVs, toV]) | cases h
    exact key _ _ _ hs
  rw [e]
  exact h1
inductive Pn where
  | nil
  | fl (i : Nat) (p : Pn)
  | rd (i : Nat) (p : Pn)
  | qu (l : List Nat) (p : Pn)
  | on (i : Nat) (p : Pn)
  | br (i : Nat) (p q : Pn)
  | no
structure Opt where
  wr : Bool := false
  tr : Bool := false
  fr : Bool := false
  tk : Bool := false
  md : List Nat := []
  rt : List (Nat × Nat) := []
  ab : List Nat := []
  pl : Pn := .no
def isPureX : Op → Bool
  | .makeFunc _ _ _ => true
  | .build _ _ => true
  | .lookup _ _ _ _ => true
  | .slice _ _ _ _ _ => true
  | op => isPureOp op
def runOw (P : Program) [Tys P] [TyX P] (wr : Bool) (ev : Operand → EV) (H : EHeap) (op : Op) (K : EV → Option ρ) : Option ρ := bif wr then (match op with
  | .binOp o tx x y tY => match o, ev x, ev y with
    | .add, .i k m, .i k' n => bif kindEq k k' then K (.i k (k.wrap (m + n))) else none
    | .sub, .i k m, .i k' n => bif kindEq k k' then K (.i k (k.wrap (m - n))) else none
    | .mul, .i k m, .i k' n => bif kindEq k k' then K (.i k (k.wrap (m * n))) else none
    | _, _, _ => runX P ev H (.binOp o tx x y tY) K
  | op => runX P ev H op K) else runX P ev H op K
theorem runOw_ok [T : Tys P] [TyX P] {wr : Bool} {s : ESt} {op : Op} {K : EV → Option ρ} {res : ρ} (h : runOw P wr s.eval s.heap op K = some res) : ∃ u, (∀ d ty, QV P ⟨d, op, ty, none⟩ (toV s.heap.len u) (toSt s)) ∧ K u = some res := by
  unfold runOw at h
  cases wr with
  | false => exact runX_ok h
  | true =>
    simp only [cond_true] at h
    split at h
    · rename_i o tx x y tY
      split at h
      all_goals first
        | exact runX_ok h
        | (rename_i k m k' n hx hy
           have hx := eval_eq hx rfl
           have hy := eval_eq hy rfl
           simp only [toV] at hx hy
           have hh := bif_none h
           clear h
           obtain ⟨hk, h⟩ := hh
           have := kindEq_eq hk
           subst this
           first
             | exact ⟨_, fun d ty => (by simp only [toV]; exact O.add hx hy rfl), h⟩
             | exact ⟨_, fun d ty => (by simp only [toV]; exact O.sub hx hy rfl), h⟩
             | exact ⟨_, fun d ty => (by simp only [toV]; exact O.mul hx hy rfl), h⟩)
    · exact runX_ok h
def rootsAll : List EV → List Nat
  | [] => []
  | u :: l => rootsOf u ++ rootsAll l
def lendO (s : ESt) (f : FuncId) (us : List EV) (d : Option Tmp) (K : ESt → Option ρ) : List (Ctr P) → Option ρ
  | [] => none
  | c :: T => bif Nat.beq c.f f && (c.quiet && scalS c.rv) then (match fitO c (noS (borrows s.heap us)) (borrows s.heap us) with
    | some z => callB (c.F z.x z.y) fun res => K (s.put d (mkE c.rv res.1))
    | none => lendO s f us d K T) else lendO s f us d K T
def callFits (s : ESt) (f : FuncId) (us : List EV) : List (Ctr P) → Bool
  | [] => false
  | c :: T => (Nat.beq c.f f && (fitO c s us).isSome) || callFits s f us T
def lendFits (s : ESt) (f : FuncId) (us : List EV) : List (Ctr P) → Bool
  | [] => false
  | c :: T => (Nat.beq c.f f && (c.quiet && (scalS c.rv && (fitO c (noS (borrows s.heap us)) (borrows s.heap us)).isSome))) || lendFits s f us T
def callT (T : List (Ctr P)) (s : ESt) (f : FuncId) (args : List Operand) (d : Option Tmp) (K : ESt → Option ρ) : Option ρ :=
  bif memC f T then (match callFits s f (args.map s.eval) T with
    | true => callO s f (args.map s.eval) d K T
    | false => match lendFits s f (args.map s.eval) T with
      | true => lendO s f (args.map s.eval) d K T
      | false => match lendXFits s f (args.map s.eval) T with
        | true => lendX s f (args.map s.eval) d K T
        | false => frzAll s (fun s' => callO s' f (args.map s'.eval) d K T) (rootsAll (args.map s.eval))) else none
def runStep1 (wr : Opt) (T : List (Ctr P)) [Tys P] [TyE P] [TyX P] (s : ESt) (d : Option Tmp) (op : Op) (K : ESt → Option ρ) : Option ρ :=
  bif isPureX op then runOw P wr.wr s.eval s.heap op (fun u => K (s.put d u)) else
  match op with
  | .box e x => boxO e (TyE.c P e) (s.eval x) (newO s d (fun id => .ptr id [] 0 0) K)
  | .alloc e => allocO P e (newO s d (fun id => .ptr id [] 0 0) K)
  | .store t x y => storeO P s d t x y K
  | .buildSlice t n A => frzAll s (fun s' => buildO P s' t n A (newO s' d (fun id => .sfull id []) K)) (rootsAll (A.toList.map fun a => s.eval a.2))
  | .makeMap t r => match r with
    | none => makeMapO P t (fun o => litO s.heap.next fun id => K ((s.on (s.heap.add id o)).put d (.mref id)))
    | some _ => none
  | .mapUpdate t x y z => updO P s d t x y z K
  | .makeSlice t x y => makeO P s t x y (newO s d (fun id => .sfull id []) K)
  | .call c => match c.callee with
    | .value (.func f) => forceO s c.args.toList fun us => callT T s f c.args.toList d K
    | .value (.tmp x) => match s.env x with
      | .fn f l => forceO s c.args.toList fun us => bif memC f T then (match callFits s f (us ++ l) T with
        | true => callO s f (us ++ l) d K T
        | false => lendX s f (us ++ l) d K T) else none
      | _ => none
    | .builtin .append => match c.args.toList, c.argTypes.toList with
      | [x, y], [t, t'] => bif Nat.beq t t' then appO P s d t x y K else none
      | _, _ => none
    | _ => none
  | _ => none
def runStep (wr : Opt) (T : List (Ctr P)) [Tys P] [TyE P] [TyX P] (s : ESt) (d : Option Tmp) (op : Op) (K : ESt → Option ρ) : Option ρ := match op with
  | .slice t x none (some y) none => bif wr.tr then truncO P s d t x y K else runStep1 wr T s d (.slice t x none (some y) none) K
  | .convert src dst x => match (Tys.c P dst).sl with
    | some _ => bytesO P s d src dst x K
    | none => runStep1 wr T s d (.convert src dst x) K
  | .binOp o t x y tY => match nilQ s o x y with
    | some (neg, emp) => bif isSlTy P t then nilK s d neg emp K else none
    | none => runStep1 wr T s d (.binOp o t x y tY) K
  | op => runStep1 wr T s d op K
theorem lendO_ok {s : ESt} {f : FuncId} {args : Array Operand} {ats : Array TypeId} {K : ESt → Option ρ} {res : ρ} (hK : ∀ s', K s' = some res → SLT P L Q s') : ∀ {T : List (Ctr P)},
    lendO s f (args.toList.map s.eval) d K T = some res → SLT P (⟨d, .call { callee := .value (.func f), args := args, argTypes := ats }, ty, none⟩ :: L) Q s
  | [], h => by cases h
  | c :: T, h => by
    unfold lendO at h
    cases hb : Nat.beq c.f f && (c.quiet && scalS c.rv) with
    | false => rw [hb] at h; exact lendO_ok hK (T := T) h
    | true =>
      rw [hb] at h
      simp only [Bool.and_eq_true] at hb
      obtain ⟨hb, hq, hs⟩ := hb
      obtain rfl := Nat.eq_of_beq_eq_true hb
      simp only [cond_true] at h
      split at h
      · rename_i z hz
        have hh := callB_out h
        clear h
        obtain ⟨y, hF, h⟩ := hh
        refine ⟨SL.q (lend_call (d := d) (ty := ty) (ats := ats) hq hs hz hF) ?_⟩
        have := (hK _ h).out
        rwa [toSt_put] at this
      · exact lendO_ok hK (T := T) h
theorem callT_ok {T : List (Ctr P)} {s : ESt} {f : FuncId} {args : Array Operand} {ats : Array TypeId} {K : ESt → Option ρ} {res : ρ} (hK : ∀ s', K s' = some res → SLT P L Q s')
    (h : callT T s f args.toList d K = some res) : SLT P (⟨d, .call { callee := .value (.func f), args := args, argTypes := ats }, ty, none⟩ :: L) Q s := by
  unfold callT at h
  have hh := bif_none h
  clear h
  obtain ⟨hm, h⟩ := hh
  have := memC_out hm
  split at h
  · exact callO_ok (g := ⟨d, _, ty, none⟩) rfl args_fn hK h
  · split at h
    · exact lendO_ok hK h
    · split at h
      · exact lendX_ok (g := ⟨d, _, ty, none⟩) rfl args_fn hK h
      · obtain ⟨s', w, h⟩ := frzAll_out _ _ h
        exact SLT.weak w (callO_ok (g := ⟨d, _, ty, none⟩) rfl args_fn hK h)
theorem lendG_ok {s : ESt} {f : FuncId} {args : Array Operand} {ats : Array TypeId} {K : ESt → Option ρ} {res : ρ} (hK : ∀ s', K s' = some res → K1 s') : ∀ {T : List (Ctr P)},
    lendO s f (args.toList.map s.eval) d K T = some res → SLTG P ⟨d, .call { callee := .value (.func f), args := args, argTypes := ats }, ty, none⟩ K1 s
  | [], h => by cases h
  | c :: T, h => by
    unfold lendO at h
    cases hb : Nat.beq c.f f && (c.quiet && scalS c.rv) with
    | false => rw [hb] at h; exact lendG_ok hK (T := T) h
    | true =>
      rw [hb] at h
      simp only [Bool.and_eq_true] at hb
      obtain ⟨hb, hq, hs⟩ := hb
      obtain rfl := Nat.eq_of_beq_eq_true hb
      simp only [cond_true] at h
      split at h
      · rename_i z hz
        have hh := callB_out h
        clear h
        obtain ⟨y, hF, h⟩ := hh
        refine ⟨SLG.q rfl (lend_call (d := d) (ty := ty) (ats := ats) hq hs hz hF) ⟨_, ?_, hK _ h⟩⟩
        rw [toSt_put]
      · exact lendG_ok hK (T := T) h
def growC (f : FuncId) : List (Ctr P) → Bool
  | [] => true
  | c :: T => (!(Nat.beq c.f f) || isNil c.os) && growC f T
def callTG (T : List (Ctr P)) (s : ESt) (f : FuncId) (args : List Operand) (d : Option Tmp) (K : ESt → Option ρ) : Option ρ :=
  bif memC f T then (match callFits s f (args.map s.eval) T with
    | true => callG s f (args.map s.eval) d K T
    | false => match lendFits s f (args.map s.eval) T with
      | true => lendO s f (args.map s.eval) d K T
      | false => match lendXFits s f (args.map s.eval) T with
        | true => lendXG s f (args.map s.eval) d K T
        | false => frzAll s (fun s' => callG s' f (args.map s'.eval) d K T) (rootsAll (args.map s.eval))) else none
theorem callTG_ok {T : List (Ctr P)} {s : ESt} {f : FuncId} {args : Array Operand} {ats : Array TypeId} {K : ESt → Option ρ} {res : ρ} (hK : ∀ s', K s' = some res → K1 s')
    (h : callTG T s f args.toList d K = some res) : SLTG P ⟨d, .call { callee := .value (.func f), args := args, argTypes := ats }, ty, none⟩ K1 s := by
  unfold callTG at h
  have hh := bif_none h
  clear h
  obtain ⟨hm, h⟩ := hh
  have := memC_out hm
  split at h
  · exact callG_ok (g := ⟨d, _, ty, none⟩) rfl args_fn hK h
  · split at h
    · exact lendG_ok hK h
    · split at h
      · exact lendXG_ok (g := ⟨d, _, ty, none⟩) rfl args_fn hK h
      · obtain ⟨s', w, h⟩ := frzAll_out _ _ h
        exact ⟨SLG.weak w (callG_ok (g := ⟨d, _, ty, none⟩) rfl args_fn hK h).out⟩
def isGrow (T : List (Ctr P)) (op : Op) : Bool := match op with
  | .call c => match c.callee with
    | .value (.func f) => memC f T && growC f T
    | _ => false
  | _ => false
def runG (T : List (Ctr P)) (K : ESt → Option ρ) (g : GOp) (s : ESt) : Option ρ := match g with
  | ⟨d, .call c, _, none⟩ => match c.callee with
    | .value (.func f) => forceO s c.args.toList fun us => callTG T s f c.args.toList d K
    | _ => none
  | _ => none
theorem runG_ok {T : List (Ctr P)} {K : ESt → Option ρ} {res : ρ} {g : GOp} {s : ESt} (hK : ∀ s', K s' = some res → K1 s') (h : runG T K g s = some res) : SLTG P g K1 s := by
  unfold runG at h
  split at h
  · rename_i d c ty
    obtain ⟨callee, args, ats⟩ := c
    split at h
    · rename_i f hc
      simp only at hc
      subst hc
      rw [forceO_eq] at h
      exact callTG_ok hK h
    · cases h
  · cases h
theorem runStep1_ok {wr : Opt} {T : List (Ctr P)} [Tys P] [TyE P] [TyX P] {s : ESt} {op : Op} {K : ESt → Option ρ} {res : ρ} (hK : ∀ s', K s' = some res → SLT P L Q s') (h : runStep1 wr T s d op K = some res) : SLT P (⟨d, op, ty, none⟩ :: L) Q s := by
  unfold runStep1 at h
  cases hp : isPureX op with
  | true =>
    rw [hp] at h
    simp only [cond_true] at h
    obtain ⟨u, h1, h2⟩ := runOw_ok h
    refine ⟨SL.o (h1 d ty) ?_⟩
    have := (hK _ h2).out
    rwa [toSt_put] at this
  | false =>
    rw [hp] at h
    simp only [cond_false] at h
    split at h
    · exact boxO_ok hK h
    · exact allocO_ok hK h
    · exact storeO_ok hK h
    · obtain ⟨s', w, h⟩ := frzAll_out _ _ h
      exact SLT.weak w (buildO_ok hK h)
    · split at h
      · exact makeMapO_ok hK h
      · cases h
    · exact updO_ok hK h
    · exact makeO_ok hK h
    · rename_i c
      obtain ⟨callee, args, ats⟩ := c
      split at h
      · rename_i f hc
        simp only at hc
        subst hc
        rw [forceO_eq] at h
        exact callT_ok hK h
      · rename_i x hc
        simp only at hc
        subst hc
        split at h
        · rename_i f l hx
          rw [forceO_eq] at h
          have hh := bif_none h
          clear h
          obtain ⟨hm, h⟩ := hh
          have := memC_out hm
          split at h
          · exact callO_ok (g := ⟨d, _, ty, none⟩) rfl (args_val (x := .tmp x) hx) hK h
          · exact lendX_ok (g := ⟨d, _, ty, none⟩) rfl (args_val (x := .tmp x) hx) hK h
        · cases h
      · rename_i hc
        simp only at hc
        subst hc
        split at h
        · rename_i x y t t' ha ht
          simp only at ha ht
          have hh := bif_none h
          clear h
          obtain ⟨hb, h⟩ := hh
          obtain rfl := Nat.eq_of_beq_eq_true hb
          obtain ⟨al⟩ := args
          obtain ⟨tl⟩ := ats
          simp only at ha ht
          subst ha
          subst ht
          exact appO_ok hK h
        · cases h
      · cases h
    · cases h
theorem runStep_ok {wr : Opt} {T : List (Ctr P)} [Tys P] [TyE P] [TyX P] {s : ESt} {op : Op} {K : ESt → Option ρ} {res : ρ} (hK : ∀ s', K s' = some res → SLT P L Q s') (h : runStep wr T s d op K = some res) : SLT P (⟨d, op, ty, none⟩ :: L) Q s := by
  unfold runStep at h
  split at h
  · rename_i t x y
    cases ht : wr.tr with
    | true => rw [ht] at h; exact truncO_ok hK h
    | false => rw [ht] at h; exact runStep1_ok (T := T) hK h
  · split at h
    · exact bytesO_ok hK h
    · exact runStep1_ok (T := T) hK h
  · split at h
    · rename_i hq
      have hh := bif_none h
      clear h
      obtain ⟨hb, h⟩ := hh
      exact nilK_ok hK hq hb h
    · exact runStep1_ok (T := T) hK h
  · exact runStep1_ok (T := T) hK h
def runL (wr : Opt) (T : List (Ctr P)) [Tys P] [TyE P] [TyX P] (K : ESt → Option ρ) : List GOp → ESt → Option ρ
  | [], s => K s
  | ⟨d, op, ty, none⟩ :: L, s => runStep wr T s d op (runL wr T K L)
  | ⟨d, op, ty, some (some t, w)⟩ :: L, s => match s.env t with
    | .und => runL wr T K L (s.put d .und)
    | .b b => bif Nat.blt t s.nt then
        (bif w then (bif b then runStep wr T (s.put (some t) (.b true)) d op (runL wr T K L) else runL wr T K L ((s.put (some t) (.b false)).put d .und))
         else (bif b then runL wr T K L ((s.put (some t) (.b true)).put d .und) else runStep wr T (s.put (some t) (.b false)) d op (runL wr T K L))) else none
    | _ => none
  | ⟨_, _, _, some (none, _)⟩ :: _, _ => none
theorem envT {s : ESt} {t : Nat} {u : EV} (h : s.env t = u) : (toSt s).env t = toV s.heap.len u := by subst h; rfl
theorem bifs {b : Bool} {x y : Option ρ} {r : ρ} (h : (bif b then x else y) = some r) : (b = true → x = some r) ∧ (b = false → y = some r) := by
  cases b
  · exact ⟨fun e => (by cases e), fun _ => h⟩
  · exact ⟨fun _ => h, fun e => (by cases e)⟩
theorem runL_ok {wr : Opt} {T : List (Ctr P)} [Tys P] [TyE P] [TyX P] {K : ESt → Option ρ} {res : ρ} (hK : ∀ s', K s' = some res → Q .normal s') : ∀ (L : List GOp) (s : ESt), runL wr T K L s = some res → SLT P L Q s
  | [], s, h => ⟨SL.nil ⟨s, rfl, hK _ h⟩⟩
  | ⟨d, op, ty, none⟩ :: L, s, h => runStep_ok (runL_ok hK L) h
  | ⟨d, op, ty, some (some t, w)⟩ :: L, s, h => by
    unfold runL at h
    split at h
    · rename_i hu
      have hu := envT hu
      simp only [toV] at hu
      refine ⟨SL.gu hu ?_⟩
      have := (runL_ok hK L _ h).out
      rwa [toSt_put] at this
    · rename_i b hb
      have hb := envT hb
      simp only [toV] at hb
      have hh := bif_none h
      clear h
      obtain ⟨hlt, h⟩ := hh
      have hlt' : Nat.blt t (toSt s).nt = true := hlt
      cases w with
      | true =>
        simp only [cond_true] at h
        obtain ⟨h1, h2⟩ := bifs h
        refine ⟨SL.splitG (w := true) rfl hb hlt' (fun e => ?_) (fun e => ?_)⟩
        · have := (runStep_ok (ty := ty) (runL_ok hK L) (h1 e)).out
          rw [toSt_put] at this
          exact SL.gy (by rw [put_env_eq, hlt']; rfl) hlt' this
        · have := (runL_ok hK L _ (h2 e)).out
          rw [toSt_put, toSt_put] at this
          exact SL.gn (by rw [put_env_eq, hlt']; rfl) hlt' this
      | false =>
        simp only [cond_false] at h
        obtain ⟨h1, h2⟩ := bifs h
        refine ⟨SL.splitG (w := false) rfl hb hlt' (fun e => ?_) (fun e => ?_)⟩
        · have := (runL_ok hK L _ (h1 e)).out
          rw [toSt_put, toSt_put] at this
          exact SL.gn (by rw [put_env_eq, hlt']; rfl) hlt' this
        · have := (runStep_ok (ty := ty) (runL_ok hK L) (h2 e)).out
          rw [toSt_put] at this
          exact SL.gy (by rw [put_env_eq, hlt']; rfl) hlt' this
    · cases h
  | ⟨_, _, _, some (none, _)⟩ :: _, _, h => by cases h
end
end
end Go.Abs


set_option linter.unusedVariables false
set_option linter.unusedSimpArgs false
set_option linter.unusedSectionVars false
namespace Go.Abs
open Go
variable {P : Program} {Q : Exit → St → Prop} {st : St}
def freeD (A : Array Oper) (D : List Nat) (i : Nat) : Bool :=
  match A[i]? with
  | none => false
  | some oi => (List.range A.size).all fun j => Nat.beq j i || D.contains j || match A[j]? with
      | some oj => (edges A j).contains i || oi.apart A oj
      | none => true
def chkF (A : Array Oper) (D : List Nat) (i : Nat) : Bool :=
  Nat.blt i A.size && !D.contains i && ((edges A i).all fun x => D.contains x) && Region.noSelect A && freeD A D i && (D.all fun k => (edges A k).all fun e => D.contains e)
end Go.Abs

