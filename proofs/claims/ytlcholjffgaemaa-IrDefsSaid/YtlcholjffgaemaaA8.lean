/-
Slices of the state's own over abstract states: make, literals, append.
No statement of the program is proved here.
-/
import Derived.Test.YtlcholjffgaemaaA7
set_option linter.unusedVariables false
set_option linter.unusedSimpArgs false
namespace Go.Abs
open Go

variable {P : Program} {Q : Exit → St → Prop} {st : St} {L : List GOp} {d : Option Tmp} {ty : TypeId} {K : St → Prop}

def unset (ι : Id → Option Nat) (id : Id) : Id → Option Nat := fun i => if i = id then none else ι i

/-- An object without a block: a slice that is nil so far. -/
theorem RelH.virt {E : Env} {ι : Id → Option Nat} {F : Nat → Prop} {H : Heap} {w : World} (r : RelH E ι F H w) (id : Id) (o' : AObj) (H' : Heap)
    (hH : ∀ i, H'.slot i = if i = id then .live o' else H.slot i) (hn : ∀ i, H'.next ≤ i.k → i ≠ id ∧ H.next ≤ i.k) (hlo : H'.lo = H.lo) (h0 : o'.n = 0)
    (hslot : match H.slot id with | .unborn => True | .live o => o.ver < o'.ver | _ => False) :
    RelH E (unset ι id) F H' w ∧ Ext H ι F w H' (unset ι id) F w := by
  have hid : (H'.slot id) = .live o' := by rw [hH, if_pos rfl]
  have hwas : ∀ i, i ≠ id → (H'.slot i).is → (H.slot i).is := fun i hi h => by rw [hH, if_neg hi] at h; exact h
  have hι : ∀ i, i ≠ id → unset ι id i = ι i := fun i hi => by simp [unset, hi]
  have hιd : unset ι id id = none := by simp [unset]
  have hx : Ext H ι F w H' (unset ι id) F w := by
    refine Ext.of (fun _ h => h) (fun _ _ => rfl) fun i => ?_
    unfold SlotOk
    by_cases hi : i = id
    · subst hi
      rw [hid]
      cases hs : H.slot i with
      | unborn => trivial
      | dead => rw [hs] at hslot; exact hslot.elim
      | mp _ _ => rw [hs] at hslot; exact hslot.elim
      | live o =>
        rw [hs] at hslot
        simp only at hslot ⊢
        exact .inr ⟨o', rfl, by omega, fun he => by omega⟩
    · rw [hH, if_neg hi]
      cases hs : H.slot i with
      | unborn => trivial
      | dead => rfl
      | mp s g => exact .inr ⟨⟨s, g, rfl⟩, hι i hi⟩
      | live o => exact .inr ⟨o, rfl, Nat.le_refl _, fun _ => ⟨rfl, rfl, Nat.le_refl _, hι i hi, fun b cur hb hc => ⟨cur, hc, rfl⟩⟩⟩
  have hid' : ∀ i k, unset ι id i = some k → i ≠ id := fun i k h e => by subst e; rw [hιd] at h; cases h
  refine ⟨⟨r.os, r.tape, r.output, r.size, r.kept, fun i o hi => ?_, fun i s g hi => ?_, fun i i' k hi hi' hk hk' => ?_, fun i k hi hk => ?_, fun i k hi hk => ?_, fun i k hi hk => ?_, r.frlt, r.frin, fun i hi => ?_, r.ext.trans hx, by rw [hlo]; exact r.lo⟩, hx⟩
  · by_cases h : i = id
    · subst h
      rw [hid] at hi
      injection hi with hi
      subst hi
      refine ⟨by rw [h0]; exact Nat.zero_le _, ?_⟩
      rw [hιd]; exact h0
    · rw [hH, if_neg h] at hi
      obtain ⟨h1, h2⟩ := r.obj i o hi
      refine ⟨h1, ?_⟩
      rw [hι i h]
      cases hk : ι i with
      | none => rw [hk] at h2; exact h2
      | some k =>
        rw [hk] at h2
        obtain ⟨cur, g1, g2, g3⟩ := h2
        exact ⟨cur, g1, g2, fun i hi j hj => by obtain ⟨c, a, b, d⟩ := g3 i hi j hj; exact ⟨c, a, b, hx _ _ d⟩⟩
  · have h : i ≠ id := fun e => by subst e; rw [hid] at hi; cases hi
    rw [hH, if_neg h] at hi
    obtain ⟨k, es, clock, g1, g2, g3, g4⟩ := r.mapo i s g hi
    refine ⟨k, es, clock, by rw [hι i h]; exact g1, g2, g3, fun key hkey => ?_⟩
    have := g4 key hkey
    cases hg : g key with
    | none => rw [hg] at this; exact this
    | some u => rw [hg] at this; obtain ⟨n, e, a, b, c⟩ := this; exact ⟨n, e, a, b, hx _ _ c⟩
  · have h := hid' i k hk; have h' := hid' i' k hk'
    rw [hι i h] at hk; rw [hι i' h'] at hk'
    exact r.inj i i' k (hwas i h hi) (hwas i' h' hi') hk hk'
  · have h := hid' i k hk; rw [hι i h] at hk; exact r.nofr i k (hwas i h hi) hk
  · have h := hid' i k hk; rw [hι i h] at hk; exact r.own i k (hwas i h hi) hk
  · have h := hid' i k hk; rw [hι i h] at hk; exact r.lt i k (hwas i h hi) hk
  · obtain ⟨h1, h2⟩ := hn i hi
    rw [hH, if_neg h1]; exact r.next i h2

/-- A slice without elements, of the state's own. -/
def noRows (e sz : Nat) : AObj := { elem := e, sz := sz, ver := 0, n := 0, get := fun _ _ => .un }

/-- A nil slice in a slot is taken for the state's own, without elements. -/
theorem Weak.own (t id e sz : Nat) (hn : st.env t = .nils) (hid : st.heap.next = id) : Weak st ((st.on (st.heap.addAt id (noRows e sz))).put (some t) (.sref ⟨id, []⟩ 0 0 0)) := fun E ι F a w r => by
  subst hid
  obtain ⟨r1, x1⟩ := r.h.virt ⟨st.heap.next, []⟩ (noRows e sz) (st.heap.addAt st.heap.next (noRows e sz)) (fun i => by simp only [Heap.addAt]; exact beq_if _ _ _ _) (fun i hi => (by simp only [Heap.addAt] at hi; exact ⟨fun e => by subst e; simp at hi; omega, by omega⟩)) rfl rfl
    (by rw [r.h.next _ (Nat.le_refl _)]; trivial)
  refine ⟨unset ι ⟨st.heap.next, []⟩, F, ?_⟩
  have hv : a.tmps.getD t undef = .slice none 0 0 := by have := r.env t; rw [hn] at this; exact this
  have hrel : VRel (st.heap.addAt st.heap.next (noRows e sz)) (unset ι ⟨st.heap.next, []⟩) F w (.sref ⟨st.heap.next, []⟩ 0 0 0) (a.tmps.getD t undef) := by
    rw [hv]
    refine ⟨rfl, ?_⟩
    simp only [Heap.addAt, Id.beq_refl, cond_true]
    exact ⟨Nat.le_refl _, fun _ => ⟨Nat.le_refl _, none, 0, rfl, Nat.le_refl _, fun h => absurd h (Nat.lt_irrefl _)⟩⟩
  have hp := r.put r1 x1 (some t) hrel
  have ha : a.put (some t) (a.tmps.getD t undef) = a := by
    obtain ⟨tmps, defers⟩ := a
    simp only [Act.put, Act.mk.injEq, and_true]
    apply Array.ext
    · simp
    · intro i h1 h2
      by_cases hi : t = i
      · subst hi; simp [Array.getD, h2]
      · rw [Array.getElem_setIfInBounds_ne h2 hi]
  rw [ha] at hp
  exact hp

/-- Where rows that are appended come from. -/
def Src (st : St) (x : Operand) (m s : Nat) (news : Nat → Nat → V) : Prop := ∀ E ι F a w, Rel E ι F st a w → ∃ B c, a.eval x = .slice B m c ∧ m ≤ c ∧
  (0 < m → ∃ ad, B = some ad ∧ ∀ i, i < m → ∀ j, j < s → ∃ v, w.cell? (ad.add (i * s + j)) = some v ∧ v.oneCell' = true ∧ VRel st.heap ι F w (news i j) v)

theorem Src.sref {x : Operand} {id : Id} {ver rr m s : Nat} {o : AObj} (hx : st.eval x = .sref id ver rr m) (ho : st.heap.slot id = .live o) (hv : ver = o.ver) (hs : o.sz = s) :
    Src st x m s (fun i j => o.get (i + rr) j) := fun E ι F a w r => by
  subst hs
  obtain ⟨hn, A, cap, h1, h2, h3⟩ := live_sref r hx ho hv
  refine ⟨A, cap, h1, h2, fun hm => ?_⟩
  obtain ⟨b, cur, hb, rfl, hh, hsz⟩ := h3 (by omega)
  obtain ⟨cur', g1, g2, g3⟩ := obj_cells r.h ho hb
  refine ⟨_, rfl, fun i hi j hj => ?_⟩
  obtain ⟨u, q1, q2, q3, q4⟩ := g3 (i + rr) (by omega) j hj
  exact ⟨u, by rw [addr_add, show rr * o.sz + (i * o.sz + j) = (i + rr) * o.sz + j by rw [Nat.add_mul]; omega]; exact q1, q3, q4⟩
theorem Src.sl {x : Operand} {m s : Nat} {get : Nat → Nat → T} (hx : st.eval x = .t (.sl s m get)) : Src st x m s (fun i j => .t (get i j)) := fun E ι F a w r => by
  have hr := r.eval x
  rw [hx] at hr
  obtain ⟨A, cap, h1, h2, h3, h4⟩ := hr
  refine ⟨A, cap, h1, h2, fun hm => ?_⟩
  obtain ⟨b, o, rfl, hb, hc⟩ := h4 hm
  refine ⟨_, rfl, fun i hi j hj => ?_⟩
  obtain ⟨c, q1, q2⟩ := hc i hi j hj
  exact ⟨c, by rw [addr_add]; exact q1, q2.plain, q2⟩
theorem Src.nils {x : Operand} {s : Nat} (hx : st.eval x = .nils) : Src st x 0 s (fun _ _ => .un) := fun E ι F a w r => by
  have hr := r.eval x
  rw [hx] at hr
  exact ⟨none, 0, hr, Nat.le_refl _, fun h => absurd h (Nat.lt_irrefl _)⟩

/-- A rectangle of cells as a list. -/
theorem gather2 {p : Nat → Nat → Value → Prop} (s : Nat) : ∀ m, (∀ i, i < m → ∀ j, j < s → ∃ c, p i j c) → ∃ cs : List Value, cs.length = m * s ∧ ∀ i, i < m → ∀ j, j < s → ∃ c, cs[i * s + j]? = some c ∧ p i j c
  | 0, _ => ⟨[], by simp, fun i hi => absurd hi (Nat.not_lt_zero _)⟩
  | m + 1, h => by
    obtain ⟨cs, hl, hp⟩ := gather2 s m (fun i hi => h i (by omega))
    obtain ⟨ds, hl2, hp2⟩ := gather (p := fun j c => p m j c) s (fun j hj => h m (by omega) j hj)
    refine ⟨cs ++ ds, by rw [List.length_append, hl, hl2, Nat.succ_mul], fun i hi j hj => ?_⟩
    by_cases him : i < m
    · obtain ⟨c, h1, h2⟩ := hp i him j hj
      have hlt : i * s + j < cs.length := (List.getElem?_eq_some_iff.1 h1).1
      exact ⟨c, by rw [List.getElem?_append_left hlt]; exact h1, h2⟩
    · have : i = m := by omega
      subst this
      have hlt : j < ds.length := by omega
      exact ⟨ds[j], by rw [List.getElem?_append_right (by omega), hl, show i * s + j - i * s = j by omega]; exact List.getElem?_eq_getElem hlt, hp2 j _ (List.getElem?_eq_getElem hlt)⟩

theorem lin_lt {i j m s : Nat} (hi : i < m) (hj : j < s) : i * s + j < m * s := by
  have : (i + 1) * s ≤ m * s := Nat.mul_le_mul_right _ hi
  rw [Nat.succ_mul] at this; omega
theorem lin_div {k m s : Nat} (h : k < m * s) : ∃ i j, i < m ∧ j < s ∧ k = i * s + j := by
  have hs : 0 < s := by
    rcases Nat.eq_zero_or_pos s with h0 | h0
    · subst h0; simp at h
    · exact h0
  refine ⟨k / s, k % s, Nat.div_lt_of_lt_mul (by rw [Nat.mul_comm]; exact h), Nat.mod_lt _ hs, ?_⟩
  rw [Nat.mul_comm]; exact (Nat.div_add_mod k s).symm

/-- The object behind an append. -/
def AObj.app (o : AObj) (m : Nat) (news : Nat → Nat → V) : AObj :=
  { o with ver := o.ver + 1, n := o.n + m, get := fun i j => bif Nat.blt i o.n then o.get i j else news (i - o.n) j }

theorem blt_true {a b : Nat} (h : a < b) : Nat.blt a b = true := Nat.ble_eq_true_of_le h
theorem blt_false {a b : Nat} (h : b ≤ a) : Nat.blt a b = false := by
  cases hb : Nat.blt a b with
  | false => rfl
  | true => have := Nat.le_of_ble_eq_true hb; omega

theorem RelH.append {t ty' e : TypeId} {s by_ : Nat} [ht : TySlice P t e s by_] {z : Value} [hz : TyZero P e z] (hzs : z.cells.size = s) {E : Env} {ι : Id → Option Nat} {F : Nat → Prop} {H : Heap} {w : World} (r : RelH E ι F H w)
    {id : Id} {o : AObj} (ho : H.slot id = .live o) (hs : o.sz = s) (he : o.elem = e) {A : Option Addr} {cap : Nat} (hlc : o.n ≤ cap)
    (hcap : 0 < cap → ∃ b cur, ι id = some b ∧ A = some ⟨b, 0, none⟩ ∧ w.heap[b]? = some (.cells cur o.elem (0, 0)) ∧ cap * o.sz ≤ cur.size)
    {B : Option Addr} {m c : Nat} (hmc : m ≤ c) {news : Nat → Nat → V}
    (hsrc : 0 < m → ∃ ad, B = some ad ∧ ∀ i, i < m → ∀ j, j < s → ∃ v, w.cell? (ad.add (i * s + j)) = some v ∧ v.oneCell' = true ∧ VRel H ι F w (news i j) v)
    (hb : (o.n + m) * by_ ≤ 140737488355328) (hl : o.n + m ≤ LEN) :
    ∃ A' cap' w' ι', (Builtin.append_ #[t, t] ty' #[.slice A o.n cap, .slice B m c]).run P w = .ok (.slice A' (o.n + m) cap') w' ∧
      RelH E ι' F (H.set id (o.app m news)) w' ∧ Ext H ι F w (H.set id (o.app m news)) ι' F w' ∧ VRel (H.set id (o.app m news)) ι' F w' (.sref id (o.ver + 1) 0 (o.n + m)) (.slice A' (o.n + m) cap') := by
  have hLEN : LEN = 281474976710656 := rfl
  subst hs
  subst he
  have hsi := ht.s
  cases hq : P.info? o.elem with
  | none => simp [hq] at hsi
  | some inf =>
  simp only [hq, Option.map_some, Option.some.injEq, Prod.mk.injEq] at hsi
  obtain ⟨hsi1, hsi2⟩ := hsi
  have hz0 := hz.z
  simp only [hq, Option.map_some, Option.some.injEq] at hz0
  have hH : ∀ i, (H.set id (o.app m news)).slot i = if i = id then .live (o.app m news) else H.slot i := fun i => by simp only [Heap.set]; exact beq_if _ _ _ _
  have hnx : ∀ i : Id, (H.set id (o.app m news)).next ≤ i.k → i ≠ id ∧ H.next ≤ i.k := fun i hi => ⟨fun e => (by
    subst e
    have := r.next i hi
    rw [ho] at this; cases this), hi⟩
  have hself : (H.set id (o.app m news)).slot id = .live (o.app m news) := by rw [hH, if_pos rfl]
  rcases Nat.eq_zero_or_pos m with hm | hm
  · -- nothing is appended
    subst hm
    have hrun : (Builtin.append_ #[t, t] ty' #[.slice A o.n cap, .slice B 0 c]).run P w = .ok (.slice A (o.n + 0) cap) w := by
      have hl0 : ∀ (x : Addr), (loadCells x 0).run P w = .ok #[] w := fun x => by simpa using run_loadCells_list (P := P) w x [] (by simp)
      cases A <;> cases B <;> simp [Builtin.append_, run_underlying' ht.d, sizeOf, typeInfo, hq, Builtin.lenOf, Builtin.firstCells, hlc, storeCells, hl0]
    cases hι : ι id with
    | none =>
      have h0 : o.n = 0 := by have := (r.obj id o ho).2; rw [hι] at this; exact this
      obtain ⟨r1, x1⟩ := r.virt id (o.app 0 news) _ hH hnx rfl h0 (by rw [ho]; show o.ver < o.ver + 1; omega)
      refine ⟨A, cap, w, _, hrun, r1, x1, rfl, ?_⟩
      rw [hself]
      refine ⟨Nat.le_refl _, fun _ => ⟨by show 0 + (o.n + 0) ≤ o.n + 0; omega, A, cap, rfl, hlc, fun hc => ?_⟩⟩
      obtain ⟨b, cur, hb', _⟩ := hcap hc
      rw [hι] at hb'; cases hb'
    | some b =>
      obtain ⟨cur, g1, g2, g3⟩ := obj_cells r ho hι
      obtain ⟨r1, x1⟩ := r.step id b (o.app 0 news) cur w _ hH hnx rfl rfl rfl rfl (Nat.le_refl _) (fun _ _ _ => rfl) g1 (.inr ⟨hι, by rw [ho]; trivial⟩) hl g2
        (fun i hi j hj => by
          have hi' : i < o.n := hi
          obtain ⟨u, q1, q2, q3, q4⟩ := g3 i hi' j hj
          exact ⟨u, q2, q3, by simp only [AObj.app, blt_true hi', cond_true]; exact q4⟩)
        (by rw [ho]; exact ⟨by show o.ver ≤ o.ver + 1; omega, fun h => by have : o.ver = o.ver + 1 := h; omega⟩)
      refine ⟨A, cap, w, _, hrun, r1, x1, rfl, ?_⟩
      rw [hself]
      refine ⟨Nat.le_refl _, fun _ => ⟨by show 0 + (o.n + 0) ≤ o.n + 0; omega, A, cap, rfl, hlc, fun hc => ?_⟩⟩
      obtain ⟨b', cur', hb', hA, hh, hsz⟩ := hcap hc
      exact ⟨b', cur', by simp [upd]; rw [hι] at hb'; exact Option.some.inj hb', by rw [hA]; simp, hh, by simpa [AObj.app] using hsz⟩
  · obtain ⟨ad, rfl, hsrc'⟩ := hsrc hm
    obtain ⟨nl, hnl, hnews⟩ := gather2 (p := fun i j v => w.cell? (ad.add (i * o.sz + j)) = some v ∧ v.oneCell' = true ∧ VRel H ι F w (news i j) v) o.sz m hsrc'
    have hnl1 : ∀ k v, nl[k]? = some v → w.cell? (ad.add k) = some v ∧ v.oneCell' = true := fun k v hv => by
      have hk : k < m * o.sz := by rw [← hnl]; exact (List.getElem?_eq_some_iff.1 hv).1
      obtain ⟨i, j, hi, hj, rfl⟩ := lin_div hk
      obtain ⟨c', h1, h2, h3, _⟩ := hnews i hi j hj
      rw [h1] at hv
      have := Option.some.inj hv
      subst this
      exact ⟨h2, h3⟩
    by_cases hfit : o.n + m ≤ cap
    · -- it fits
      obtain ⟨b, cur, hι, rfl, hh, hsz⟩ := hcap (by omega)
      obtain ⟨cur0, g1, g2, g3⟩ := obj_cells r ho hι
      rw [hh] at g1
      injection g1 with g1
      injection g1 with g1
      subst g1
      have hroom : o.n * o.sz + nl.length ≤ cur.size := by
        rw [hnl, ← Nat.add_mul]; exact Nat.le_trans (Nat.mul_le_mul_right _ hfit) hsz
      have hl1 := run_loadCells_list (P := P) w ad nl (fun k v hv => (hnl1 k v hv).1)
      have hst := run_storeCells_cells (P := P) b (o.n * o.sz) nl 0 w (fun j hj => by simp [World.cell?, hh]; omega) (fun j hj => by simp [World.frozen?, hh]) (fun v hv => by
        obtain ⟨k, hk, hkv⟩ := List.getElem_of_mem hv
        exact (hnl1 k v (by rw [List.getElem?_eq_getElem hk, hkv])).2)
      have hrun : (Builtin.append_ #[t, t] ty' #[.slice (some ⟨b, 0, none⟩) o.n cap, .slice (some ad) m c]).run P w = .ok (.slice (some ⟨b, 0, none⟩) (o.n + m) cap) (w.setCells b (o.n * o.sz) nl) := by
        have hadd : (⟨b, 0, none⟩ : Addr).add (o.n * o.sz) = ⟨b, o.n * o.sz, none⟩ := by rw [addr_add]; simp
        simp only [Nat.add_zero] at hst
        rw [hnl] at hl1
        simp [Builtin.append_, run_underlying' ht.d, sizeOf, typeInfo, hq, Builtin.lenOf, Builtin.firstCells, hfit, hsi1, hl1, hadd, hst]
      obtain ⟨k1, k2, k3, k4⟩ := setCells_rest (b := b) nl (o.n * o.sz) w
      obtain ⟨r1, x1⟩ := r.step id b (o.app m news) (setArr cur (o.n * o.sz) nl) _ _ hH hnx rfl k1 k2 k3 (by omega) (fun k hk _ => setCells_other hk _ _ _) (setCells_heap nl _ w cur hh) (.inr ⟨hι, by rw [ho]; trivial⟩) hl
        (by show (o.n + m) * o.sz ≤ _; rw [setArr_size]; rw [Nat.add_mul]; omega)
        (fun i hi j hj => by
          have hi' : i < o.n + m := hi
          have hj' : j < o.sz := hj
          show ∃ c, (setArr cur (o.n * o.sz) nl)[i * o.sz + j]? = some c ∧ _
          rw [setArr_get _ _ _ hroom]
          by_cases hin : i < o.n
          · have := lin_lt hin hj'
            rw [if_neg (by omega)]
            obtain ⟨u, q1, q2, q3, q4⟩ := g3 i hin j hj'
            exact ⟨u, q2, q3, by simp only [AObj.app, blt_true hin, cond_true]; exact q4⟩
          · have h1 : (i - o.n) * o.sz + j < m * o.sz := lin_lt (by omega) hj'
            have h2 : i * o.sz + j = o.n * o.sz + ((i - o.n) * o.sz + j) := by
              rw [← Nat.add_assoc, ← Nat.add_mul]; congr 2; omega
            rw [if_pos (by omega)]
            obtain ⟨v, q1, q2, q3, q4⟩ := hnews (i - o.n) (by omega) j hj'
            exact ⟨v, by rw [h2, show o.n * o.sz + ((i - o.n) * o.sz + j) - o.n * o.sz = (i - o.n) * o.sz + j by omega]; exact q1, q3, by simp only [AObj.app, blt_false (show o.n ≤ i by omega), cond_false]; exact q4⟩)
        (by rw [ho]; exact ⟨by show o.ver ≤ o.ver + 1; omega, fun h => by have : o.ver = o.ver + 1 := h; omega⟩)
      refine ⟨_, cap, _, _, hrun, r1, x1, rfl, ?_⟩
      rw [hself]
      refine ⟨Nat.le_refl _, fun _ => ⟨by show 0 + (o.n + m) ≤ o.n + m; omega, _, cap, rfl, hfit, fun hc => ?_⟩⟩
      exact ⟨b, _, upd_self _ _ _, by simp, setCells_heap nl _ w cur hh, by rw [setArr_size]; simpa [AObj.app] using hsz⟩
    · -- it grows
      have hg : cap < o.n + m := by omega
      have hf := growslice_fits (old := cap) hg hb
      -- the old cells
      have hold : ∃ olds : List Value, olds.length = o.n * o.sz ∧ (∀ j v, olds[j]? = some v → ∀ bb, A = some bb → w.cell? (bb.add j) = some v) ∧ ∀ i, i < o.n → ∀ j, j < o.sz → ∃ c, olds[i * o.sz + j]? = some c ∧ c.oneCell' = true ∧ VRel H ι F w (o.get i j) c := by
        rcases Nat.eq_zero_or_pos cap with hc | hc
        · have h0 : o.n = 0 := by omega
          exact ⟨[], by simp [h0], fun j v hv => by simp at hv, fun i hi => by omega⟩
        · obtain ⟨b, cur, hι, rfl, hh, hsz⟩ := hcap hc
          obtain ⟨cur0, g1, g2, g3⟩ := obj_cells r ho hι
          obtain ⟨ol, hol, hp⟩ := gather2 (p := fun i j v => w.cell? ⟨b, i * o.sz + j, none⟩ = some v ∧ v.oneCell' = true ∧ VRel H ι F w (o.get i j) v) o.sz o.n (fun i hi j hj => by
            obtain ⟨u, q1, q2, q3, q4⟩ := g3 i hi j hj
            exact ⟨u, q1, q3, q4⟩)
          refine ⟨ol, hol, fun k v hv bb hbb => ?_, fun i hi j hj => ?_⟩
          · have hk : k < o.n * o.sz := by rw [← hol]; exact (List.getElem?_eq_some_iff.1 hv).1
            obtain ⟨i, j, hi, hj, rfl⟩ := lin_div hk
            obtain ⟨c', h1, h2, _⟩ := hp i hi j hj
            rw [h1] at hv
            have := Option.some.inj hv
            subst this
            have := Option.some.inj hbb
            subst this
            rw [addr_add, Nat.zero_add]; exact h2
          · obtain ⟨c', h1, h2, h3, h4⟩ := hp i hi j hj
            exact ⟨c', h1, h3, h4⟩
      obtain ⟨olds, holl, hol1, hol2⟩ := hold
      have hgc := grownCap_ge w (o.n + m) cap o.elem
      have hrun : (Builtin.append_ #[t, t] ty' #[.slice A o.n cap, .slice (some ad) m c]).run P w = .ok (.slice (some ⟨w.heap.size, 0, none⟩) (o.n + m) (grownCap w (o.n + m) cap o.elem))
          (w.drew.alloc (.cells (olds.toArray ++ nl.toArray ++ Builtin.zeroCells z.cells (grownCap w (o.n + m) cap o.elem - (o.n + m))) o.elem)) := by
        cases A with
        | none =>
          have hc0 : cap = 0 := by
            rcases Nat.eq_zero_or_pos cap with h | h
            · exact h
            · obtain ⟨_, _, _, h, _⟩ := hcap h; cases h
          have hn0 : o.n = 0 := by omega
          have hol0 : olds = [] := List.eq_nil_of_length_eq_zero (by rw [holl, hn0]; simp)
          subst hc0
          rw [hn0, hol0]
          simp only [Nat.zero_add]
          have := run_append_nil (P := P) w t ty' o.elem inf z ht.d hq hz0 ad m c nl (by rw [hnl, hsi1]) (fun j v hv => (hnl1 j v hv).1) hm (by omega) (by rw [hsi2]; rw [hn0] at hb; simp at hb; omega)
          simpa using this
        | some bb =>
          exact run_append_grow (P := P) w t ty' o.elem inf z ht.d hq hz0 bb o.n cap olds (by rw [holl, hsi1]) (fun j v hv => hol1 j v hv bb rfl) ad m c nl (by rw [hnl, hsi1]) (fun j v hv => (hnl1 j v hv).1) hg (by omega) (by rw [hsi2]; exact hf)
      have hzc : (Builtin.zeroCells z.cells (grownCap w (o.n + m) cap o.elem - (o.n + m))).size = (grownCap w (o.n + m) cap o.elem - (o.n + m)) * o.sz := by
        simp [Builtin.zeroCells, hzs]
      have hcsz : (olds.toArray ++ nl.toArray ++ Builtin.zeroCells z.cells (grownCap w (o.n + m) cap o.elem - (o.n + m))).size = (grownCap w (o.n + m) cap o.elem) * o.sz := by
        rw [Array.size_append, Array.size_append, hzc]
        simp only [List.size_toArray, holl, hnl]
        rw [← Nat.add_mul, ← Nat.add_mul]; congr 1; omega
      obtain ⟨r0, x0⟩ := r.same (w' := w.drew) rfl rfl rfl rfl
      have hoc : ∀ i, i < o.n + m → ∀ j, j < o.sz → ∃ c, (olds.toArray ++ nl.toArray ++ Builtin.zeroCells z.cells (grownCap w (o.n + m) cap o.elem - (o.n + m)))[i * o.sz + j]? = some c ∧ c.oneCell' = true ∧ VRel H ι F w ((o.app m news).get i j) c := by
        intro i hi j hj
        have hlt : i * o.sz + j < (olds.toArray ++ nl.toArray).size := by
          simp only [Array.size_append, List.size_toArray, holl, hnl]
          rw [← Nat.add_mul]; exact lin_lt hi hj
        rw [Array.getElem?_append_left hlt]
        by_cases hin : i < o.n
        · have h1 := lin_lt hin hj
          rw [Array.getElem?_append_left (by simp only [List.size_toArray, holl]; exact h1)]
          obtain ⟨c', q1, q2, q3⟩ := hol2 i hin j hj
          exact ⟨c', by simpa using q1, q2, by simp only [AObj.app, blt_true hin, cond_true]; exact q3⟩
        · have h2 : i * o.sz + j = o.n * o.sz + ((i - o.n) * o.sz + j) := by
            rw [← Nat.add_assoc, ← Nat.add_mul]; congr 2; omega
          rw [Array.getElem?_append_right (by simp only [List.size_toArray, holl]; omega)]
          obtain ⟨c', q1, q2, q3, q4⟩ := hnews (i - o.n) (by omega) j hj
          exact ⟨c', by simp only [List.size_toArray, holl]; rw [h2, show o.n * o.sz + ((i - o.n) * o.sz + j) - o.n * o.sz = (i - o.n) * o.sz + j by omega]; simpa using q1, q3,
            by simp only [AObj.app, blt_false (show o.n ≤ i by omega), cond_false]; exact q4⟩
      obtain ⟨r1, x1⟩ := r0.step id w.heap.size (o.app m news) (olds.toArray ++ nl.toArray ++ Builtin.zeroCells z.cells (grownCap w (o.n + m) cap o.elem - (o.n + m)))
        (w.drew.alloc (.cells (olds.toArray ++ nl.toArray ++ Builtin.zeroCells z.cells (grownCap w (o.n + m) cap o.elem - (o.n + m))) o.elem)) _ hH hnx rfl rfl rfl rfl (by simp) (fun k hk hlt => by
          show (w.heap.push _)[k]? = _
          rw [Array.getElem?_push, if_neg (by exact hk)]; rfl) (by show (w.heap.push _)[w.heap.size]? = _; simp; rfl) (.inl rfl) hl
        (by rw [hcsz]; exact Nat.mul_le_mul_right _ hgc) (fun i hi j hj => by
          obtain ⟨c', q1, q2, q3⟩ := hoc i hi j hj
          exact ⟨c', q1, q2, x0 _ _ q3⟩)
        (by rw [ho]; exact ⟨by show o.ver ≤ o.ver + 1; omega, fun h => by have : o.ver = o.ver + 1 := h; omega⟩)
      refine ⟨_, _, _, _, hrun, r1, x0.trans x1, rfl, ?_⟩
      rw [hself]
      refine ⟨Nat.le_refl _, fun _ => ⟨by show 0 + (o.n + m) ≤ o.n + m; omega, _, _, rfl, hgc, fun hc => ?_⟩⟩
      exact ⟨w.heap.size, (olds.toArray ++ nl.toArray ++ Builtin.zeroCells z.cells (grownCap w (o.n + m) cap o.elem - (o.n + m))), upd_self _ _ _, by simp, by show (w.heap.push _)[w.heap.size]? = _; simp; rfl, by rw [hcsz]; simp [AObj.app]⟩

/-- append: onto a slice of the state's own. -/
theorem SL.append {t e : TypeId} {s by_ : Nat} [ht : TySlice P t e s by_] {z : Value} [hz : TyZero P e z] {x y : Operand} {id : Id} {ver len m : Nat} {o : AObj} {news : Nat → Nat → V}
    (hx : st.eval x = .sref id ver 0 len) (ho : st.heap.slot id = .live o) (hv : ver = o.ver) (hln : len = o.n) (hs : o.sz = s) (he : o.elem = e) (hzs : z.cells.size = s) (hy : Src st y m s news)
    (hb : (o.n + m) * by_ ≤ 140737488355328) (hl : o.n + m ≤ LEN)
    (hk : SL P L Q ((st.on (st.heap.set id (o.app m news))).put d (.sref id (o.ver + 1) 0 (o.n + m)))) :
    SL P (⟨d, .call { callee := .builtin .append, args := #[x, y], argTypes := #[t, t] }, ty, none⟩ :: L) Q st :=
  SL.value rfl fun E ι F a w r => by
    subst hln
    obtain ⟨hn, A, cap, h1, h2, h3⟩ := live_sref r hx ho hv
    obtain ⟨B, c, g1, g2, g3⟩ := hy E ι F a w r
    obtain ⟨A', cap', w', ι', q1, q2, q3, q4⟩ := r.h.append (P := P) (t := t) (ty' := ty) (s := s) (by_ := by_) (z := z) hzs ho hs he h2 (fun hc => by
      obtain ⟨b, cur, p1, p2, p3, p4⟩ := h3 hc
      exact ⟨b, cur, p1, by simpa using p2, p3, by simpa using p4⟩) g2 g3 hb hl
    exact ⟨_, w', ι', F, _, _, by simp [execOp, GOp.oper, resolve, invoke, builtin, h1, g1, q1], q2, q3, q4, hk⟩

end Go.Abs
