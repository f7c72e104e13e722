/-
Slices that are built and made, over abstract states.
No statement of the program is proved here.
-/
import Derived.Test.YtlcholjffgaemaaB1
set_option linter.unusedVariables false
set_option linter.unusedSimpArgs false
namespace Go.Abs
open Go

variable {P : Program} {Q : Exit → St → Prop} {st : St} {L : List GOp} {d : Option Tmp} {ty : TypeId}

theorem fill_parts {s : Nat} : ∀ (vs : List Value) (k : Nat) (cells : Array Value), (∀ v ∈ vs, v.cells.size = s) → (k + vs.length) * s ≤ cells.size →
    ∃ cs, Instr.fill (fun i => some (i * s, s)) cells (vs.zipIdx k |>.map fun p => (p.2, p.1)) = some cs ∧ cs.size = cells.size ∧
      (∀ i j, i < vs.length → j < s → cs[(k + i) * s + j]? = (vs.getD i undef).cells[j]?) ∧ (∀ x, x < k * s → cs[x]? = cells[x]?)
  | [], k, cells, h, hk => ⟨cells, rfl, rfl, fun i j hi => absurd hi (Nat.not_lt_zero _), fun x _ => rfl⟩
  | v :: vs, k, cells, h, hk => by
    have hv : v.cells.size = s := h v (by simp)
    simp only [List.length_cons] at hk
    have hle : k * s + s ≤ cells.size := by
      have : (k + 1) * s ≤ (k + (vs.length + 1)) * s := Nat.mul_le_mul_right _ (by omega)
      rw [Nat.add_mul, Nat.one_mul] at this
      omega
    have hset : ∀ (l : List Value) (o : Nat) (cs : Array Value) (j0 : Nat), o + j0 + l.length ≤ cs.size → ((l.zipIdx j0).foldl (fun cs (p : Value × Nat) => cs.setIfInBounds (o + p.2) p.1) cs).size = cs.size ∧
        (∀ j, j < l.length → ((l.zipIdx j0).foldl (fun cs (p : Value × Nat) => cs.setIfInBounds (o + p.2) p.1) cs)[o + j0 + j]? = l[j]?) ∧
        (∀ x, x < o + j0 ∨ o + j0 + l.length ≤ x → ((l.zipIdx j0).foldl (fun cs (p : Value × Nat) => cs.setIfInBounds (o + p.2) p.1) cs)[x]? = cs[x]?) := by
      intro l
      induction l with
      | nil => intro o cs j0 _; exact ⟨rfl, fun j hj => absurd hj (Nat.not_lt_zero _), fun x _ => rfl⟩
      | cons a l ih =>
        intro o cs j0 hsz
        simp only [List.length_cons] at hsz
        simp only [List.zipIdx_cons, List.foldl_cons]
        obtain ⟨i1, i2, i3⟩ := ih o (cs.setIfInBounds (o + j0) a) (j0 + 1) (by simp; omega)
        refine ⟨by rw [i1]; simp, fun j hj => ?_, fun x hx => ?_⟩
        · cases j with
          | zero =>
            rw [i3 _ (by omega)]
            simp [Array.getElem?_setIfInBounds_self_of_lt (show o + j0 < cs.size by omega)]
          | succ j =>
            have := i2 j (by simpa using hj)
            rw [show o + j0 + (j + 1) = o + (j0 + 1) + j by omega, this]; simp
        · rw [i3 x (by simp only [List.length_cons] at hx; omega)]
          rw [Array.getElem?_setIfInBounds_ne (by simp only [List.length_cons] at hx; omega)]
    have hz : v.cells.zipIdx.foldl (fun cs (p : Value × Nat) => cs.setIfInBounds (k * s + p.2) p.1) cells = (v.cells.toList.zipIdx 0).foldl (fun cs (p : Value × Nat) => cs.setIfInBounds (k * s + p.2) p.1) cells := by
      rw [← Array.foldl_toList, Array.toList_zipIdx]
    obtain ⟨g1, g2, g3⟩ := hset v.cells.toList (k * s) cells 0 (by simp [hv]; omega)
    obtain ⟨cs, r1, r2, r3, r4⟩ := fill_parts vs (k + 1) ((v.cells.toList.zipIdx 0).foldl (fun cs (p : Value × Nat) => cs.setIfInBounds (k * s + p.2) p.1) cells) (fun x hx => h x (by simp [hx])) (by rw [g1]; rw [show k + 1 + vs.length = k + (vs.length + 1) by omega]; exact hk)
    refine ⟨cs, ?_, by rw [r2, g1], fun i j hi hj => ?_, fun x hx => ?_⟩
    · simp only [List.zipIdx_cons, List.map_cons, Instr.fill, hv]
      rw [if_neg (by simp; omega)]
      rw [← r1, ← hz]
    · cases i with
      | zero =>
        simp only [Nat.add_zero, List.getD_cons_zero]
        rw [r4 _ (by rw [Nat.add_mul, Nat.one_mul]; omega)]
        have := g2 j (by simp [hv]; exact hj)
        rw [Nat.add_zero] at this
        rw [this]; simp
      | succ i =>
        have := r3 i j (by simpa using hi) hj
        rw [show k + (i + 1) = k + 1 + i by omega, this]; simp
    · rw [r4 x (by rw [Nat.add_mul, Nat.one_mul]; omega)]
      exact g3 x (.inl (by omega))

/-- The parts of a slice that is built, one after the other. -/
def partsOf (xs : List Operand) : Array (Nat × Operand) := (xs.zipIdx.map fun p => (p.2, p.1)).toArray
theorem partsOf_eval (xs : List Operand) (ev : Operand → Value) : ((partsOf xs).map fun p => (p.1, ev p.2)).toList = ((xs.map ev).zipIdx.map fun p => (p.2, p.1)) := by
  simp [partsOf, List.zipIdx_map, Function.comp_def]

/-- A slice that is built: a new object. -/
theorem SL.buildS {t e : TypeId} {s by_ : Nat} [ht : TySlice P t e s by_] {z : Value} [hz : TyZero P e z] {xs : List Operand} {us : List V} (hzs : z.cells.size = s) (hx : xs.map st.eval = us) (hr : ∀ u ∈ us, u.rowOk s = true) (h0 : 0 < s)
    (hb : xs.length * s ≤ 16777216)
    (hk : SL P L Q ((st.on (st.heap.addAt st.heap.next { elem := e, sz := s, ver := 0, n := xs.length, get := fun i j => (us.getD i .un).row j })).put d (.sref ⟨st.heap.next, []⟩ 0 0 xs.length))) :
    SL P (⟨d, .buildSlice t xs.length (partsOf xs), ty, none⟩ :: L) Q st :=
  SL.value rfl fun E ι F a w r => by
    have hlen : us.length = xs.length := by rw [← hx]; simp
    have hrow : ∀ i, i < xs.length → (a.eval (xs.getD i default)).cells.size = s ∧ ∀ j, j < s → ∃ c, (a.eval (xs.getD i default)).cells[j]? = some c ∧ c.oneCell' = true ∧ VRel st.heap ι F w ((us.getD i .un).row j) c := fun i hi => by
      have h1 : us.getD i .un = st.eval (xs.getD i default) := by
        subst hx; simp [List.getD_eq_getElem?_getD, hi]
      have h2 : us.getD i .un ∈ us := by
        rw [List.getD_eq_getElem?_getD, List.getElem?_eq_getElem (by omega)]; exact List.getElem_mem _
      exact V.rowOk_cells (hr _ h2) (h1 ▸ r.eval _)
    have hs : (sizeOf e).run P w = .ok s w := by
      have hs := ht.s
      cases hq : P.info? e with
      | none => simp [hq] at hs
      | some i => simp [hq] at hs; simp [sizeOf, typeInfo, hq, hs]
    let zs : Array Value := (Array.range (xs.length * s)).map fun i => z.cells[i % z.cells.size]!
    obtain ⟨cs, f1, f2, f3, -⟩ := fill_parts (s := s) (xs.map a.eval) 0 zs (fun v hv => by
      obtain ⟨x, hx', rfl⟩ := List.mem_map.1 hv
      obtain ⟨i, hi, rfl⟩ := List.getElem_of_mem hx'
      have := (hrow i hi).1
      rwa [List.getD_eq_getElem?_getD, List.getElem?_eq_getElem hi] at this) (by simp [zs])
    have hsz : cs.size = xs.length * s := by rw [f2]; simp [zs]
    obtain ⟨g1, g2⟩ := r.h.alloc { elem := e, sz := s, ver := 0, n := xs.length, get := fun i j => (us.getD i .un).row j } cs (by
        have : xs.length * 1 ≤ xs.length * s := Nat.mul_le_mul_left _ h0
        show xs.length ≤ LEN
        simp only [LEN]; omega) (by show xs.length * s ≤ cs.size; omega) (fun i hi j hj => by
      have hi : i < xs.length := hi
      have hj : j < s := hj
      obtain ⟨c, c1, c2, c3⟩ := (hrow i hi).2 j hj
      refine ⟨c, ?_, c2, c3⟩
      show cs[i * s + j]? = some c
      have := f3 i j (by simpa using hi) hj
      rw [Nat.zero_add] at this
      rw [this, ← c1]
      simp [List.getD_eq_getElem?_getD, hi])
    refine ⟨.slice (some ⟨w.heap.size, 0, none⟩) xs.length xs.length, _, _, F, _, .sref ⟨st.heap.next, []⟩ 0 0 xs.length, ?_, g1, g2, ⟨rfl, ?_⟩, hk⟩
    rotate_left
    · rw [Heap.add_self]
      exact ⟨Nat.le_refl _, fun _ => ⟨by show 0 + xs.length ≤ xs.length; omega, some ⟨w.heap.size, 0, none⟩, xs.length, rfl, Nat.le_refl _, fun _ => ⟨w.heap.size, cs, upd_self _ _ _, by simp, by show (w.heap.push _)[w.heap.size]? = _; simp, by show 0 * s + xs.length * s ≤ cs.size; omega⟩⟩⟩
    · have hp : ((partsOf xs).map fun p => (p.1, a.eval p.2)).toList = ((xs.map a.eval).zipIdx.map fun p => (p.2, p.1)) := partsOf_eval xs a.eval
      have hno : ¬ xs.length * s > 2 ^ 24 := by omega
      by_cases hz0 : xs.length * s = 0
      · have hz1 : ((Array.range (xs.length * s)).map fun i => (#[] : Array Value)[i % (#[] : Array Value).size]!) = zs := by
          apply Array.ext <;> simp [zs, hz0]
        simp only [execOp, GOp.oper, Instr.buildSlice, Sem.run_bind, run_underlying' ht.d, Result.andThen_ok, hs, if_neg hno, if_pos hz0, hp]
        simp only [Sem.run_pure, Result.andThen_ok, hz1, f1, newRow, run_newObj, Sem.run_bind]
        rfl
      · simp only [execOp, GOp.oper, Instr.buildSlice, Sem.run_bind, run_underlying' ht.d, Result.andThen_ok, hs, if_neg hno, if_neg hz0, hp, zero_run (P := P) (t := e)]
        simp only [Sem.run_pure, Result.andThen_ok, newRow, run_newObj, Sem.run_bind]
        rw [show ((Array.range (xs.length * s)).map fun i => z.cells[i % z.cells.size]!) = zs from rfl, f1]
        simp only [Sem.run_bind, run_newObj, Result.andThen_ok, Sem.run_pure]
        rfl

/-- A slice that is made: a new object of zeros. -/
theorem SL.makeS {t e : TypeId} {s by_ : Nat} [ht : TySlice P t e s by_] {z : Value} [hz : TyZero P e z] {x y : Operand} {kx ky : IntKind} {m : Int} {n : Nat} (hzs : z.cells.size = s) (hx : st.eval x = .t (.int kx m)) (hy : st.eval y = .t (.int ky m)) (hm : m = n) (h0 : 0 < s)
    (hb : n * by_ ≤ 140737488355328) (hl : n ≤ LEN)
    (hk : SL P L Q ((st.on (st.heap.addAt st.heap.next { elem := e, sz := s, ver := 0, n := n, get := fun _ j => V.cell (z.cells.getD j undef) })).put d (.sref ⟨st.heap.next, []⟩ 0 0 n))) :
    SL P (⟨d, .makeSlice t x y, ty, none⟩ :: L) Q st :=
  SL.value rfl fun E ι F a w r => by
    subst hm
    have hn : (n : Int) ≤ 281474976710656 := by simp only [LEN] at hl; omega
    obtain ⟨i, hi, hi1, hi2⟩ : ∃ i, P.info? e = some i ∧ i.size = s ∧ i.bytes = by_ := by
      have hs := ht.s
      cases hq : P.info? e with
      | none => simp [hq] at hs
      | some i => simp [hq] at hs; exact ⟨i, rfl, hs.1, hs.2⟩
    have hiz : i.zero = some z := by
      have hz0 := hz.z
      rw [hi] at hz0
      simpa using hz0
    have hbi : ((i.bytes : Nat) : Int) * (n : Int) ≤ 281474976710656 := by
      rw [hi2]
      have h1 : by_ * n ≤ 140737488355328 := by rw [Nat.mul_comm]; exact hb
      have h2 : ((by_ * n : Nat) : Int) ≤ 140737488355328 := by omega
      rw [Int.natCast_mul] at h2
      omega
    have hrun := run_make (P := P) w t e i z ht.d hi hiz kx ky (n : Int) (n : Int) (by omega) (Int.le_refl _) hbi (by omega)
    have htn : (n : Int).toNat = n := by simp
    rw [htn, hi1] at hrun
    have hcell : ∀ i, i < n → ∀ j, j < s → (madeCells z.cells (n * s))[i * s + j]? = z.cells[j]? := fun i hi j hj => by
      have hlt : i * s + j < n * s := lin_lt hi hj
      have hm : (i * s + j) % s = j := by rw [Nat.add_comm, Nat.add_mul_mod_self_right, Nat.mod_eq_of_lt hj]
      have hj' : j < z.cells.size := by omega
      have e1 : z.cells[j]! = z.cells[j] := getElem!_pos _ _ _
      simp [madeCells, hlt, hzs, hm, hj', e1]
    obtain ⟨g1, g2⟩ := r.h.alloc { elem := e, sz := s, ver := 0, n := n, get := fun _ j => V.cell (z.cells.getD j undef) } (madeCells z.cells (n * s)) hl (by rw [size_madeCells]; exact Nat.le_refl _) (fun i hi j hj => by
      have hj : j < s := hj
      have hj' : j < z.cells.size := by omega
      refine ⟨z.cells[j], ?_, ?_, ?_⟩
      · show (madeCells z.cells (n * s))[i * s + j]? = _
        rw [hcell i hi j hj]; exact Array.getElem?_eq_getElem hj'
      · exact Array.all_eq_true_iff_forall_mem.1 hz.c _ (Array.getElem_mem hj')
      · show VRel _ _ _ _ (V.cell (z.cells.getD j undef)) _
        rw [Array.getD_eq_getD_getElem?, Array.getElem?_eq_getElem hj', Option.getD_some]
        exact V.cell_rel _ _ _ _ _)
    refine ⟨.slice (some ⟨w.heap.size, 0, none⟩) n n, _, _, F, _, .sref ⟨st.heap.next, []⟩ 0 0 n, ?_, g1, g2, ⟨rfl, ?_⟩, hk⟩
    rotate_left
    · rw [Heap.add_self]
      exact ⟨Nat.le_refl _, fun _ => ⟨by show 0 + n ≤ n; omega, some ⟨w.heap.size, 0, none⟩, n, rfl, Nat.le_refl _, fun _ => ⟨w.heap.size, madeCells z.cells (n * s), upd_self _ _ _, by simp, by show (w.heap.push _)[w.heap.size]? = _; simp, by show 0 * s + n * s ≤ _; rw [size_madeCells]; omega⟩⟩⟩
    · simp only [execOp, GOp.oper, int_eval r hx, int_eval r hy, hrun, Sem.run_bind, Result.andThen_ok]
      rfl

/-- append onto nil: a new object. -/
theorem SL.appendN {st : St} {t e : TypeId} {s by_ : Nat} [ht : TySlice P t e s by_] {z : Value} [hz : TyZero P e z] {x y : Operand} {m : Nat} {news : Nat → Nat → V} {o : AObj} (o1 : o.elem = e) (o2 : o.sz = s) (o3 : o.ver = 0) (o4 : o.n = 0)
    (hx : st.eval x = .nils) (hzs : z.cells.size = s) (hy : Src st y m s news)
    (hb : m * by_ ≤ 140737488355328) (hl : m ≤ LEN)
    (hk : SL P L Q ((st.on ((st.heap.addAt st.heap.next o).set ⟨st.heap.next, []⟩ (o.app m news))).put d (.sref ⟨st.heap.next, []⟩ (o.ver + 1) 0 (o.n + m)))) :
    SL P (⟨d, .call { callee := .builtin .append, args := #[x, y], argTypes := #[t, t] }, ty, none⟩ :: L) Q st :=
  SL.value rfl fun E ι F a w r => by
    subst o1
    obtain ⟨r1, x1⟩ := r.h.virt ⟨st.heap.next, []⟩ o (st.heap.addAt st.heap.next o) (fun i => by simp only [Heap.addAt]; exact beq_if _ _ _ _) (fun i hi => (by simp only [Heap.addAt] at hi; exact ⟨fun e => by subst e; simp at hi; omega, by omega⟩)) rfl o4
      (by rw [r.h.next _ (Nat.le_refl _)]; trivial)
    have hxv : a.eval x = .slice none 0 0 := by have := r.eval x; rw [hx] at this; exact this
    obtain ⟨B, c, g1, g2, g3⟩ := hy E ι F a w r
    have ho : (st.heap.addAt st.heap.next o).slot ⟨st.heap.next, []⟩ = .live o := by simp only [Heap.addAt, Id.beq_refl, cond_true]
    obtain ⟨A', cap', w', ι', q1, q2, q3, q4⟩ := r1.append (P := P) (t := t) (ty' := ty) (s := s) (by_ := by_) (z := z) hzs ho o2 rfl (A := none) (cap := 0) (Nat.le_of_eq o4) (fun hc => absurd hc (Nat.lt_irrefl _)) g2 (fun hm => by
      obtain ⟨ad, k1, k2⟩ := g3 hm
      exact ⟨ad, k1, fun i hi j hj => by
        obtain ⟨v, v1, v2, v3⟩ := k2 i hi j hj
        exact ⟨v, v1, v2, x1 _ _ v3⟩⟩) (by rw [o4, Nat.zero_add]; exact hb) (by rw [o4]; omega)
    have q1 : (Builtin.append_ #[t, t] ty #[.slice none 0 0, .slice B m c]).run P w = .ok (.slice A' (o.n + m) cap') w' := by rw [← q1, o4]
    exact ⟨_, w', ι', F, _, _, by simp [execOp, GOp.oper, resolve, invoke, builtin, hxv, g1, q1], q2, x1.trans q3, q4, hk⟩
end Go.Abs
