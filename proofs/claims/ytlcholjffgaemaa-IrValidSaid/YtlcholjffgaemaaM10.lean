/-
Texts of the proof, part 10: Un Uh Ui.
No statement of the program is proved here.
-/
import Derived.Test.YtlcholjffgaemaaM9
set_option linter.unusedVariables false
set_option linter.unusedSectionVars false
set_option linter.unusedSimpArgs false
set_option maxHeartbeats 1000000
namespace Go.Abs
open Go Go.Proofs
noncomputable section
theorem foldO_rel {σ τ α : Type} {g : σ -> α -> Option σ} {g' : τ -> α -> Option τ} {R : σ -> τ -> Prop} : ∀ (l : List α), (∀ a ∈ l, ∀ s t, R s t -> (g s a = none /\ g' t a = none) \/ ∃ s1 t1, g s a = some s1 /\ g' t a = some t1 /\ R s1 t1) -> ∀ s t, R s t ->
  (foldO g l s = none /\ foldO g' l t = none) \/ ∃ s1 t1, foldO g l s = some s1 /\ foldO g' l t = some t1 /\ R s1 t1
 | [], _, s, t, r => .inr ⟨s, t, rfl, rfl, r⟩
 | a :: l, h, s, t, r => by
  simp only [foldO]
  rcases h a (List.mem_cons_self ..) s t r with ⟨h1, h2⟩ | ⟨s1, t1, h1, h2, r1⟩
  ·rw [h1, h2]; exact .inl ⟨rfl, rfl⟩
  ·rw [h1, h2]
   exact foldO_rel l (fun a ha => h a (List.mem_cons_of_mem _ ha)) s1 t1 r1
structure DRel (n : Nat) (b : Int) (s : DI) (t : DK) : Prop where
 d : s.1 = t.1
 l1 : t.1.length = n
 l2 : s.2.length = n
 l3 : t.2.length = n
 k : ∀ v, v < n -> (t.2.getD v false = true ↔ s.2.getD v 0 = b + 1)
 le : ∀ v, v < n -> s.2.getD v 0 <= b + 1
theorem getD_set_if {α : Type} {l : List α} {i j : Nat} {y z : α} (h : i < l.length) : (l.set i y).getD j z = if j = i then y else l.getD j z := by
 by_cases e : j = i
 ·subst e; rw [if_pos rfl]; exact getD_set_self h
 ·rw [if_neg e]; exact getD_set_ne e
theorem DRel.set {n : Nat} {b : Int} {s : DI} {t : DK} (r : DRel n b s t) {i : Nat} (hi : i < n) : DRel n b (s.1.set i true, s.2.set i (b + 1)) (t.1.set i true, t.2.set i true) where
 d := by rw [r.d]
 l1 := by simpa using r.l1
 l2 := by simpa using r.l2
 l3 := by simpa using r.l3
 k v hv := by
  simp only
  rw [getD_set_if (by rw [r.l3]; exact hi), getD_set_if (by rw [r.l2]; exact hi)]
  by_cases e : v = i
  ·rw [if_pos e, if_pos e]; simp
  ·rw [if_neg e, if_neg e]; exact r.k v hv
 le v hv := by
  simp only
  rw [getD_set_if (by rw [r.l2]; exact hi)]
  by_cases e : v = i
  ·rw [if_pos e]; exact Int.le_refl _
  ·rw [if_neg e]; exact r.le v hv
variable {f : Fn} {b : Int}
theorem DRel.uses {s : DI} {t : DK} (r : DRel f.widths.length b s t) (l : List Int) : Sp.iuses s.2 l b = Sp.used f l t.2 := by
 unfold Sp.iuses Sp.used
 congr 1
 funext v
 unfold Sp.within
 by_cases h1 : v < 0
 ·have : ¬ 0 <= v := by omega
  simp [h1, this]
 by_cases h2 : (f.widths.length : Int) <= v
 ·have : ¬ v < (f.widths.length : Int) := by omega
  simp [r.l2, h2, this]
 have h3 : 0 <= v := by omega
 have h4 : v < (f.widths.length : Int) := by omega
 have hk := r.k v.toNat (by omega)
 rw [decide_eq_false h1, r.l2, decide_eq_false h2, decide_eq_true h3, decide_eq_true h4]
 cases e : t.2.getD v.toNat false with
 | true => rw [decide_eq_true (hk.1 e)]; rfl
 | false => rw [decide_eq_false (fun q => by rw [hk.2 q] at e; cases e)]; rfl
theorem idefOk_eq {d : List Bool} (hd : d.length = f.widths.length) (v : Int) : Sp.idefOk d v = (Sp.within f v && !d.getD v.toNat false) := by
 unfold Sp.idefOk Sp.within
 rw [hd]
 by_cases h1 : v < 0
 ·have : ¬ 0 <= v := by omega
  simp [h1, this]
 by_cases h2 : (f.widths.length : Int) <= v
 ·have : ¬ v < (f.widths.length : Int) := by omega
  simp [h2, this]
 have h3 : 0 <= v := by omega
 have h4 : v < (f.widths.length : Int) := by omega
 rw [decide_eq_false h1, decide_eq_false h2, decide_eq_true h3, decide_eq_true h4]
 rfl
theorem DRel.par {s : DI} {t : DK} (r : DRel f.widths.length b s t) (v : Int) : (Sp.idef b s v = none /\ Sp.parStep f t v = none) \/ ∃ s1 t1, Sp.idef b s v = some s1 /\ Sp.parStep f t v = some t1 /\ DRel f.widths.length b s1 t1 := by
 unfold Sp.idef Sp.parStep
 rw [idefOk_eq (f := f) (by rw [r.d]; exact r.l1), r.d]
 cases h1 : Sp.within f v with
 | false => exact .inl ⟨by simp, by simp⟩
 | true =>
  cases h2 : t.1.getD v.toNat false with
  | true => exact .inl ⟨by simp, by simp⟩
  | false =>
   obtain ⟨q1, q2⟩ := within_iff.1 h1
   have h := r.set (i := v.toNat) (by omega)
   rw [r.d] at h
   exact .inr ⟨_, _, by simp, by simp, h⟩
theorem aL_aw (x : Inst) (i : Nat) : (Sp.aL f x i).getD 0 0 = Sp.aw f x 0 i /\ (Sp.aL f x i).getD 1 0 = Sp.aw f x 1 i /\ (Sp.aL f x i).getD 2 0 = Sp.aw f x 2 i := ⟨rfl, rfl, rfl⟩
theorem named_result {x : Inst} (h : 0 <= Sp.arity x.op) : Sp.named x.op = Sp.result x.op := by
 simp only [Sp.named, Sp.result, h, decide_true, Bool.true_and]
theorem mem_eq (x : Inst) : ((Sp.imem f x).2 && Sp.iplain x) = (Sp.plainOk x && Sp.memIx f x) /\ ((Sp.imem f x).2 = true -> (Sp.imem f x).1 = Sp.mOf f x) := by
 unfold Sp.imem Sp.iplain Sp.plainOk Sp.memIx Sp.mOf Sp.memop
 by_cases o1 : x.op = 25
 ·rw [o1]; constructor
  ·by_cases h1 : x.mem < 0 <;> by_cases h2 : (f.arrays.length : Int) <= x.mem <;> by_cases h3 : x.num = 0 <;> simp [h1, h2, h3]
  ·by_cases h1 : x.mem < 0 <;> by_cases h2 : (f.arrays.length : Int) <= x.mem <;> simp [h1, h2]
 by_cases o2 : x.op = 26
 ·rw [o2]; constructor
  ·by_cases h1 : x.mem < 0 <;> by_cases h2 : (f.arrays.length : Int) <= x.mem <;> by_cases h3 : x.num = 0 <;> simp [h1, h2, h3]
  ·by_cases h1 : x.mem < 0 <;> by_cases h2 : (f.arrays.length : Int) <= x.mem <;> simp [h1, h2]
 by_cases o3 : x.op = 27
 ·rw [o3]; constructor
  ·by_cases h1 : x.mem < 0 <;> by_cases h2 : (f.streams.length : Int) <= x.mem <;> by_cases h3 : x.num = 0 <;> cases h4 : (f.streams.getD x.mem.toNat Strm.z).out <;> rw [List.getD_eq_getElem?_getD] at h4 <;> simp [h1, h2, h3, h4]
  ·by_cases h1 : x.mem < 0 <;> by_cases h2 : (f.streams.length : Int) <= x.mem <;> cases h4 : (f.streams.getD x.mem.toNat Strm.z).out <;> rw [List.getD_eq_getElem?_getD] at h4 <;> simp [h1, h2, h4]
 by_cases o4 : x.op = 28
 ·rw [o4]; constructor
  ·by_cases h1 : x.mem < 0 <;> by_cases h2 : (f.streams.length : Int) <= x.mem <;> by_cases h3 : x.num = 0 <;> cases h4 : (f.streams.getD x.mem.toNat Strm.z).out <;> rw [List.getD_eq_getElem?_getD] at h4 <;> simp [h1, h2, h3, h4]
  ·by_cases h1 : x.mem < 0 <;> by_cases h2 : (f.streams.length : Int) <= x.mem <;> cases h4 : (f.streams.getD x.mem.toNat Strm.z).out <;> rw [List.getD_eq_getElem?_getD] at h4 <;> simp [h1, h2, h4]
 have o5 : (decide (25 <= x.op) && decide (x.op <= 28)) = false := by rw [<- Bool.decide_and]; exact decide_eq_false (by omega)
 simp only [o1, o2, o3, o4, or_self, if_false, o5]
 constructor
 ·by_cases h1 : x.mem = 0 <;> by_cases h2 : x.num = 0 <;> by_cases h3 : x.op = 1 <;> simp [h1, h2, h3]
 ·intro _; rfl
theorem fit_eq (x : Inst) (hn : U64 x.num) (w m a0 a1 a2 : Int) : Sp.ifit x w m a0 a1 a2 = Sp.fitOk x w m a0 a1 a2 := by
 unfold Sp.ifit Sp.ifit4 Sp.fitOk
 rw [fit_low hn]
 by_cases h1 : x.op = 1
 ·rw [if_pos h1, if_pos h1]
 rw [if_neg h1, if_neg h1]
 by_cases h2 : x.op = 21
 ·rw [if_pos h2, if_pos h2, Bool.and_assoc]
 rw [if_neg h2, if_neg h2]
 by_cases h3 : x.op = 22 \/ x.op = 23
 ·rw [if_pos h3, if_pos h3]
 rw [if_neg h3, if_neg h3, Bool.and_comm (decide (a0 = a1))]
theorem iwid_eq {x : Inst} (hx : x.ok) (ha : Sp.arity x.op = (x.args.length : Int)) : Sp.iwid f x = (Sp.idest f x && Sp.instrOk f x) := by
 obtain ⟨e1, e2⟩ := mem_eq (f := f) x
 obtain ⟨a1, a2, a3⟩ := aL_aw (f := f) x x.args.length
 unfold Sp.iwid Sp.instrOk
 rw [a1, a2, a3, <- e1, fit_eq x hx.2.2.2.1]
 have ew : Sp.iwOf f x = Sp.wOf f x := by
  unfold Sp.iwOf Sp.wOf
  rw [named_result (by omega)]
 rw [ew]
 cases h : (Sp.imem f x).2 with
 | false => simp
 | true =>
  rw [e2 h]
  cases Sp.iplain x <;> cases Sp.idest f x <;> simp
theorem DRel.ins {s : DI} {t : DK} (r : DRel f.widths.length b s t) {x : Inst} (hx : x.ok) : (Sp.iins f b s x = none /\ Sp.insStep f t x = none) \/ ∃ s1 t1, Sp.iins f b s x = some s1 /\ Sp.insStep f t x = some t1 /\ DRel f.widths.length b s1 t1 := by
 unfold Sp.iins Sp.insStep
 by_cases ha : Sp.arity x.op = (x.args.length : Int)
 rotate_left
 ·exact .inl ⟨by rw [if_neg ha], by rw [if_neg (fun h => ha h.1)]⟩
 rw [if_pos ha, r.uses, iwid_eq hx ha, named_result (by omega)]
 have hd : s.1.length = f.widths.length := by rw [r.d]; exact r.l1
 cases hu : Sp.used f x.args t.2 with
 | false => exact .inl ⟨by simp, by simp⟩
 | true =>
  cases hi : Sp.instrOk f x with
  | false => exact .inl ⟨by simp, by simp⟩
  | true =>
   unfold Sp.idest Sp.destOk Sp.idef Sp.mark
   rw [named_result (by omega), idefOk_eq hd, r.d]
   cases hr : Sp.result x.op with
   | false =>
    by_cases h1 : x.dest = -1
    ·exact .inr ⟨s, t, by simp [h1], by simp [h1, ha], r⟩
    ·exact .inl ⟨by simp [h1], by simp [h1]⟩
   | true =>
    cases hw : Sp.within f x.dest with
    | false => exact .inl ⟨by simp, by simp⟩
    | true =>
     obtain ⟨q1, q2⟩ := within_iff.1 hw
     have q3 : ¬ x.dest < 0 := by omega
     have q4 : ¬ (f.widths.length : Int) <= x.dest := by omega
     cases h2 : t.1.getD x.dest.toNat false with
     | true => exact .inl ⟨by simp [q3, q4], by simp⟩
     | false =>
      have h := r.set (i := x.dest.toNat) (by omega)
      rw [r.d] at h
      exact .inr ⟨_, _, by simp [q3, q4], by simp [ha], h⟩
theorem DRel.edge {s : DI} {t : DK} (r : DRel f.widths.length b s t) (e : Edge) : Sp.iedge f s.2 e b = Sp.edgeOk f e t.2 := by
 unfold Sp.iedge Sp.edgeOk Sp.pairs
 rw [r.uses]
 simp only [Bool.and_assoc]
 congr 1; congr 1; congr 1
 generalize (f.blk e.block.toNat).params = p
 by_cases h : e.args.length = p.length
 ·have h' : ((p.length : Nat) : Int) = e.args.length := by omega
  rw [decide_eq_true h, decide_eq_true h', h]
  congr 1
  congr 1
  funext i
  unfold Sp.pairOk Sp.edgeP
  congr 1
  exact decide_eq_decide.2 eq_comm
 ·have h' : ¬ ((p.length : Nat) : Int) = e.args.length := by omega
  rw [decide_eq_false h, decide_eq_false h']
  rfl
theorem DRel.term {s : DI} {t : DK} (r : DRel f.widths.length b s t) (x : Term) : Sp.iterm f s.2 x b = Sp.termOk f x t.2 := by
 unfold Sp.iterm Sp.termOk Sp.kindOk Sp.condOk Sp.sizeOfKind Sp.pairs
 simp only [r.uses, r.edge]
 generalize x.to.all (fun e => Sp.edgeOk f e t.2) = E
 by_cases h1 : x.kind = 1
 ·by_cases a : (x.to.length : Int) = 1 <;> by_cases c : x.cond = -1 <;> by_cases d : x.rets = [] <;> cases E <;> simp [h1, a, c, d]
 by_cases h2 : x.kind = 2
 ·by_cases a : (x.to.length : Int) = 2 <;> by_cases d : x.rets = [] <;> cases E <;> simp [h2, a, d]
 by_cases h3 : x.kind = 3
 ·by_cases a : x.to = [] <;> by_cases c : x.cond = -1 <;> by_cases d : x.rets.length = f.rets.length <;> cases Sp.used f x.rets t.2 <;> cases E <;> simp [h3, a, c, d] <;> first | rfl | (intro h; exfalso; omega)
 simp [h1, h2, h3]
theorem blk_rel {x : Block} (hx : x.ok) {d : List Bool} {k : List Int} (hd : d.length = f.widths.length) (hk : k.length = f.widths.length) (hb : ∀ v, v < f.widths.length -> k.getD v 0 <= b) :
  (Sp.iblk f b (d, k) x = none /\ Sp.blkStep f d x = none) \/ ∃ s t, Sp.iblk f b (d, k) x = some s /\ Sp.blkStep f d x = some s.1 /\ DRel f.widths.length b s t := by
 have r0 : DRel f.widths.length b (d, k) (d, List.replicate f.widths.length false) := ⟨rfl, hd, hk, List.length_replicate, fun v hv => by
  have := hb v hv
  simp only
  have e : (List.replicate f.widths.length false).getD v false = false := by simp [List.getD_eq_getElem?_getD, hv]
  rw [e]
  constructor
  ·intro h; cases h
  ·intro h; omega, fun v hv => by have := hb v hv; simp only; omega⟩
 unfold Sp.iblk Sp.blkStep
 by_cases hl : Sp.limOk x = true
 rotate_left
 ·rw [if_neg hl, if_neg hl]; exact .inl ⟨rfl, rfl⟩
 rw [if_pos hl, if_pos hl]
 rcases foldO_rel (g := Sp.idef b) (g' := Sp.parStep f) (R := DRel f.widths.length b) x.params (fun v _ s t r => DRel.par (f := f) r v) _ _ r0 with ⟨h1, h2⟩ | ⟨s1, t1, h1, h2, r1⟩
 ·rw [h1, h2]; exact .inl ⟨rfl, rfl⟩
 rw [h1, h2]
 rcases foldO_rel (g := Sp.iins f b) (g' := Sp.insStep f) (R := DRel f.widths.length b) x.insts (fun v hv s t r => DRel.ins (f := f) r (hx.2.1.2 v hv)) _ _ r1 with ⟨h3, h4⟩ | ⟨s2, t2, h3, h4, r2⟩
 ·simp only [h3, h4]; exact .inl ⟨trivial, trivial⟩
 simp only [h3, h4, r2.term]
 cases Sp.termOk f x.term t2.2 with
 | false => exact .inl ⟨rfl, rfl⟩
 | true => exact .inr ⟨s2, t2, rfl, by rw [r2.d]; rfl, r2⟩
theorem blocks_rel (hf : f.ok) : ∀ (n i : Nat) (d : List Bool) (k : List Int), i + n = f.blocks.length -> d.length = f.widths.length -> k.length = f.widths.length -> (∀ v, v < f.widths.length -> k.getD v 0 <= (i : Int)) ->
  (foldO (Sp.istep f) (List.range' i n) (d, k)).isSome = (foldO (Sp.blkStep f) (f.blocks.drop i) d).isSome
 | 0, i, d, k, hi, _, _, _ => by
  rw [List.drop_eq_nil_of_le (by omega)]; rfl
 | n + 1, i, d, k, hi, hd, hk, hb => by
  have hlt : i < f.blocks.length := by omega
  have e : f.blocks.drop i = f.blk i :: f.blocks.drop (i + 1) := by
   rw [List.drop_eq_getElem_cons hlt]
   simp [Fn.blk, List.getD_eq_getElem?_getD, hlt]
  rw [e, List.range'_succ]
  simp only [foldO, Sp.istep]
  rcases blk_rel (b := (i : Int)) (Fn.ok_blk hf hlt) hd hk hb with ⟨h1, h2⟩ | ⟨s, t, h1, h2, r⟩
  ·rw [h1, h2]; rfl
  ·rw [h1, h2]
   exact blocks_rel hf n (i + 1) s.1 s.2 (by omega) (by rw [r.d]; exact r.l1) r.l2 (fun v hv => by have := r.le v hv; push_cast; exact this)
theorem has_take (l : List ByteArray) (i : Nat) (hi : i < l.length) : (!Sp.has (l.take i) (nameAt l i)) = (List.range i).all fun k => !((nameAt l k).toList == (nameAt l i).toList) := by
 rw [Bool.eq_iff_iff]
 simp only [Sp.has, Bool.not_eq_true', List.any_eq_false, List.all_eq_true, List.mem_range, bytes_beq, decide_eq_true_eq, decide_eq_false_iff_not]
 constructor
 ·intro h k hk
  refine h _ ?_
  have : nameAt l k = (l.take i)[k]'(by simp; omega) := by simp [nameAt, List.getD_eq_getElem?_getD, show k < l.length by omega]
  rw [this]; exact List.getElem_mem _
 ·intro h c hc
  obtain ⟨k, hk, rfl⟩ := List.mem_iff_getElem.1 hc
  have hk' : k < i := by simp at hk; omega
  have := h k hk'
  simpa [nameAt, List.getD_eq_getElem?_getD, show k < l.length by omega, hi] using this
theorem mems_eq (f : Fn) : Sp.imems f = Sp.memOk f := by
 have div : ∀ a : Arr, Sp.divOk a = Sp.kindsOk a := fun a => by
  unfold Sp.divOk Sp.kindsOk
  by_cases h0 : a.kind = 0
  ·simp [h0]
  by_cases h1 : a.kind = 1
  ·by_cases q1 : 1 <= a.factor
   ·have : ¬ a.factor < 1 := by omega
    by_cases q2 : a.factor <= (if 64 < a.len then 64 else a.len)
    ·simp [h1, q1, this, q2, Int.not_lt.2 q2]
    ·simp [h1, q1, this, q2, Int.not_le.1 q2]
   ·have : a.factor < 1 := by omega
    simp [h1, q1, this]
  by_cases h2 : a.kind = 2
  ·by_cases q1 : 1 <= a.factor
   ·have : ¬ a.factor < 1 := by omega
    by_cases q2 : a.factor <= (if 64 < a.len then 64 else a.len)
    ·simp [h2, q1, this, q2, Int.not_lt.2 q2]
    ·simp [h2, q1, this, q2, Int.not_le.1 q2]
   ·have : a.factor < 1 := by omega
    simp [h2, q1, this]
  by_cases h3 : a.kind = 3
  ·by_cases q : 64 < a.len
   ·have : ¬ a.len <= 64 := by omega
    simp [h3, q, this]
   ·have : a.len <= 64 := by omega
    simp [h3, q, this]
  simp [h0, h1, h2, h3]
 have hal : f.names.length = f.arrays.length + f.streams.length := by simp [Fn.names]
 have na : ∀ i, i < f.arrays.length -> nameAt f.names i = (f.arrays.getD i Arr.z).name /\ f.names.take i = aNames f i := fun i hi => by
  constructor
  ·simp [nameAt, Fn.names, List.getD_eq_getElem?_getD, List.getElem?_append, hi]
  ·simp only [Fn.names, aNames, List.take_append, List.length_map, List.map_take, show i - f.arrays.length = 0 by omega, List.take_zero, List.append_nil]
 have ns : ∀ i, i < f.streams.length -> nameAt f.names (f.arrays.length + i) = (f.streams.getD i Strm.z).name /\ f.names.take (f.arrays.length + i) = sNames f i := fun i hi => by
  constructor
  ·simp [nameAt, Fn.names, List.getD_eq_getElem?_getD, List.getElem?_append, hi]
  ·simp [Fn.names, sNames, List.take_append, List.map_take]
   exact List.take_of_length_le (by simp)
 have ia : ∀ i, i < f.arrays.length -> Sp.arrI f i = (Sp.arrOk (f.arrays.getD i Arr.z) && Sp.nameOk f.names i) := fun i hi => by
  obtain ⟨n1, n2⟩ := na i hi
  have h := has_take f.names i (by omega)
  rw [n1, n2] at h
  unfold Sp.arrI Sp.arrOk Sp.nameOk
  simp only [fresh_seen, div, n1] at h ⊢
  rw [<- h]
  cases Sp.has (aNames f i) (f.arrays.getD i Arr.z).name <;> cases Sp.ident (f.arrays.getD i Arr.z).name <;> simp [Bool.and_assoc]
 have is_ : ∀ i, i < f.streams.length -> Sp.strI f i = (Sp.right (f.streams.getD i Strm.z).width && Sp.nameOk f.names (f.arrays.length + i)) := fun i hi => by
  obtain ⟨n1, n2⟩ := ns i hi
  have h := has_take f.names (f.arrays.length + i) (by omega)
  rw [n1, n2] at h
  unfold Sp.strI Sp.nameOk
  simp only [fresh_seen, n1] at h ⊢
  rw [<- h]
  cases Sp.has (sNames f i) (f.streams.getD i Strm.z).name <;> cases Sp.ident (f.streams.getD i Strm.z).name <;> simp
 unfold Sp.imems Sp.memOk
 generalize (decide ((f.arrays.length : Int) <= 64) && decide ((f.streams.length : Int) <= 64)) = L
 rw [<- Bool.and_assoc, <- Bool.and_assoc, <- Bool.and_assoc]
 congr 1
 rw [Bool.eq_iff_iff]
 simp only [Bool.and_eq_true, List.all_eq_true, List.mem_range]
 constructor
 ·rintro ⟨h1, h2⟩
  refine ⟨⟨fun a ha => ?_, fun s hs => ?_⟩, fun i hi => ?_⟩
  ·obtain ⟨i, hi, rfl⟩ := List.mem_iff_getElem.1 ha
   have := h1 i hi
   rw [ia i hi, Bool.and_eq_true] at this
   simpa [List.getD_eq_getElem?_getD, hi] using this.1
  ·obtain ⟨i, hi, rfl⟩ := List.mem_iff_getElem.1 hs
   have := h2 i hi
   rw [is_ i hi, Bool.and_eq_true] at this
   simpa [List.getD_eq_getElem?_getD, hi] using this.1
  ·by_cases q : i < f.arrays.length
   ·have := h1 i q
    rw [ia i q, Bool.and_eq_true] at this
    exact this.2
   ·have := h2 (i - f.arrays.length) (by omega)
    rw [is_ _ (by omega), Bool.and_eq_true, show f.arrays.length + (i - f.arrays.length) = i by omega] at this
    exact this.2
 ·rintro ⟨⟨h1, h2⟩, h3⟩
  refine ⟨fun i hi => ?_, fun i hi => ?_⟩
  ·rw [ia i hi, Bool.and_eq_true]
   refine ⟨?_, h3 i (by omega)⟩
   have := h1 f.arrays[i] (List.getElem_mem hi)
   simpa [List.getD_eq_getElem?_getD, hi] using this
  ·rw [is_ i hi, Bool.and_eq_true]
   refine ⟨?_, h3 _ (by omega)⟩
   have := h2 f.streams[i] (List.getElem_mem hi)
   simpa [List.getD_eq_getElem?_getD, hi] using this
theorem ivalid_eq (f : Fn) (hf : f.ok) : Sp.ivalid f = Sp.valid f := by
 unfold Sp.ivalid Sp.valid
 have h := blocks_rel hf f.blocks.length 0 (List.replicate f.widths.length false) (List.replicate f.widths.length 0) (by omega) List.length_replicate List.length_replicate (fun v hv => by simp [List.getD_eq_getElem?_getD, hv])
 rw [List.range_eq_range', h, List.drop_zero]
 congr 1
 unfold Sp.ihead Sp.headOk Sp.widths
 rw [mems_eq]
 have e1 : (!decide (65536 < (f.widths.length : Int))) = decide ((f.widths.length : Int) <= 65536) := by rw [<- decide_not]; exact decide_eq_decide.2 (by omega)
 have e2 : (!decide (64 < (f.rets.length : Int))) = decide ((f.rets.length : Int) <= 64) := by rw [<- decide_not]; exact decide_eq_decide.2 (by omega)
 rw [e1, e2]
 cases Sp.ident f.name <;> cases Sp.memOk f <;> cases f.widths.all Sp.right <;> cases f.rets.all Sp.right <;> simp
 all_goals (cases decide ((f.widths.length : Int) <= 65536) <;> simp [Bool.and_assoc])
end
end Go.Abs
namespace Go.Abs
open Go Go.Proofs
noncomputable section
def ann33 : Ann := (.seq .o (.join ⟨[(1, (.ptr 0 0))], [(.box 30 (.st 6))]⟩ (.seq .o (.cond (.seq .o .o) .o)) (.seq .o (.join ⟨[(1, (.ptr 0 0))], [(.box 30 (.st 6))]⟩ (.seq .o (.cond (.seq .o .o) .o)) (.join ⟨[(1, (.ptr 0 0)), (4, (.ptr 1 0))], [(.box 30 (.st 6)), (.cells 107 [.s, (.fz (.int .i64)), (.fz (.st 4)), (.fz (.st 5)), (.fz (.int .i64)), (.fz (.st 3)), (.full 2), (.full 3)]), (.lst 4 .bool), (.lst 3 (.int .i64))]⟩ (.x ⟨false, false, false, false, [], [], [0, 0, 2, 6, 14, 0, 32, 96, 224, 511, 1023, 2047], (.rd 0 (.fl 1 (.rd 2 (.fl 3 (.fl 5 (.rd 6 (.fl 7 (.br 4 (.on 8 (.qu [9] (.on 10 (.qu [11] .nil)))) (.br 8 (.on 4 (.qu [9] (.on 10 (.qu [11] .nil)))) .no)))))))))⟩) (.join ⟨[], []⟩ (.seq .o (.block (.loop ⟨[(4, (.ptr 0 0)), (62, (.fz (.st 3))), (63, (.i .i64)), (64, (.i .i64))], [(.cells 107 [.s, (.fz (.int .i64)), (.fz (.st 4)), (.fz (.st 5)), (.fz (.int .i64)), (.fz (.st 3)), (.full 1), (.full 2)]), (.lst 4 .bool), (.lst 3 (.int .i64))]⟩ [((.exit 0), ⟨[], []⟩), (.ret, ⟨[(2, .b)], []⟩)] (.seq .o (.join ⟨[(4, (.ptr 0 0)), (62, (.fz (.st 3))), (63, (.i .i64)), (64, (.i .i64))], [(.cells 107 [.s, (.fz (.int .i64)), (.fz (.st 4)), (.fz (.st 5)), (.fz (.int .i64)), (.fz (.st 3)), (.full 1), (.full 2)]), (.lst 4 .bool), (.lst 3 (.int .i64))]⟩ (.cond .o .o) (.join ⟨[(4, (.ptr 0 0)), (62, (.fz (.st 3))), (63, (.i .i64)), (64, (.i .i64))], [(.cells 107 [.s, (.fz (.int .i64)), (.fz (.st 4)), (.fz (.st 5)), (.fz (.int .i64)), (.fz (.st 3)), (.full 1), (.full 2)]), (.lst 4 .bool), (.lst 3 (.int .i64))]⟩ (.block (.seq .o (.seq .o (.cond (.seq .o .o) .o)))) .o)))))) (.seq .o .o)))))))
def go33_l1 : ((Unit × ((List Block) × (Int × (Int × Unit)))) × ((ByteArray × ((List Int) × ((List Arr) × ((List Strm) × ((List Int) × ((List Block) × (Unit × (Unit × Unit)))))))) × ((List Bool) × ((List Int) × Unit)))) -> Option (((Unit × ((List Block) × (Int × (Int × Unit)))) × ((ByteArray × ((List Int) × ((List Arr) × ((List Strm) × ((List Int) × ((List Block) × (Unit × (Unit × Unit)))))))) × ((List Bool) × ((List Int) × Unit)))) ⊕ ((Unit × Unit) ⊕ ((Bool × Unit) × Unit))) := (fun (r3 : ((Unit × ((List Block) × (Int × (Int × Unit)))) × ((ByteArray × ((List Int) × ((List Arr) × ((List Strm) × ((List Int) × ((List Block) × (Unit × (Unit × Unit)))))))) × ((List Bool) × ((List Int) × Unit))))) => (bif (decide (r3.1.2.2.2.1 < r3.1.2.2.1)) then
   (grd (okB (((0 : Int) <= r3.1.2.2.2.1) /\ (r3.1.2.2.2.1 < ((r3.1.2.1.length : Nat) : Int))))
    (callB (grd (okB ((Block.ok (r3.1.2.1.getD r3.1.2.2.2.1.toNat Block.z)) /\ ((Bk r3.1.2.2.2.1) /\ (DIn (mkF (r3.2.1.1, (r3.2.1.2.1, (r3.2.1.2.2.1, (r3.2.1.2.2.2.1, (r3.2.1.2.2.2.2.1, (r3.2.1.2.2.2.2.2.1, ((), ((), ()))))))))).widths.length (r3.2.2.1, r3.2.2.2.1)))))
      (some ((Sp.iblkB (mkF (r3.2.1.1, (r3.2.1.2.1, (r3.2.1.2.2.1, (r3.2.1.2.2.2.1, (r3.2.1.2.2.2.2.1, (r3.2.1.2.2.2.2.2.1, ((), ((), ()))))))))) r3.1.2.2.2.1 (r3.2.2.1, r3.2.2.2.1) (r3.1.2.1.getD r3.1.2.2.2.1.toNat Block.z)).1, ((r3.2.1.1, (r3.2.1.2.1, (r3.2.1.2.2.1, (r3.2.1.2.2.2.1, (r3.2.1.2.2.2.2.1, (r3.2.1.2.2.2.2.2.1, ((), ((), ())))))))), ((Sp.iblkB (mkF (r3.2.1.1, (r3.2.1.2.1, (r3.2.1.2.2.1, (r3.2.1.2.2.2.1, (r3.2.1.2.2.2.2.1, (r3.2.1.2.2.2.2.2.1, ((), ((), ()))))))))) r3.1.2.2.2.1 (r3.2.2.1, r3.2.2.2.1) (r3.1.2.1.getD r3.1.2.2.2.1.toNat Block.z)).2.1, ((Sp.iblkB (mkF (r3.2.1.1, (r3.2.1.2.1, (r3.2.1.2.2.1, (r3.2.1.2.2.2.1, (r3.2.1.2.2.2.2.1, (r3.2.1.2.2.2.2.2.1, ((), ((), ()))))))))) r3.1.2.2.2.1 (r3.2.2.1, r3.2.2.2.1) (r3.1.2.1.getD r3.1.2.2.2.1.toNat Block.z)).2.2, ()))))))
     (fun (r4 : (Bool × ((ByteArray × ((List Int) × ((List Arr) × ((List Strm) × ((List Int) × ((List Block) × (Unit × (Unit × Unit)))))))) × ((List Bool) × ((List Int) × Unit))))) => (grd ((decide ((1 : Nat) = (1 : Nat))) && ((decide (r4.2.2.1.length = r3.2.2.1.length)) && ((decide (r4.2.2.2.1.length = r3.2.2.2.1.length)) && true)))
       (bif (!r4.1) then
        (some (Sum.inr (Sum.inr ((false, ()), ()))))
        else
        (grd (okB (((-(9223372036854775808 : Int)) <= (r3.1.2.2.2.1 + (1 : Int))) /\ ((r3.1.2.2.2.1 + (1 : Int)) <= (9223372036854775807 : Int))))
         (some (Sum.inl (((), (r3.1.2.1, (r3.1.2.2.1, ((r3.1.2.2.2.1 + (1 : Int)), ())))), ((r4.2.1.1, (r4.2.1.2.1, (r4.2.1.2.2.1, (r4.2.1.2.2.2.1, (r4.2.1.2.2.2.2.1, (r4.2.1.2.2.2.2.2.1, ((), ((), ())))))))), (r4.2.2.1, (r4.2.2.2.1, ()))))))))))))
   else
   (some (Sum.inr (Sum.inl ((), ()))))))
def go33_j1 : ((Unit × (Unit × Unit)) × (Fn × ((ByteArray × ((List Int) × ((List Arr) × ((List Strm) × ((List Int) × ((List Block) × (Unit × (Unit × Unit)))))))) × ((List Bool) × ((List Int) × Unit))))) -> Option (Bool × Unit) := (fun (z0 : ((Unit × (Unit × Unit)) × (Fn × ((ByteArray × ((List Int) × ((List Arr) × ((List Strm) × ((List Int) × ((List Block) × (Unit × (Unit × Unit)))))))) × ((List Bool) × ((List Int) × Unit)))))) => (callB (whileO (go33_l1) (((), (z0.2.1.blocks, (((z0.2.1.blocks.length : Nat) : Int), ((0 : Int), ())))), ((z0.2.2.1.1, (z0.2.2.1.2.1, (z0.2.2.1.2.2.1, (z0.2.2.1.2.2.2.1, (z0.2.2.1.2.2.2.2.1, (z0.2.2.1.2.2.2.2.2.1, ((), ((), ())))))))), (z0.2.2.2.1, (z0.2.2.2.2.1, ())))))
   (fun (z1 : ((Unit × Unit) ⊕ ((Bool × Unit) × Unit))) => (sumO (fun (z2 : (Unit × Unit)) => (some (true, ())))
     (fun (z2 : ((Bool × Unit) × Unit)) => (some (z2.1.1, ()))) z1))))
def go33 (x0 : Fn) : (Option (Bool × Unit)) :=
 (bif (!(Sp.ident x0.name)) then
  (some (false, ()))
  else
  (callB (grd (okB (Fn.ok x0))
    (some ((Sp.imems x0), ())))
   (fun (r0 : (Bool × Unit)) => (bif (!r0.1) then
     (some (false, ()))
     else
     (bif (decide ((65536 : Int) < ((x0.widths.length : Nat) : Int))) then
      (some (false, ()))
      else
      (bif (decide ((64 : Int) < ((x0.rets.length : Nat) : Int))) then
       (some (false, ()))
       else
       (bif (decide (((x0.blocks.length : Nat) : Int) < (1 : Int))) then
        (some (false, ()))
        else
        (bif (decide ((1024 : Int) < ((x0.blocks.length : Nat) : Int))) then
         (some (false, ()))
         else
         (callB (grd (okB (x0.widths.length <= LEN))
           (some ((!(@List.all Int x0.widths Sp.right)), ())))
          (fun (r1 : (Bool × Unit)) => (bif r1.1 then
            (some (false, ()))
            else
            (callB (grd (okB (x0.rets.length <= LEN))
              (some ((!(@List.all Int x0.rets Sp.right)), ())))
             (fun (r2 : (Bool × Unit)) => (bif r2.1 then
               (some (false, ()))
               else
               (jpO (go33_j1)
                (fun (j0 : (((Unit × (Unit × Unit)) × (Fn × ((ByteArray × ((List Int) × ((List Arr) × ((List Strm) × ((List Int) × ((List Block) × (Unit × (Unit × Unit)))))))) × ((List Bool) × ((List Int) × Unit))))) -> (Option (Bool × Unit)))) => (brO (grd (okB ((((x0.widths.length : Nat) : Int) = ((x0.widths.length : Nat) : Int)) /\ (((0 : Int) <= ((x0.widths.length : Nat) : Int)) /\ (((((x0.widths.length : Nat) : Int) * (((1 : Nat) : Nat) : Int)) <= (140737488355328 : Int)) /\ (((x0.widths.length : Nat) : Int) <= (281474976710656 : Int))))))
                   (grd (okB ((((x0.widths.length : Nat) : Int) = ((x0.widths.length : Nat) : Int)) /\ (((0 : Int) <= ((x0.widths.length : Nat) : Int)) /\ (((((x0.widths.length : Nat) : Int) * (((8 : Nat) : Nat) : Int)) <= (140737488355328 : Int)) /\ (((x0.widths.length : Nat) : Int) <= (281474976710656 : Int))))))
                    (j0 (((), ((), ())), (x0, ((x0.name, (x0.widths, (x0.arrays, (x0.streams, (x0.rets, (x0.blocks, ((), ((), ())))))))), ((@List.replicate Bool ((x0.widths.length : Nat) : Int).toNat false), ((@List.replicate Int ((x0.widths.length : Nat) : Int).toNat (0 : Int)), ()))))))))
                  (grd (okB ((((x0.widths.length : Nat) : Int) = ((x0.widths.length : Nat) : Int)) /\ (((0 : Int) <= ((x0.widths.length : Nat) : Int)) /\ (((((x0.widths.length : Nat) : Int) * (((8 : Nat) : Nat) : Int)) <= (140737488355328 : Int)) /\ (((x0.widths.length : Nat) : Int) <= (281474976710656 : Int))))))
                   (grd (okB ((((x0.widths.length : Nat) : Int) = ((x0.widths.length : Nat) : Int)) /\ (((0 : Int) <= ((x0.widths.length : Nat) : Int)) /\ (((((x0.widths.length : Nat) : Int) * (((1 : Nat) : Nat) : Int)) <= (140737488355328 : Int)) /\ (((x0.widths.length : Nat) : Int) <= (281474976710656 : Int))))))
                    (j0 (((), ((), ())), (x0, ((x0.name, (x0.widths, (x0.arrays, (x0.streams, (x0.rets, (x0.blocks, ((), ((), ())))))))), ((@List.replicate Bool ((x0.widths.length : Nat) : Int).toNat false), ((@List.replicate Int ((x0.widths.length : Nat) : Int).toNat (0 : Int)), ())))))))))))))))))))))))))
theorem run33 (x0 : Fn) : runF (P := Try.prog) [c80, c81, c84, c85] Try.f33 ann33 [(0, (.st 6))] [] .b [] (x0, ()) () = go33 x0 := by kernel_rfl
section
variable {f : Fn}
theorem iblkB_in {n : Nat} {b : Int} {x : Block} {s : DI} (h : DIn n s) : DIn n (Sp.iblkB f b s x).2 := by
 unfold Sp.iblkB
 have i1 := foldB_inv (idef_in (b := b)) x.params s h
 have i2 := foldB_inv (iins_in (f := f) (b := b)) x.insts _ i1
 split
 ·cases (foldB (Sp.idef b) x.params s).1 with
  | false => exact i1
  | true =>
   simp only [cond_true]
   cases (foldB (Sp.iins f b) x.insts (foldB (Sp.idef b) x.params s).2).1 with
   | false => exact i2
   | true => exact i2
 ·exact h
theorem istep_in : ∀ (s : DI) (i : Nat) (s' : DI), DIn f.widths.length s -> Sp.istep f s i = some s' -> DIn f.widths.length s' := fun s i s' h e => by
 unfold Sp.istep at e
 rw [iblk_B] at e
 have := iblkB_in (f := f) (b := (i : Int)) (x := f.blk i) h
 cases hc : (Sp.iblkB f (i : Int) s (f.blk i)).1 with
 | false => rw [hc] at e; cases e
 | true => rw [hc] at e; injection e with e; exact e ▸ this
theorem loop331 (hf : f.ok) (hb : f.blocks.length <= 1024) {d : List Bool} {k : List Int} (h : DIn f.widths.length (d, k)) : whileO go33_l1 (((), f.blocks, ((f.blocks.length : Nat) : Int), (0 : Int), ()), pkF f, d, k, ()) =
  some (elimO (foldO (Sp.istep f) (List.range f.blocks.length) (d, k)) (fun _ => Sum.inl ((), ())) (Sum.inr ((false, ()), ()))) := by
 unfold go33_l1
 have hr : (List.range f.blocks.length).length = f.blocks.length := List.length_range
 refine whileO_fold (l := List.range f.blocks.length) 0 (Sp.istep f) (DIn f.widths.length) (st := fun i (s : DI) => (((), f.blocks, ((f.blocks.length : Nat) : Int), (i : Int), ()), pkF f, s.1, s.2, ())) (s0 := (d, k)) rfl h istep_in _ _ (fun i s hi hs => ?_) (fun s hs => ?_)
 ·rw [hr] at hi
  rw [range_getD hi]
  have hbk := Fn.ok_blk hf hi
  have pre : Block.ok (f.blocks.getD i Block.z) /\ Bk (i : Int) /\ DIn (mkF (pkF f)).widths.length (s.1, s.2) := ⟨hbk, ⟨by omega, by omega⟩, hs⟩
  have hin := iblkB_in (f := f) (b := (i : Int)) (x := f.blk i) hs
  unfold Sp.istep
  rw [iblk_B]
  dsimp only
  rw [Int.toNat_natCast]
  simp only [grd_ok pre, callB_some]
  have hst : Sp.iblkB (mkF (pkF f)) (i : Int) (s.1, s.2) (f.blocks.getD i Block.z) = Sp.iblkB f (i : Int) s (f.blk i) := rfl
  simp only [hst]
  have l1 : (Sp.iblkB f (i : Int) s (f.blk i)).2.1.length = s.1.length := by rw [hin.1, hs.1]
  have l2 : (Sp.iblkB f (i : Int) s (f.blk i)).2.2.length = s.2.length := by rw [hin.2, hs.2]
  simp only [l1, l2, decide_true, Bool.and_true, grd_true]
  cases hc : (Sp.iblkB f (i : Int) s (f.blk i)).1 with
  | false => simp (maxSteps := 1000000) (disch := ((try dsimp only); omega)) only [↓gsA, gsB]; rfl
  | true => simp (maxSteps := 1000000) (disch := ((try dsimp only); omega)) only [↓gsA, gsB]; rfl
 ·rw [hr]; simp (maxSteps := 1000000) (disch := ((try dsimp only); omega)) only [↓gsA, gsB]
theorem ok33 (f : Fn) (hf : f.ok) : go33 f = some (Sp.valid f, ()) := by
 rw [<- ivalid_eq f hf]
 have hwl : f.widths.length <= LEN := hf.2.1.len
 have hrl : f.rets.length <= LEN := hf.2.2.2.2.1.len
 unfold go33 Sp.ivalid Sp.ihead
 rw [grd_ok hf, grd_ok hwl, grd_ok hrl]
 simp only [callB_some]
 cases h1 : Sp.ident f.name with
 | false => rfl
 | true =>
  cases h2 : Sp.imems f with
  | false => rfl
  | true =>
   by_cases h3 : 65536 < (f.widths.length : Int)
   ·simp [h3]
   by_cases h4 : 64 < (f.rets.length : Int)
   ·simp [h3, h4]
   by_cases h5 : (f.blocks.length : Int) < 1
   ·simp [h3, h4, h5]
   by_cases h6 : 1024 < (f.blocks.length : Int)
   ·simp [h3, h4, h5, h6]
   rw [decide_eq_false h3, decide_eq_false h4, decide_eq_false h5, decide_eq_false h6]
   cases h7 : f.widths.all Sp.right with
   | false => rfl
   | true =>
    cases h8 : f.rets.all Sp.right with
    | false => rfl
    | true =>
     have g : ∀ (m : Nat), m <= 8 -> ∀ {β : Type} (y : Option β), grd (okB (True /\ 0 <= ((f.widths.length : Nat) : Int) /\ ((f.widths.length : Nat) : Int) * ((m : Nat) : Int) <= 140737488355328 /\ ((f.widths.length : Nat) : Int) <= 281474976710656)) y = y := fun m hm β y => grd_ok ⟨trivial, by omega, by
      have : ((f.widths.length : Nat) : Int) * ((m : Nat) : Int) <= 65536 * 8 := Int.mul_le_mul (by omega) (by omega) (by omega) (by omega)
      omega, by omega⟩
     simp only [Bool.not_true, cond_false, cond_true, g 1 (by omega), g 8 (by omega), brO_self, jpO_eq, Int.toNat_natCast, Bool.not_false, Bool.and_self, Bool.true_and]
     unfold go33_j1
     refine callB_of (loop331 hf (by omega) ⟨List.length_replicate, List.length_replicate⟩) ?_
     cases foldO (Sp.istep f) (List.range f.blocks.length) (List.replicate f.widths.length false, List.replicate f.widths.length 0) <;> rfl
end
def c33 : Ctr Try.prog := mkCtr 33 Try.f33 Try.func33 [c80, c81, c84, c85] ann33 [(0, (.st 6))] [] .b [] (fun x _ => grd (okB x.1.ok) (some (Sp.valid x.1, ()))) (fun x _ r h => FO (run33 x.1) (ok33 x.1) h)
end
end Go.Abs
namespace Go.Abs
open Go Go.Proofs
noncomputable section
def ann9 : Ann := (.seq .o (.join ⟨[(1, (.ptr 0 0))], [(.box 30 (.st 6))]⟩ (.seq .o (.cond (.seq .o .o) .o)) (.seq .o .o)))
def go9 (x0 : Fn) : (Option (Bool × Unit)) :=
 (callB (grd (okB (Fn.ok x0))
   (some ((Sp.few x0), ())))
  (fun (r0 : (Bool × Unit)) => (bif (!r0.1) then
    (some (true, ()))
    else
    (callB (grd (okB (Fn.ok x0))
      (some ((Sp.valid x0), ())))
     (fun (r1 : (Bool × Unit)) => (callB (grd (okB (Fn.ok x0))
        (some ((Sp.valid x0), ())))
       (fun (r2 : (Bool × Unit)) => (some ((r1.1 == r2.1), ())))))))))
theorem run9 (x0 : Fn) : runF (P := Try.prog) [c12, c17, c18, c33] Try.f9 ann9 [(0, (.st 6))] [] .b [] (x0, ()) () = go9 x0 := by kernel_rfl
theorem ok9 (f : Fn) (hf : f.ok) : go9 f = some (true, ()) := by
 unfold go9
 rw [grd_ok hf, grd_ok hf]
 simp only [callB_some, beq_self_eq_true]
 cases Sp.few f <;> rfl
def c9 : Ctr Try.prog := mkCtr 9 Try.f9 Try.func9 [c12, c17, c18, c33] ann9 [(0, (.st 6))] [] .b [] (fun x _ => grd (okB x.1.ok) (some (true, ()))) (fun x _ r h => FO (run9 x.1) (ok9 x.1) h)
theorem irValid_pc (f : Fn) (hf : f.ok) : PC Try.prog 9 [f.v] (.t (.bool true)) := by
 have h := Ctr.pc (c := c9) (us := [.st 6 f]) (z := ⟨[], (f, ()), ()⟩) rfl rfl (res := (true, ())) (grd_ok hf)
 simp only [List.map_cons, List.map_nil, toV, mkE] at h
 exact h
end
end Go.Abs
