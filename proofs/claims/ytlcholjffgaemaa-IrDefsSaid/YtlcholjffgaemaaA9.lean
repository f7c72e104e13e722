/-
From a row's inputs to data, and from a contract to the row's end.
No statement of the program is proved here.
-/
import Derived.Test.YtlcholjffgaemaaD1
import Derived.ChangeArms
import Derived.ChangeShapes
import Derived.SizedLaws
import Derived.Carry
import Derived.WideShapes
set_option linter.unusedVariables false
set_option linter.unusedSimpArgs false
namespace Go.Abs
open Go

def Below' (w : World) (b : Nat) : Prop := b < w.heap.size
def I64 (n : Int) : Prop := -9223372036854775808 ≤ n ∧ n ≤ 9223372036854775807
def U64 (n : Int) : Prop := 0 ≤ n ∧ n ≤ 18446744073709551615
def Strs (s : ByteArray) : Prop := s.size ≤ 9223372036854775807
/-- A list that takes no more bytes than a reading may, of good elements. -/
def All {α : Type} (by_ : Nat) (ok : α → Prop) (l : List α) : Prop := l.length * by_ ≤ reachBytes ∧ ∀ a ∈ l, ok a
theorem All.len {α : Type} {by_ : Nat} {ok : α → Prop} {l : List α} (h : All by_ ok l) (hb : by_ ≠ 0 := by decide) : l.length ≤ LEN := by
  have h1 := h.1
  have : l.length * 1 ≤ l.length * by_ := Nat.mul_le_mul_left _ (by omega)
  simp only [reachBytes] at h1
  simp only [LEN]; omega

def Wt {H : Type} (P : Program) (t : TypeId) (d : DataW H) : Prop := (d.weights P t).all (· ≤ reachBytes) = true

def Cells (w : World) (n : Nat) (g : Nat → T) (cs : List Value) : Prop := cs.length = n ∧ ∀ j, j < n → ∃ c, cs[j]? = some c ∧ Reads (Below' w) w (g j) c

structure Opens (P : Program) (t : TypeId) (n : Nat) {α : Type} (e : α → Nat → T) (ok : α → Prop) : Prop where
  sz : P.cellsOf t = n
  out : ∀ (H : Type) (enc : TypeId × Value → H) (w : World) (spare : Nat → Bool) (fuel : Nat) (cs : List Value) (x : DataW H × List MemPlace),
    DataW.trod enc P w 0 spare true fuel t cs = some x → Wt P t x.1 → ∃ a, ok a ∧ Cells w n (e a) cs

variable {P : Program} {t : TypeId}

theorem Opens.i64 (h : P.underlying t = some (.int .i64)) (hs : P.cellsOf t = 1) : Opens P t 1 (fun a _ => .int .i64 a) I64 :=
  ⟨hs, fun H enc w spare fuel cs x hx _ => by
    obtain ⟨n, rfl, -, hw⟩ := DataW.trod_int h hx
    have h1 : IntKind.i64.min = -9223372036854775808 := rfl
    have h2 : IntKind.i64.max = 9223372036854775807 := rfl
    simp only [Lit.wf, Bool.and_eq_true, decide_eq_true_eq, h1, h2] at hw
    exact ⟨n, hw, rfl, fun j hj => ⟨_, by obtain rfl : j = 0 := by omega
                                          rfl, rfl⟩⟩⟩
theorem Opens.u64 (h : P.underlying t = some (.int .u64)) (hs : P.cellsOf t = 1) : Opens P t 1 (fun a _ => .int .u64 a) U64 :=
  ⟨hs, fun H enc w spare fuel cs x hx _ => by
    obtain ⟨n, rfl, -, hw⟩ := DataW.trod_int h hx
    have h1 : IntKind.u64.min = 0 := rfl
    have h2 : IntKind.u64.max = 18446744073709551615 := rfl
    simp only [Lit.wf, Bool.and_eq_true, decide_eq_true_eq, h1, h2] at hw
    exact ⟨n, hw, rfl, fun j hj => ⟨_, by obtain rfl : j = 0 := by omega
                                          rfl, rfl⟩⟩⟩
theorem Opens.bool (h : P.underlying t = some .bool) (hs : P.cellsOf t = 1) : Opens P t 1 (fun a _ => .bool a) (fun _ => True) :=
  ⟨hs, fun H enc w spare fuel cs x hx _ => by
    obtain ⟨n, rfl, -⟩ := DataW.trod_bool h hx
    exact ⟨n, trivial, rfl, fun j hj => ⟨_, by obtain rfl : j = 0 := by omega
                                               rfl, rfl⟩⟩⟩
theorem Opens.str (h : P.underlying t = some .string) (hs : P.cellsOf t = 1) : Opens P t 1 (fun a _ => .str a) Strs :=
  ⟨hs, fun H enc w spare fuel cs x hx _ => by
    obtain ⟨n, rfl, -, hw⟩ := DataW.trod_string h hx
    exact ⟨n, hw, rfl, fun j hj => ⟨_, by obtain rfl : j = 0 := by omega
                                          rfl, rfl, hw⟩⟩⟩

theorem gatherL {α : Type} (d : α) {p : Nat → α → Prop} : ∀ n, (∀ i, i < n → ∃ a, p i a) → ∃ l : List α, l.length = n ∧ ∀ i, i < n → p i (l.getD i d)
  | 0, _ => ⟨[], rfl, fun i hi => absurd hi (Nat.not_lt_zero _)⟩
  | n + 1, h => by
    obtain ⟨l, hl, hp⟩ := gatherL d (p := p) n (fun i hi => h i (by omega))
    obtain ⟨a, ha⟩ := h n (by omega)
    refine ⟨l ++ [a], by simp [hl], fun i hi => ?_⟩
    by_cases hin : i < n
    · have := hp i hin
      simpa [List.getD_eq_getElem?_getD, List.getElem?_append_left (show i < l.length by omega)] using this
    · obtain rfl : i = n := by omega
      simpa [List.getD_eq_getElem?_getD, List.getElem?_append_right (show l.length ≤ i by omega), hl] using ha

theorem weightsAll_mem {H : Type} {t : TypeId} : ∀ {l : List (DataW H)} {d : DataW H}, d ∈ l → ∀ n ∈ d.weights P t, n ∈ DataW.weightsAll P t l
  | x :: l, d, hd, n, hn => by
    simp only [DataW.weightsAll, List.mem_append]
    rcases List.mem_cons.1 hd with rfl | hd
    · exact .inl hn
    · exact .inr (weightsAll_mem hd n hn)

theorem cell_lt {w : World} {a : Addr} {v : Value} (h : w.cell? a = some v) : a.block < w.heap.size := by
  unfold World.cell? at h
  rcases Nat.lt_or_ge a.block w.heap.size with hb | hb
  · exact hb
  · have : w.heap[a.block]? = none := Array.getElem?_eq_none hb
    split at h
    · rename_i heq
      rw [this] at heq
      cases heq
    · cases h

theorem Opens.slice {el : TypeId} {s by_ : Nat} {α : Type} {e : α → Nat → T} {ok : α → Prop} (d : α) (O : Opens P el s e ok) (hu : P.underlying t = some (.slice el)) (hs : P.cellsOf t = 1) (hb : P.bytesOf el = by_) (h0 : by_ ≠ 0) (h1 : s ≠ 0) :
    Opens P t 1 (fun l _ => rows s d e l) (All by_ ok) :=
  ⟨hs, fun H enc w spare fuel cs x hx hw => by
    rcases DataW.trod_slice hu hx with ⟨rfl, -⟩ | ⟨a, len, cap, elems, rest, n, rfl, rfl, rfl, -, hlc, -, hel, hget, -, -⟩
    · exact ⟨[], ⟨(by simp)    , fun a ha => by cases ha⟩, rfl, fun j hj => ⟨_, by obtain rfl : j = 0 := by omega
                                                                                   rfl, none, 0, rfl, Nat.le_refl _, Nat.zero_le _, fun h => absurd h (Nat.lt_irrefl _)⟩⟩
    · simp only [Wt, DataW.weights, hu, hb, List.all_cons, Bool.and_eq_true, decide_eq_true_eq, List.length_map, List.all_append] at hw
      obtain ⟨hw1, hw2, -⟩ := hw
      have hlen2 : len * by_ ≤ reachBytes := Nat.le_trans (Nat.mul_le_mul_right _ (by omega)) hw1
      have hlen : len ≤ LEN := by
        have : len * 1 ≤ (elems.length + rest.length) * by_ := Nat.mul_le_mul (by omega) (by omega)
        simp only [reachBytes] at hw1
        simp only [LEN]; omega
      have key : ∀ i, i < len → ∃ b, ok b ∧ ∀ j, j < s → ∃ c, w.cell? ((a.add (i * s)).add j) = some c ∧ Reads (Below' w) w (e b j) c := by
        intro i hi
        have hi' : i < elems.length := by omega
        have hg := hget i hi
        rw [List.getElem?_eq_getElem hi', O.sz, Option.bind_eq_some_iff] at hg
        obtain ⟨cs', hc, ht⟩ := hg
        obtain ⟨b, hob, hl, hr⟩ := O.out H enc w spare n cs' elems[i] ht (by
          unfold Wt
          rw [List.all_eq_true] at hw2 ⊢
          exact fun m hm => hw2 m (weightsAll_mem (List.mem_map.2 ⟨elems[i], List.getElem_mem hi', rfl⟩) m hm))
        refine ⟨b, hob, fun j hj => ?_⟩
        obtain ⟨c, hc1, hc2⟩ := hr j hj
        unfold World.cells? at hc
        split at hc
        · have := mapM_some_get hc j j (by simp [hj])
          exact ⟨c, this.trans hc1, hc2⟩
        · cases hc
      obtain ⟨l, hll, hlp⟩ := gatherL d len key
      have hj0 : ∀ j, j < 1 → j = 0 := fun j hj => by omega
      refine ⟨l, ⟨by rw [hll]; exact hlen2, fun b hb => ?_⟩, rfl, fun j hj => ⟨.slice (some a) len cap, by rw [hj0 j hj]; rfl, some a, cap, by rw [hll], by omega, by omega, fun hn => ?_⟩⟩
      · obtain ⟨i, hi, rfl⟩ := List.getElem_of_mem hb
        have := (hlp i (by omega)).1
        simpa [List.getD_eq_getElem?_getD, hi] using this
      · obtain ⟨c0, hc0, _⟩ := (hlp 0 (by omega)).2 0 (by omega)
        have hsp : a.spot = none := by
          have := World.cell?_spot hc0
          simpa [Addr.add] using this
        have hbl : a.block < w.heap.size := by simpa [Addr.add] using cell_lt hc0
        obtain ⟨b, o, sp⟩ := a
        simp only at hsp hbl
        subst hsp
        refine ⟨b, o, rfl, hbl, fun i hi j hj => ?_⟩
        obtain ⟨c, hc1, hc2⟩ := (hlp i (by omega)).2 j hj
        refine ⟨c, ?_, hc2⟩
        rw [← hc1]
        congr 1
        simp only [Addr.add]
        split <;> split <;> simp_all <;> omega⟩

/-- A field of a struct. -/
theorem Opens.fld {fs : Array Field} (hu : P.underlying t = some (.struct fs)) {i : Nat} {f : Field} (hf : fs[i]? = some f) {off s : Nat} (ho : f.offset = off) {α : Type} {e : α → Nat → T} {ok : α → Prop} (O : Opens P f.type s e ok)
    {H : Type} {enc : TypeId × Value → H} {w : World} {spare : Nat → Bool} {fuel : Nat} {cs : List Value} {x : DataW H × List MemPlace} (hx : DataW.trod enc P w 0 spare true fuel t cs = some x) (hw : Wt P t x.1) :
    ∃ a, ok a ∧ ∀ j, j < s → ∃ c, cs[off + j]? = some c ∧ Reads (Below' w) w (e a j) c := by
  obtain ⟨xs, n, rfl, rfl, hl, hxl, hx⟩ := DataW.trod_struct hu hx
  have h := hx i f hf
  have hi : i < xs.length := by
    rw [hxl]
    exact (Array.getElem?_eq_some_iff.1 hf).1
  rw [List.getElem?_eq_getElem hi, O.sz, ho] at h
  obtain ⟨a, hok, hlen, hr⟩ := O.out H enc w spare n _ _ h (by
    simp only [Wt, DataW.weights, hu] at hw
    unfold Wt
    rw [List.all_eq_true] at hw ⊢
    exact fun m hm => hw m (DataW.weights_mem_each (j := i) (t := f.type) (d := xs[i].1) (by simp [hf]) (by simp [hi]) m hm))
  refine ⟨a, hok, fun j hj => ?_⟩
  obtain ⟨c, hc1, hc2⟩ := hr j hj
  refine ⟨c, ?_, hc2⟩
  rw [← hc1, List.getElem?_take, if_pos (by omega), List.getElem?_drop]

theorem Opens.len {fs : Array Field} (hu : P.underlying t = some (.struct fs)) {H : Type} {enc : TypeId × Value → H} {w : World} {spare : Nat → Bool} {fuel : Nat} {cs : List Value} {x : DataW H × List MemPlace} (hx : DataW.trod enc P w 0 spare true fuel t cs = some x) :
    cs.length = P.cellsOf t := by
  obtain ⟨xs, n, rfl, rfl, hl, hxl, hx⟩ := DataW.trod_struct hu hx
  exact hl

/-- An argument that is a struct. -/
theorem Opens.top {fs : Array Field} (hu : P.underlying t = some (.struct fs)) {n : Nat} {α : Type} {e : α → Nat → T} {ok : α → Prop} (O : Opens P t n e ok)
    {H : Type} {enc : TypeId × Value → H} {W : World} {spare : Nat → Bool} {r : Reach} {base : Nat} {v : Value} {d : DataW H} {ps : List MemPlace}
    (hval : Value.okWide P W r base t v) (h : DataW.Trod enc P W 0 spare true t v d ps) (hw : Wt P t d) :
    ∃ a, ok a ∧ VRel Heap.none noι (Below' W) W (.agg n (fun j => .t (e a j))) v := by
  simp only [Value.okWide, hu] at hval
  obtain ⟨cs, rfl, -, -⟩ := hval
  obtain ⟨fuel, hf⟩ := h
  obtain ⟨a, hok, hl, hr⟩ := O.out H enc W spare fuel _ _ hf hw
  refine ⟨a, hok, cs, rfl, by simpa [Value.cells] using hl, fun j hj => ?_⟩
  obtain ⟨c, hc1, hc2⟩ := hr j hj
  exact ⟨c, by simpa [Value.cells] using hc1, hc2.plain, hc2⟩

/-- An argument that is a slice. -/
theorem Opens.topS {el : TypeId} (hu : P.underlying t = some (.slice el)) {α : Type} {e : α → Nat → T} {ok : α → Prop} (O : Opens P t 1 e ok)
    {H : Type} {enc : TypeId × Value → H} {W : World} {spare : Nat → Bool} {r : Reach} {base : Nat} {v : Value} {d : DataW H} {ps : List MemPlace}
    (hval : Value.okWide P W r base t v) (h : DataW.Trod enc P W 0 spare true t v d ps) (hw : Wt P t d) :
    ∃ a, ok a ∧ VRel Heap.none noι (Below' W) W (.t (e a 0)) v := by
  obtain ⟨A, len, cap, rfl⟩ := WideShapes.okWide_slice hu hval
  obtain ⟨fuel, hf⟩ := h
  obtain ⟨a, hok, hl, hr⟩ := O.out H enc W spare fuel _ _ hf hw
  obtain ⟨c, hc1, hc2⟩ := hr 0 (by omega)
  simp [Value.cells] at hc1
  subst hc1
  exact ⟨a, hok, hc2⟩

theorem Wt.at_ {H : Type} {ts : List TypeId} {ds : List (DataW H)} (h : (DataW.weightsEach P ts ds).all (· ≤ reachBytes) = true) {j : Nat} {d : DataW H} (ht : ts[j]? = some t) (hd : ds[j]? = some d) : Wt P t d := by
  unfold Wt
  rw [List.all_eq_true] at h ⊢
  exact fun m hm => h m (DataW.weights_mem_each ht hd m hm)

theorem I64.of {n : Int} (h : (Lit.int .i64 n).wf = true) : I64 n := by
  have h1 : IntKind.i64.min = -9223372036854775808 := rfl
  have h2 : IntKind.i64.max = 9223372036854775807 := rfl
  simp only [Lit.wf, Bool.and_eq_true, decide_eq_true_eq, h1, h2] at h
  exact h

/-- THE END: what a pure function does, as a row asks it. -/
theorem PC.row {f : FuncId} {args : List V} {b : Bool} (h : PC P f args (.t (.bool b))) {W : World} {cargs : Array Value} (hl : args.length = cargs.size)
    (ha : ∀ j, j < args.length → VRel Heap.none noι (Below' W) W (args.getD j .un) (cargs.getD j undef)) :
    Calls P f cargs W fun e W' => e = .returned (.bool b) ∧ RowKit.Below W.heap.size W W' := by
  refine (h.out (Below' W) W cargs (fun _ h => h) hl ha).mono fun e W' ⟨cv, F', h1, h2, h3, h4, h5, h6, h7, h8, h9, h10⟩ => ?_
  have : cv = .bool b := h10
  subst this
  exact ⟨h1, h2, h3, h4, h5, h6⟩

/-! ### The data of layer 8 -/
def Inst.ok (x : Inst) : Prop := I64 x.op ∧ I64 x.dest ∧ All 8 I64 x.args ∧ U64 x.num ∧ I64 x.mem
def Edge.ok (x : Edge) : Prop := I64 x.block ∧ All 8 I64 x.args
def Term.ok (x : Term) : Prop := I64 x.kind ∧ I64 x.cond ∧ All 32 Edge.ok x.to ∧ All 8 I64 x.rets
def Block.ok (x : Block) : Prop := All 8 I64 x.params ∧ All 56 Inst.ok x.insts ∧ Term.ok x.term ∧ I64 x.pipeline ∧ I64 x.unroll ∧ I64 x.line
def Arr.ok (x : Arr) : Prop := Strs x.name ∧ I64 x.width ∧ I64 x.len ∧ I64 x.kind ∧ I64 x.factor
def Strm.ok (x : Strm) : Prop := Strs x.name ∧ I64 x.width ∧ True
def Fn.ok (x : Fn) : Prop := Strs x.name ∧ All 8 I64 x.widths ∧ All 48 Arr.ok x.arrays ∧ All 32 Strm.ok x.streams ∧ All 8 I64 x.rets ∧ All 136 Block.ok x.blocks

end Go.Abs
