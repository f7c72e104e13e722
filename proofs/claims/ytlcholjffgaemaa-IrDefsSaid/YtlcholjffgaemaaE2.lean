/-
The evaluator, part 2: lists of operations and code.
No statement of the program is proved here.
-/
import Derived.Test.YtlcholjffgaemaaE1
set_option linter.unusedVariables false
set_option linter.unusedSimpArgs false
namespace Go.Abs
open Go

variable {P : Program} {Q : Exit → St → Prop} {st : St} {L : List GOp} {d : Option Tmp} {ty : TypeId} {K : St → Prop}

def isPureOp : Op → Bool
  | .move _ => true
  | .assign _ => true
  | .pick _ _ _ => true
  | .load _ _ => true
  | .fieldAddr _ _ _ => true
  | .indexAddr _ _ _ => true
  | .binOp _ _ _ _ _ => true
  | .unOp _ _ _ => true
  | .convert _ _ _ => true
  | .extract _ _ => true
  | .nilCheck _ => true
  | .field _ _ _ => true
  | .index _ _ _ => true
  | .call c => match c.callee with
    | .builtin .len => true
    | .builtin .min => true
    | .builtin .max => true
    | _ => false
  | _ => false

theorem only_eval (st : St) (op : Op) {x : Operand} (h : x ∈ op.operands.toList) : (st.only (rds op)).eval x = st.eval x := by
  cases x with
  | tmp t =>
    have : memT (rds op) t = true := by
      rw [memT_iff]
      exact List.mem_flatMap.2 ⟨.tmp t, h, by simp [rdOperand]⟩
    simp only [St.eval, St.only, this, cond_true]
  | const v => rfl
  | global g => rfl
  | func f => rfl

theorem evCall_congr [Tys P] {ev ev' : Operand → V} {H : Heap} {b : Builtin} {args : List Operand} {ts : List TypeId} {K : V → Prop} (h : ∀ x ∈ args, ev' x = ev x) :
    evCall (P := P) ev' H b args ts K = evCall (P := P) ev H b args ts K := by
  unfold evCall
  cases b <;> try rfl
  · match args, ts with
    | [], _ => rfl
    | [x], [] => rfl
    | [x], [t] => simp only [h x (by simp)]
    | [x], _ :: _ :: _ => rfl
    | _ :: _ :: _, _ => rfl
  · match args with
    | [] => rfl
    | [x] => rfl
    | [x, y] => simp only [h x (by simp), h y (by simp)]
    | _ :: _ :: _ :: _ => rfl
  · match args with
    | [] => rfl
    | [x] => rfl
    | [x, y] => simp only [h x (by simp), h y (by simp)]
    | _ :: _ :: _ :: _ => rfl

theorem evO_congr [Tys P] {ev ev' : Operand → V} {H : Heap} {op : Op} {K : V → Prop} (h : ∀ x ∈ op.operands.toList, ev' x = ev x) : evO P ev' H op K = evO P ev H op K := by
  cases op <;> simp only [Op.operands, Call.operands] at h <;> try rfl
  case call c =>
    obtain ⟨callee, args, ats⟩ := c
    cases callee with
    | builtin b =>
      simp only [evO]
      exact evCall_congr (fun x hx => h x (by simpa using hx))
    | _ => rfl
  all_goals
    unfold evO
    simp only [Array.mem_toList_iff, List.mem_toArray, List.mem_cons, List.not_mem_nil, or_false, forall_eq_or_imp, forall_eq] at h
    simp only [h]

theorem evO_only [Tys P] {op : Op} {K : V → Prop} (h : evO P st.eval st.heap op K) : evO P (st.only (rds op)).eval (st.only (rds op)).heap op K := by
  have := evO_congr (P := P) (ev := st.eval) (ev' := (st.only (rds op)).eval) (H := st.heap) (op := op) (K := K) (fun x hx => only_eval st op hx)
  show evO P (st.only (rds op)).eval st.heap op K
  rw [this]; exact h

/-! ### Operations that make memory, or turn it -/
def evStore (P : Program) [Tys P] (Q : Exit → St → Prop) (st : St) (d : Option Tmp) (ty : TypeId) (L : List GOp) (t : TypeId) (x y : Operand) (K : St → Prop) : Prop :=
  bif (Tys.c P t).agg then SL P (⟨d, .store t x y, ty, none⟩ :: L) Q st else
  match st.eval x with
  | .ptr id ver r c => match st.heap.slot id with
    | .live o => bif Nat.beq ver o.ver then needB (Nat.blt r o.n) (bif Nat.beq (Tys.c P t).sz 1 then (bif Nat.blt c o.sz then
        fV (st.eval y) fun u => bif u.one then K ((st.on (st.heap.set id (o.put1 r c u))).put d .un) else False else False) else False) else False
    | _ => False
  | _ => False
def evStep (P : Program) [Tys P] (Q : Exit → St → Prop) (st : St) (d : Option Tmp) (op : Op) (ty : TypeId) (L : List GOp) (K : St → Prop) : Prop :=
  bif isPureOp op then evO P st.eval st.heap op (fun u => K (st.put d u)) else
  match op with
  | .box e x => match st.eval x with
    | .agg s get => litN st.heap.next fun id => K ((st.on (st.heap.addAt id (V.boxed e s get))).put d (.ptr ⟨id, []⟩ 0 0 0))
    | u => fV u fun u => bif u.one then litN st.heap.next fun id => K ((st.on (st.heap.addAt id (V.boxed e 1 (fun _ => u)))).put d (.ptr ⟨id, []⟩ 0 0 0)) else False
  | .alloc e => match (Tys.c P e).zero with
    | some z => litN st.heap.next fun id => K ((st.on (st.heap.addAt id (V.boxed e z.cells.size (fun j => V.cell (z.cells.getD j undef))))).put d (.ptr ⟨id, []⟩ 0 0 0))
    | none => False
  | .store t x y => evStore P Q st d ty L t x y K
  | op => SL P (⟨d, op, ty, none⟩ :: L) Q st

theorem evStep_sound [T : Tys P] {op : Op} {K : St → Prop} (hK : ∀ st, K st → SL P L Q st) (h : evStep P Q st d op ty L K) : SL P (⟨d, op, ty, none⟩ :: L) Q st := by
  unfold evStep at h
  cases hp : isPureOp op with
  | true =>
    rw [hp] at h
    obtain ⟨u, h1, h2⟩ := evO_sound h
    exact SL.o (h1 d ty) (hK _ h2)
  | false =>
    rw [hp] at h
    simp only [cond_false] at h
    split at h
    · split at h
      · rename_i hx; exact SL.boxA' _ rfl hx (hK _ (litN_out h))
      · have h := fV_out h
        obtain ⟨h1, h⟩ := cond_out h
        exact SL.box1' _ rfl rfl h1 (hK _ (litN_out h))
    · split at h
      · rename_i z hz
        have := (T.ok _).zero _ hz
        exact SL.alloc' _ rfl (hK _ (litN_out h))
      · exact h.elim
    · unfold evStore at h
      cases ha : (Tys.c P _).agg with
      | true => rw [ha] at h; exact h
      | false =>
        rw [ha] at h
        simp only [cond_false] at h
        split at h
        · rename_i hx
          split at h
          · rename_i ho
            obtain ⟨h1, h⟩ := cond_out h
            obtain ⟨h2, h⟩ := needB_out h
            obtain ⟨h3, h⟩ := cond_out h
            obtain ⟨h4, h⟩ := cond_out h
            have h := fV_out h
            obtain ⟨h5, h⟩ := cond_out h
            have h3 := natBeq h3
            have := TySz.of' (P := P) (by rw [h3]; rfl) ha
            rw [h3] at this
            exact SL.store1 hx ho (natBeq h1) (Nat.le_of_ble_eq_true h2) (Nat.le_of_ble_eq_true h4) rfl h5 (hK _ h)
          · exact h.elim
        · exact h.elim
    · exact h

/-- A list of operations. -/
def evL (P : Program) [Tys P] (Q : Exit → St → Prop) : List GOp → St → Prop
  | [], st => Q .normal st
  | ⟨d, op, ty, none⟩ :: L, st => evStep P Q st d op ty L (evL P Q L)
  | ⟨d, op, ty, some (some t, w)⟩ :: L, st => match st.env t with
    | .und => evL P Q L (st.put d .und)
    | .t (.bool b) => bif Nat.blt t st.nt then
        (bif w then splitB b (evStep P Q (st.put (some t) (.t (.bool true))) d op ty L (evL P Q L)) (evL P Q L ((st.put (some t) (.t (.bool false))).put d .und))
         else splitB b (evL P Q L ((st.put (some t) (.t (.bool true))).put d .und)) (evStep P Q (st.put (some t) (.t (.bool false))) d op ty L (evL P Q L))) else False
    | _ => False
  | ⟨_, _, _, some (none, _)⟩ :: _, _ => False

theorem evL_sound [Tys P] : ∀ (L : List GOp) (st : St), evL P Q L st → SL P L Q st
  | [], st, h => SL.nil h
  | ⟨d, op, ty, none⟩ :: L, st, h => evStep_sound (evL_sound L) h
  | ⟨d, op, ty, some (some t, w)⟩ :: L, st, h => by
    unfold evL at h
    split at h
    · rename_i hu; exact SL.gu hu (evL_sound L _ h)
    · rename_i b hb
      obtain ⟨hlt, h⟩ := cond_out h
      cases w with
      | true =>
        obtain ⟨h1, h2⟩ := splitB_out h
        refine SL.splitG (w := true) rfl hb hlt (fun e => ?_) (fun e => ?_)
        · exact SL.gy (by rw [put_env_eq, hlt]; rfl) hlt (evStep_sound (evL_sound L) (h1 e))
        · exact SL.gn (by rw [put_env_eq, hlt]; rfl) hlt (evL_sound L _ (h2 e))
      | false =>
        obtain ⟨h1, h2⟩ := splitB_out h
        refine SL.splitG (w := false) rfl hb hlt (fun e => ?_) (fun e => ?_)
        · exact SL.gn (by rw [put_env_eq, hlt]; rfl) hlt (evL_sound L _ (h1 e))
        · exact SL.gy (by rw [put_env_eq, hlt]; rfl) hlt (evStep_sound (evL_sound L) (h2 e))
    · exact h.elim
  | ⟨_, _, _, some (none, _)⟩ :: _, _, h => h.elim

/-- The same, where nothing turns memory, in a drawn order. -/
def evQ (P : Program) [Tys P] (K : St → Prop) : List GOp → St → Prop
  | [], st => K st
  | ⟨d, op, ty, none⟩ :: L, st => bif isPureOp op then evO P st.eval st.heap op (fun u => evQ P K L (st.put d u)) else QS P K (⟨d, op, ty, none⟩ :: L) st
  | ⟨d, op, ty, some (some t, w)⟩ :: L, st => match st.env t with
    | .und => evQ P K L (st.put d .und)
    | .t (.bool b) => bif Nat.blt t st.nt then
        (bif w then splitB b (bif isPureOp op then evO P (st.put (some t) (.t (.bool true))).eval st.heap op (fun u => evQ P K L ((st.put (some t) (.t (.bool true))).put d u)) else QS P K (⟨d, op, ty, none⟩ :: L) (st.put (some t) (.t (.bool true))))
            (evQ P K L ((st.put (some t) (.t (.bool false))).put d .und))
         else splitB b (evQ P K L ((st.put (some t) (.t (.bool true))).put d .und))
            (bif isPureOp op then evO P (st.put (some t) (.t (.bool false))).eval st.heap op (fun u => evQ P K L ((st.put (some t) (.t (.bool false))).put d u)) else QS P K (⟨d, op, ty, none⟩ :: L) (st.put (some t) (.t (.bool false))))) else False
    | _ => False
  | ⟨_, _, _, some (none, _)⟩ :: _, _ => False

theorem QS.gy' {op : Op} {t : Tmp} {want : Bool} (hb : st.env t = .t (.bool want)) (hlt : Nat.blt t st.nt = true) (h : QS P K (⟨d, op, ty, none⟩ :: L) st) : QS P K (⟨d, op, ty, some (some t, want)⟩ :: L) st := QS.gy hb hlt h

theorem evQ_op [T : Tys P] {op : Op} (hK : ∀ st, evQ P K L st → QS P K L st) (h : bif isPureOp op then evO P st.eval st.heap op (fun u => evQ P K L (st.put d u)) else QS P K (⟨d, op, ty, none⟩ :: L) st) : QS P K (⟨d, op, ty, none⟩ :: L) st := by
  cases hp : isPureOp op with
  | true =>
    rw [hp] at h
    obtain ⟨u, h1, h2⟩ := evO_sound (evO_only h)
    exact QS.o (h1 d ty) (hK _ h2)
  | false => rw [hp] at h; exact h

theorem evQ_sound [Tys P] : ∀ (L : List GOp) (st : St), evQ P K L st → QS P K L st
  | [], st, h => QS.nil h
  | ⟨d, op, ty, none⟩ :: L, st, h => evQ_op (evQ_sound L) h
  | ⟨d, op, ty, some (some t, w)⟩ :: L, st, h => by
    unfold evQ at h
    split at h
    · rename_i hu; exact QS.gu hu (evQ_sound L _ h)
    · rename_i b hb
      obtain ⟨hlt, h⟩ := cond_out h
      cases w with
      | true =>
        obtain ⟨h1, h2⟩ := splitB_out h
        refine QS.splitG (w := true) rfl hb hlt (fun e => ?_) (fun e => ?_)
        · exact QS.gy (by rw [put_env_eq, hlt]; rfl) hlt (evQ_op (evQ_sound L) (h1 e))
        · exact QS.gn (by rw [put_env_eq, hlt]; rfl) hlt (evQ_sound L _ (h2 e))
      | false =>
        obtain ⟨h1, h2⟩ := splitB_out h
        refine QS.splitG (w := false) rfl hb hlt (fun e => ?_) (fun e => ?_)
        · exact QS.gn (by rw [put_env_eq, hlt]; rfl) hlt (evQ_sound L _ (h1 e))
        · exact QS.gy (by rw [put_env_eq, hlt]; rfl) hlt (evQ_op (evQ_sound L) (h2 e))
    · exact h.elim
  | ⟨_, _, _, some (none, _)⟩ :: _, _, h => h.elim

/-- Code: as far as it goes without a loop, a call, or an order that is drawn. -/
def evC (P : Program) [Tys P] : Code → (Exit → St → Prop) → St → Prop
  | .skip, Q, st => Q .normal st
  | .region id A draw, Q, st => bif draw then SC P (.region id A true) Q st else evL P Q (prep A) st
  | .seq a b, Q, st => evC P a (thenQ (evC P b Q) Q) st
  | .cond (.tmp t) x y, Q, st => match st.env t with
    | .t (.bool b) => bif Nat.blt t st.nt then splitB b (evC P x Q (st.put (some t) (.t (.bool true)))) (evC P y Q (st.put (some t) (.t (.bool false)))) else False
    | _ => False
  | .block id c, Q, st => evC P c (inQ id Q) st
  | .exit id, Q, st => Q (.exit id) st
  | .ret, Q, st => Q .ret st
  | c, Q, st => SC P c Q st

theorem evC_sound [Tys P] : ∀ (c : Code) (Q : Exit → St → Prop) (st : St), evC P c Q st → SC P c Q st
  | .skip, Q, st, h => SC.skip h
  | .region id A draw, Q, st, h => by
    cases draw with
    | true => exact h
    | false => exact SC.region (evL_sound _ _ h)
  | .seq a b, Q, st, h => SC.seq fun K hK => (evC_sound a _ st h).mono fun e st' he => by
      cases e <;> first | exact hK _ (evC_sound b _ _ he) | exact he
  | .cond (.tmp t) x y, Q, st, h => by
    unfold evC at h
    split at h
    · rename_i b hb
      obtain ⟨hlt, h⟩ := cond_out h
      obtain ⟨h1, h2⟩ := splitB_out h
      refine SC.cond (b := b) hb (fun e => ?_) (fun e => ?_)
      · have := evC_sound x _ _ (h1 e)
        rwa [St.know (by rw [hb, e]) hlt] at this
      · have := evC_sound y _ _ (h2 e)
        rwa [St.know (by rw [hb, e]) hlt] at this
    · exact h.elim
  | .block id c, Q, st, h => SC.block (evC_sound c _ _ h)
  | .exit id, Q, st, h => SC.exit h
  | .ret, Q, st, h => SC.ret h
  | .cond (.const _) x y, Q, st, h => h
  | .cond (.global _) x y, Q, st, h => h
  | .cond (.func _) x y, Q, st, h => h
  | .loop _, Q, st, h => h
  | .rangeFunc _ _ _ _, Q, st, h => h
  | .scope _, Q, st, h => h
  | .label _, Q, st, h => h
  | .goto _, Q, st, h => h
  | .refuse _, Q, st, h => h

/-! ### The table of types -/
def FldAll (P : Program) (t : TypeId) : List (Nat × Bool × Nat) → Nat → Prop
  | [], _ => True
  | (off, a, s) :: l, i => TyField P t i off a s ∧ FldAll P t l (i + 1)
theorem fldAll_at {P : Program} {t : TypeId} : ∀ {l : List (Nat × Bool × Nat)} {i : Nat}, FldAll P t l i → ∀ f off a s, nth l f = some (off, a, s) → TyField P t (i + f) off a s
  | [], i, h, f, off, a, s, hn => by cases hn
  | x :: l, i, h, 0, off, a, s, hn => by cases hn; exact h.1
  | x :: l, i, h, f + 1, off, a, s, hn => by
    have := fldAll_at h.2 f off a s hn
    rwa [show i + (f + 1) = i + 1 + f by omega]
theorem fldAll {P : Program} {t : TypeId} {l : List (Nat × Bool × Nat)} (h : FldAll P t l 0) (f off : Nat) (a : Bool) (s : Nat) (hn : nth l f = some (off, a, s)) : TyField P t f off a s := by
  have := fldAll_at h f off a s hn
  rwa [Nat.zero_add] at this
theorem okNode {P : Program} {t : TypeId} {b : Bool} {x y : TyC} (h1 : TyC.Ok P t x) (h2 : TyC.Ok P t y) : TyC.Ok P t (bif b then x else y) := by cases b <;> assumption
theorem okLeaf {P : Program} {t n : TypeId} {x : TyC} (h : TyC.Ok P n x) : TyC.Ok P t (bif Nat.beq t n then x else {}) := by
  cases hb : Nat.beq t n with
  | true => obtain rfl := Nat.eq_of_beq_eq_true hb; exact h
  | false => exact ⟨fun h => (by cases h), fun f off a s h => (by cases h), fun e s b h => (by cases h), fun x h => (by cases h), fun v h => (by cases h)⟩

theorem SC.drawE {id : Nat} {A : Array Oper} [Tys P] [m : Mixed P] (hc : chk A [] (List.range A.size) = true) (h : evQ P (Q .normal) (prep A) st) : SC P (.region id A true) Q st := SC.drawQ hc (evQ_sound _ _ h)
theorem SC.ev [Tys P] {c : Code} (h : evC P c Q st) : SC P c Q st := evC_sound c Q st h
theorem SL.ev [Tys P] (h : evL P Q L st) : SL P L Q st := evL_sound L st h
theorem QS.ev [Tys P] (h : evQ P K L st) : QS P K L st := evQ_sound L st h
end Go.Abs
