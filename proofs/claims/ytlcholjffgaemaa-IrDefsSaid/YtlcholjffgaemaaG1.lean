/-
Typed memory: data of the program's types, lists that own lists, ways into them.
No statement of the program is proved here.
-/
import Derived.Test.YtlcholjffgaemaaG0
import Derived.Test.YtlcholjffgaemaaE2
set_option linter.unusedVariables false
set_option linter.unusedSectionVars false
set_option linter.unusedSimpArgs false
namespace Go.Abs
open Go

/-- What holds of a value by the first holds of it by the second. -/
def Wk (u u' : V) : Prop := ∀ H ι F w c, VRel H ι F w u c → VRel H ι F w u' c
theorem Wk.refl (u : V) : Wk u u := fun _ _ _ _ _ h => h
theorem Wk.of_eq {u u' : V} (h : u = u') : Wk u u' := h ▸ Wk.refl u
theorem Wk.trans {a b c : V} (h : Wk a b) (k : Wk b c) : Wk a c := fun H ι F w x hx => k H ι F w x (h H ι F w x hx)
theorem Wk.un (u : V) : Wk u .un := fun _ _ _ _ _ _ => trivial
theorem Wk.nils (sz : Nat) (g : Nat → Nat → T) : Wk .nils (.t (.sl sz 0 g)) := fun H ι F w c h => ⟨Option.none, 0, h, Nat.le_refl _, by simp [LEN], fun h => absurd h (Nat.lt_irrefl _)⟩
theorem Wk.agg {n : Nat} {g g' : Nat → V} (h : ∀ j, j < n → Wk (g j) (g' j)) : Wk (.agg n g) (.agg n g') := fun H ι F w c ⟨cs, h1, h2, h3⟩ =>
  ⟨cs, h1, h2, fun j hj => by obtain ⟨c, a, p, b⟩ := h3 j hj; exact ⟨c, a, p, h j hj H ι F w c b⟩⟩
theorem Wk.fp {m m' : Nat} {g g' : Nat → T} (hm : m' ≤ m) (h : ∀ j, j < m' → g' j = g j) : Wk (.fp m g) (.fp m' g') := fun H ι F w c ⟨b, o, h1, h2, h3⟩ =>
  ⟨b, o, h1, h2, fun j hj => by rw [h j hj]; exact h3 j (by omega)⟩

/-- The codes of the types of data; 'ol': a list that is the state's own, with the type of its elements. -/
inductive Ty where
  | bool
  | int (k : IntKind)
  | str
  | st (i : Nat)
  | sl (e : Ty)
  | ol (t : TypeId) (e : Ty)
deriving DecidableEq

/-- The structs of a program, as Lean data. -/
class SU where
  D : Nat → Type
  z : (i : Nat) → D i
  sz : Nat → Nat
  enc : (i : Nat) → D i → Nat → T

section
variable [SU]
@[reducible] def Ty.D : Ty → Type
  | .bool => Bool
  | .int _ => Int
  | .str => ByteArray
  | .st i => SU.D i
  | .sl e => List e.D
  | .ol _ e => List e.D
def Ty.z : (τ : Ty) → τ.D
  | .bool => false
  | .int _ => (0 : Int)
  | .str => ByteArray.empty
  | .st i => SU.z i
  | .sl _ => []
  | .ol _ _ => []
def Ty.sz : Ty → Nat
  | .st i => SU.sz i
  | _ => 1
def Ty.isSt : Ty → Bool
  | .st _ => true
  | _ => false
def encC : (τ : Ty) → τ.D → Nat → T
  | .bool, x, _ => .bool x
  | .int k, x, _ => .int k x
  | .str, x, _ => .str x
  | .st i, x, c => SU.enc i x c
  | .sl e, l, _ => .sl e.sz (List.length (α := e.D) l) (fun r c => encC e (List.getD (α := e.D) l r e.z) c)
  | .ol _ e, l, _ => .sl e.sz (List.length (α := e.D) l) (fun r c => encC e (List.getD (α := e.D) l r e.z) c)
def encL (e : Ty) (l : List e.D) : T := .sl e.sz l.length (fun r c => encC e (l.getD r e.z) c)

/-- The same datum, where the codes are the same. -/
def castN : (D : Nat → Type) → (i j : Nat) → D i → Option (D j)
  | _, 0, 0, x => some x
  | D, i + 1, j + 1, x => castN (fun n => D (n + 1)) i j x
  | _, _, _, _ => none
theorem castN_ok : ∀ (D : Nat → Type) (i j : Nat) (x : D i) (y : D j), castN D i j x = some y → i = j ∧ HEq x y
  | _, 0, 0, x, y, h => by injection h with h; subst h; exact ⟨rfl, HEq.rfl⟩
  | D, i + 1, j + 1, x, y, h => by
    obtain ⟨h1, h2⟩ := castN_ok (fun n => D (n + 1)) i j x y h
    exact ⟨by rw [h1], h2⟩
  | _, 0, j + 1, x, y, h => by cases h
  | _, i + 1, 0, x, y, h => by cases h
def castF : (F : Type → Type) → (τ τ' : Ty) → F τ.D → Option (F τ'.D)
  | _, .bool, .bool, x => some x
  | _, .int k, .int k', x => bif kindEq k k' then some x else none
  | _, .str, .str, x => some x
  | F, .st i, .st j, x => castN (fun i => F (SU.D i)) i j x
  | F, .sl e, .sl e', x => castF (fun X => F (List X)) e e' x
  | F, .ol t e, .ol t' e', x => bif Nat.beq t t' then castF (fun X => F (List X)) e e' x else none
  | _, _, _, _ => none
theorem castF_ok : ∀ (F : Type → Type) (τ τ' : Ty) (x : F τ.D) (y : F τ'.D), castF F τ τ' x = some y → τ = τ' ∧ HEq x y
  | F, τ, τ', x, y, h => by
    cases τ <;> cases τ' <;> simp only [castF] at h <;> try (cases h; done)
    · injection h with h; subst h; exact ⟨rfl, HEq.rfl⟩
    · rename_i k k'
      cases hk : kindEq k k' with
      | false => rw [hk] at h; cases h
      | true =>
        have := kindEq_eq hk
        subst this
        rw [hk] at h
        injection h with h; subst h; exact ⟨rfl, HEq.rfl⟩
    · injection h with h; subst h; exact ⟨rfl, HEq.rfl⟩
    · rename_i i j
      obtain ⟨rfl, h2⟩ := castN_ok _ _ _ _ _ h
      exact ⟨rfl, h2⟩
    · rename_i e e'
      obtain ⟨rfl, h2⟩ := castF_ok _ _ _ _ _ h
      exact ⟨rfl, h2⟩
    · rename_i t e t' e'
      cases hb : Nat.beq t t' with
      | false => rw [hb] at h; cases h
      | true =>
        rw [hb] at h
        obtain rfl := Nat.eq_of_beq_eq_true hb
        obtain ⟨rfl, h2⟩ := castF_ok _ _ _ _ _ h
        exact ⟨rfl, h2⟩
theorem castL_ok {τ τ' : Ty} {x : List τ.D} {y : List τ'.D} (h : castF List τ τ' x = some y) : τ = τ' ∧ HEq x y := castF_ok List τ τ' x y h
theorem castI_ok {τ τ' : Ty} {x : τ.D} {y : τ'.D} (h : castF (fun X => X) τ τ' x = some y) : τ = τ' ∧ HEq x y := castF_ok (fun X => X) τ τ' x y h

/-- Values. -/
inductive EV where
  | un
  | und
  | b (x : Bool)
  | i (k : IntKind) (n : Int)
  | s (x : ByteArray)
  | fz (τ : Ty) (l : List τ.D)
  | fp (τ : Ty) (x : τ.D) (c : Nat)
  | st (i : Nat) (x : SU.D i)
  | ptr (id : Nat) (p : List Nat) (r c : Nat)
  | sref (id : Nat) (p : List Nat) (r n : Nat)
  | sfull (id : Nat) (p : List Nat)
  | nils
  | nilp
  | nilm
  | nilf
  | nili
  | mref (id : Nat)
  | agg (l : List EV)
  | tup (l : List EV)
  | fn (f : FuncId) (l : List EV)

abbrev Len := Nat → List Nat → Option Nat
mutual
def toV (len : Len) : EV → V
  | .un => .un
  | .und => .und
  | .b x => .t (.bool x)
  | .i k n => .t (.int k n)
  | .s x => .t (.str x)
  | .fz τ l => .t (encL τ l)
  | .fp τ x c => .fp (τ.sz - c) (fun j => encC τ x (j + c))
  | .st i x => .agg (SU.sz i) (fun j => .t (SU.enc i x j))
  | .ptr id p r c => .ptr ⟨id, p⟩ 0 r c
  | .sref id p r n => .sref ⟨id, p⟩ 0 r n
  | .sfull id p => match len id p with
    | some n => .sref ⟨id, p⟩ 0 0 n
    | none => .sref ⟨id, p⟩ 0 0 0
  | .nils => .nils
  | .nilp => .nilp
  | .nilm => .nilm
  | .nilf => .nilf
  | .nili => .t .nilI
  | .mref id => .mref ⟨id, []⟩
  | .agg l => .agg l.length (toVs len l)
  | .tup l => .tup l.length (toVs len l)
  | .fn f l => .fn f l.length (toVs len l)
def toVs (len : Len) : List EV → Nat → V
  | [], _ => .un
  | a :: _, 0 => toV len a
  | _ :: l, j + 1 => toVs len l j
end
theorem toVs_eq (len : Len) : ∀ (l : List EV) (j : Nat), toVs len l j = toV len (l.getD j .un)
  | [], j => by simp [toVs, toV]
  | a :: l, 0 => by simp [toVs]
  | a :: l, j + 1 => by simp only [toVs]; rw [toVs_eq len l j]; simp

/-- Values that mention no object. -/
def EV.dat : EV → Bool
  | .un => true
  | .b _ => true
  | .i _ _ => true
  | .s _ => true
  | .fz _ _ => true
  | .nils => true
  | .nilp => true
  | .nilm => true
  | .nilf => true
  | .nili => true
  | _ => false
theorem EV.dat_len {u : EV} (h : u.dat = true) (len len' : Len) : toV len u = toV len' u := by
  cases u <;> first | (cases h; done) | (simp only [toV]; done)
/-- A cell of a datum: a value, or a list of its own. -/
inductive Cell where
  | ev (u : EV)
  | own (t : TypeId) (e : Ty) (l : List e.D)
end

/-- How the cells of the structs are read, written, and how they are made. -/
class Codes [SU] where
  fro : Nat → Bool
  cell : (i : Nat) → SU.D i → Nat → Cell
  set : (i : Nat) → SU.D i → Nat → EV → Option (SU.D i)
  setK : (i : Nat) → SU.D i → Nat → (t : TypeId) → (e : Ty) → List e.D → Option (SU.D i)
  make : (i : Nat) → List EV → Option (SU.D i)
  cell_ok : ∀ i x j, fro i = true → ∃ u, cell i x j = .ev u ∧ (j < SU.sz i → ∀ len, toV len u = .t (SU.enc i x j))
  set_ok : ∀ i x j v y, set i x j v = some y → (∃ u0, cell i x j = .ev u0) ∧ (∃ u, cell i y j = .ev u ∧ ∀ len, Wk (toV len v) (toV len u)) ∧ ∀ j', j' ≠ j → cell i y j' = cell i x j'
  setK_ok : ∀ i x j t e l y, setK i x j t e l = some y → (∃ l0, cell i x j = .own t e l0) ∧ cell i y j = .own t e l ∧ ∀ j', j' ≠ j → cell i y j' = cell i x j'
  cell_dat : ∀ i x j u, cell i x j = .ev u → u.dat = true
  z_own : ∀ i j t e l, cell i (SU.z i) j = .own t e l → l = []
  make_ok : ∀ i l y, make i l = some y → l.length = SU.sz i ∧ ∀ j, j < SU.sz i → ∃ u, cell i y j = .ev u ∧ ∀ len, Wk (toVs len l j) (toV len u)

section
variable [SU] [Codes]
def cellC : (τ : Ty) → τ.D → Nat → Cell
  | .st i, x, c => Codes.cell i x c
  | .bool, x, 0 => .ev (.b x)
  | .int k, x, 0 => .ev (.i k x)
  | .str, x, 0 => .ev (.s x)
  | .sl e, l, 0 => .ev (.fz e l)
  | .ol t e, l, 0 => .own t e l
  | .bool, _, _ + 1 => .ev .un
  | .int _, _, _ + 1 => .ev .un
  | .str, _, _ + 1 => .ev .un
  | .sl _, _, _ + 1 => .ev .un
  | .ol _ _, _, _ + 1 => .ev .un
def froT : Ty → Bool
  | .st i => Codes.fro i
  | .ol _ _ => false
  | _ => true
theorem cellC_enc : ∀ (τ : Ty) (x : τ.D) (c : Nat), froT τ = true → ∃ u, cellC τ x c = .ev u ∧ (c < τ.sz → ∀ len, toV len u = .t (encC τ x c))
  | .bool, x, 0, _ => ⟨_, rfl, fun _ len => by simp only [toV, encC]⟩
  | .int k, x, 0, _ => ⟨_, rfl, fun _ len => by simp only [toV, encC]⟩
  | .str, x, 0, _ => ⟨_, rfl, fun _ len => by simp only [toV, encC]⟩
  | .st i, x, c, h => Codes.cell_ok i x c h
  | .sl e, l, 0, h => ⟨_, rfl, fun _ len => by simp only [toV, encC, encL]⟩
  | .bool, x, c + 1, _ => ⟨_, rfl, fun h => absurd h (by simp [Ty.sz])⟩
  | .int k, x, c + 1, _ => ⟨_, rfl, fun h => absurd h (by simp [Ty.sz])⟩
  | .str, x, c + 1, _ => ⟨_, rfl, fun h => absurd h (by simp [Ty.sz])⟩
  | .sl e, l, c + 1, _ => ⟨_, rfl, fun h => absurd h (by simp [Ty.sz])⟩
  | .ol _ _, _, _, h => by cases h
def setC : (τ : Ty) → τ.D → Nat → EV → Option τ.D
  | .st i, x, c, v => Codes.set i x c v
  | .bool, _, 0, .b y => some y
  | .int k, _, 0, .i k' n => bif kindEq k k' then some n else none
  | .str, _, 0, .s y => some y
  | .sl e, _, 0, .fz e' l => castF List e' e l
  | .sl e, _, 0, .nils => some []
  | _, _, _, _ => none
theorem sz1 {τ : Ty} (h : τ.isSt = false) : τ.sz = 1 := by cases τ <;> first | rfl | cases h
/-- Cells but one are as they were. -/
theorem setC_ok : ∀ (τ : Ty) (x : τ.D) (c : Nat) (v : EV) (y : τ.D), setC τ x c v = some y →
    (∃ u0, cellC τ x c = .ev u0) ∧ (∃ u, cellC τ y c = .ev u ∧ ∀ len, Wk (toV len v) (toV len u)) ∧ ∀ c', c' ≠ c → cellC τ y c' = cellC τ x c'
  | .bool, x, c, v, y, h => by
    cases c <;> cases v <;> simp only [setC] at h <;> first
      | (cases h; done)
      | (injection h with h; subst h; exact ⟨⟨_, rfl⟩, ⟨_, rfl, fun len => Wk.refl _⟩, fun c' h2 => by cases c' <;> first | exact absurd rfl h2 | rfl⟩)
  | .int k, x, c, v, y, h => by
    cases c <;> cases v <;> simp only [setC] at h <;> try (cases h; done)
    rename_i k' n
    cases hk : kindEq k k' with
    | false => rw [hk] at h; cases h
    | true =>
      have := kindEq_eq hk
      subst this
      rw [hk] at h
      simp only [cond_true] at h
      injection h with h; subst h
      exact ⟨⟨_, rfl⟩, ⟨_, rfl, fun len => Wk.refl _⟩, fun c' h2 => by cases c' <;> first | exact absurd rfl h2 | rfl⟩
  | .str, x, c, v, y, h => by
    cases c <;> cases v <;> simp only [setC] at h <;> first
      | (cases h; done)
      | (injection h with h; subst h; exact ⟨⟨_, rfl⟩, ⟨_, rfl, fun len => Wk.refl _⟩, fun c' h2 => by cases c' <;> first | exact absurd rfl h2 | rfl⟩)
  | .st i, x, c, v, y, h => by
    simp only [setC] at h
    exact Codes.set_ok i x c v y h
  | .sl e, x, c, v, y, h => by
    cases c <;> cases v <;> simp only [setC] at h <;> try (cases h; done)
    · rename_i e' l
      obtain ⟨rfl, h⟩ := castL_ok h
      obtain rfl := eq_of_heq h
      exact ⟨⟨_, rfl⟩, ⟨_, rfl, fun len => Wk.refl _⟩, fun c' h2 => by cases c' <;> first | exact absurd rfl h2 | rfl⟩
    · injection h with h; subst h
      refine ⟨⟨_, rfl⟩, ⟨_, rfl, fun len => ?_⟩, fun c' h2 => by cases c' <;> first | exact absurd rfl h2 | rfl⟩
      simp only [toV, encL]
      exact Wk.nils _ _
  | .ol _ _, x, c, v, y, h => by cases c <;> cases v <;> cases h
def setKC : (τ : Ty) → τ.D → Nat → (t : TypeId) → (e : Ty) → List e.D → Option τ.D
  | .st i, x, c, t, e, l => Codes.setK i x c t e l
  | .ol t' e', _, 0, t, e, l => bif Nat.beq t t' then castF List e e' l else none
  | _, _, _, _, _, _ => none
theorem setKC_ok : ∀ (τ : Ty) (x : τ.D) (c : Nat) (t : TypeId) (e : Ty) (l : List e.D) (y : τ.D), setKC τ x c t e l = some y →
    (∃ l0, cellC τ x c = .own t e l0) ∧ cellC τ y c = .own t e l ∧ ∀ c', c' ≠ c → cellC τ y c' = cellC τ x c'
  | .st i, x, c, t, e, l, y, h => Codes.setK_ok i x c t e l y h
  | .ol t' e', x, 0, t, e, l, y, h => by
    simp only [setKC] at h
    cases hb : Nat.beq t t' with
    | false => rw [hb] at h; cases h
    | true =>
      rw [hb] at h
      obtain rfl := Nat.eq_of_beq_eq_true hb
      obtain ⟨rfl, h⟩ := castL_ok h
      obtain rfl := eq_of_heq h
      exact ⟨⟨_, rfl⟩, rfl, fun c' h2 => by cases c' <;> first | exact absurd rfl h2 | rfl⟩
  | .ol _ _, _, _ + 1, _, _, _, _, h => by cases h
  | .bool, _, _, _, _, _, _, h => by cases h
  | .int _, _, _, _, _, _, _, h => by cases h
  | .str, _, _, _, _, _, _, h => by cases h
  | .sl _, _, _, _, _, _, _, h => by cases h
theorem cellC_dat : ∀ (τ : Ty) (x : τ.D) (c : Nat) (u : EV), cellC τ x c = .ev u → u.dat = true
  | .st i, x, c, u, h => Codes.cell_dat i x c u h
  | .bool, x, c, u, h => by cases c <;> (injection h with h; subst h; rfl)
  | .int _, x, c, u, h => by cases c <;> (injection h with h; subst h; rfl)
  | .str, x, c, u, h => by cases c <;> (injection h with h; subst h; rfl)
  | .sl _, x, c, u, h => by cases c <;> (injection h with h; subst h; rfl)
  | .ol _ _, x, 0, u, h => by cases h
  | .ol _ _, x, _ + 1, u, h => by injection h with h; subst h; rfl
theorem z_ownC : ∀ (τ : Ty) (c : Nat) (t : TypeId) (e : Ty) (l : List e.D), cellC τ τ.z c = .own t e l → l = []
  | .st i, c, t, e, l, h => Codes.z_own i c t e l h
  | .ol t' e', 0, t, e, l, h => by
    simp only [cellC, Ty.z] at h
    injection h with h1 h2 h3
    subst h2
    exact (eq_of_heq h3).symm
  | .ol _ _, _ + 1, _, _, _, h => by cases h
  | .bool, c, _, _, _, h => by cases c <;> cases h
  | .int _, c, _, _, _, h => by cases c <;> cases h
  | .str, c, _, _, _, h => by cases c <;> cases h
  | .sl _, c, _, _, _, h => by cases c <;> cases h

/-! ### Lists that own lists -/
structure LV where
  e : TypeId
  τ : Ty
  l : List τ.D
def LV.row (v : LV) (r : Nat) : v.τ.D := v.l.getD r v.τ.z
def LV.kid (v : LV) (c r : Nat) : Option LV := match cellC v.τ (v.l.getD r v.τ.z) c with
  | .own t e l => some ⟨t, e, l⟩
  | .ev _ => none
def LV.at : LV → List Nat → Option LV
  | v, [] => some v
  | v, c :: r :: p => match v.kid c r with
    | some k => LV.at k p
    | none => none
  | _, [_] => none
theorem LV.at_nil (v : LV) : v.at [] = some v := by unfold LV.at; rfl
theorem LV.at_cons (v : LV) (c r : Nat) (p : List Nat) : v.at (c :: r :: p) = match v.kid c r with
    | some k => LV.at k p
    | none => none := by rw [LV.at]
theorem LV.at_odd (v : LV) (c : Nat) : v.at [c] = none := by rw [LV.at]
/-- Below an empty list all is empty. -/
theorem LV.at_empty : ∀ (p : List Nat) (v w : LV), v.l = [] → v.at p = some w → w.l = []
  | [], v, w, h, ha => by rw [LV.at_nil] at ha; injection ha with ha; exact ha ▸ h
  | [_], v, w, h, ha => by rw [LV.at_odd] at ha; cases ha
  | c :: r :: p, v, w, h, ha => by
    rw [LV.at_cons] at ha
    cases hk : v.kid c r with
    | none => rw [hk] at ha; cases ha
    | some k =>
      rw [hk] at ha
      refine LV.at_empty p k w ?_ ha
      unfold LV.kid at hk
      rw [h] at hk
      simp only [List.getD_nil] at hk
      split at hk
      · rename_i t e l hc
        injection hk with hk
        subst hk
        exact z_ownC _ _ _ _ _ hc
      · cases hk
/-- A row is replaced. -/
def LV.setRow (v : LV) (r : Nat) (y : v.τ.D) : LV := ⟨v.e, v.τ, v.l.set r y⟩
/-- The list at the end of a way is replaced; the codes stay. -/
def LV.put : LV → List Nat → LV → Option LV
  | _, [], w => some w
  | v, c :: r :: p, w => match v.kid c r with
    | some k => match LV.put k p w with
      | some k' => match setKC v.τ (v.l.getD r v.τ.z) c k'.e k'.τ k'.l with
        | some y => some ⟨v.e, v.τ, v.l.set r y⟩
        | none => none
      | none => none
    | none => none
  | _, [_], _ => none
/-- Cells that look alike from outside. -/
def Cell.Sim : Cell → Cell → Prop
  | .ev u, .ev u' => u = u'
  | .own t e l, .own t' e' l' => t = t' ∧ e = e' ∧ l.length = l'.length
  | _, _ => False
theorem Cell.Sim.rfl (x : Cell) : x.Sim x := by cases x <;> simp [Cell.Sim]
/-- Two lists whose rows look alike, but for a cell. -/
structure LV.Alike (a a' : LV) (P : Nat → Nat → Prop) : Prop where
  e : a'.e = a.e
  τ : a'.τ = a.τ
  n : a'.l.length = a.l.length
  c : ∀ r c, ¬ P r c → (cellC a.τ (a.row r) c).Sim (cellC a'.τ (a'.row r) c)
theorem LV.Alike.refl (a : LV) (P : Nat → Nat → Prop) : a.Alike a P := ⟨rfl, rfl, rfl, fun _ _ _ => Cell.Sim.rfl _⟩
theorem LV.kid_some {v k : LV} {c r : Nat} (h : v.kid c r = some k) : cellC v.τ (v.row r) c = .own k.e k.τ k.l := by
  unfold LV.kid at h
  split at h
  · rename_i t e l hc
    injection h with h; subst h; exact hc
  · cases h
theorem LV.kid_of {v : LV} {c r : Nat} {t : TypeId} {e : Ty} {l : List e.D} (h : cellC v.τ (v.row r) c = .own t e l) : v.kid c r = some ⟨t, e, l⟩ := by
  unfold LV.kid
  unfold LV.row at h
  rw [h]
theorem getD_set_self {α : Type} {l : List α} {r : Nat} {y z : α} (h : r < l.length) : (l.set r y).getD r z = y := by simp [List.getD_eq_getElem?_getD, h]
theorem getD_set_ne {α : Type} {l : List α} {r i : Nat} {y z : α} (h : i ≠ r) : (l.set r y).getD i z = l.getD i z := by
  rw [List.getD_eq_getElem?_getD, List.getD_eq_getElem?_getD, List.getElem?_set_ne (fun e => h e.symm)]
theorem LV.setRow_row {v : LV} {r : Nat} {y : v.τ.D} (h : r < v.l.length) (i : Nat) : (v.setRow r y).row i = if i = r then y else v.row i := by
  unfold LV.row LV.setRow
  by_cases hi : i = r
  · subst hi; rw [if_pos rfl]; exact getD_set_self h
  · rw [if_neg hi]; exact getD_set_ne hi
theorem LV.kid_congr {v v' : LV} {c r : Nat} (h : cellC v'.τ (v'.row r) c = cellC v.τ (v.row r) c) : v'.kid c r = v.kid c r := by
  unfold LV.kid
  unfold LV.row at h
  rw [h]
/-- What a row's new cell changes: nothing elsewhere. -/
theorem LV.setRow_at {v : LV} {r c : Nat} {y : v.τ.D} (hr : r < v.l.length) (hs : (cellC v.τ (v.row r) c).Sim (cellC v.τ y c) ∨ True) (hy : ∀ c', c' ≠ c → cellC v.τ y c' = cellC v.τ (v.row r) c') :
    ∀ q, ¬ ([c, r] <+: q) → ((v.setRow r y).at q = none ∧ v.at q = none) ∨ ∃ a a', v.at q = some a ∧ (v.setRow r y).at q = some a' ∧ a.Alike a' (fun r' c' => q = [] ∧ r' = r ∧ c' = c)
  | [], _ => by
    refine .inr ⟨v, v.setRow r y, LV.at_nil _, LV.at_nil _, rfl, rfl, by simp [LV.setRow], fun r' c' hn => ?_⟩
    have e : (v.setRow r y).row r' = if r' = r then y else v.row r' := LV.setRow_row hr r'
    show (cellC v.τ (v.row r') c').Sim (cellC v.τ ((v.setRow r y).row r') c')
    rw [e]
    by_cases h1 : r' = r
    · subst h1
      rw [if_pos rfl, hy c' (fun h2 => hn ⟨rfl, rfl, h2⟩)]; exact Cell.Sim.rfl _
    · rw [if_neg h1]; exact Cell.Sim.rfl _
  | [x], _ => .inl ⟨LV.at_odd _ _, LV.at_odd _ _⟩
  | c2 :: r2 :: q, hq => by
    have hk : (v.setRow r y).kid c2 r2 = v.kid c2 r2 := by
      refine LV.kid_congr ?_
      have e : (v.setRow r y).row r2 = if r2 = r then y else v.row r2 := LV.setRow_row hr r2
      show cellC v.τ ((v.setRow r y).row r2) c2 = _
      rw [e]
      by_cases h1 : r2 = r
      · subst h1
        rw [if_pos rfl]
        refine hy c2 (fun h2 => hq ?_)
        subst h2
        exact ⟨q, rfl⟩
      · rw [if_neg h1]
    rw [LV.at_cons, LV.at_cons, hk]
    cases v.kid c2 r2 with
    | none => exact .inl ⟨rfl, rfl⟩
    | some k =>
      show (LV.at k q = none ∧ LV.at k q = none) ∨ _
      cases h : LV.at k q with
      | none => exact .inl ⟨rfl, rfl⟩
      | some a => exact .inr ⟨a, a, h, h, LV.Alike.refl _ _⟩
theorem LV.put_cons {v w v' : LV} {c r : Nat} {p : List Nat} (h : v.put (c :: r :: p) w = some v') :
    ∃ k k' y, v.kid c r = some k ∧ LV.put k p w = some k' ∧ setKC v.τ (v.row r) c k'.e k'.τ k'.l = some y ∧ v' = v.setRow r y := by
  rw [LV.put] at h
  cases hk : v.kid c r with
  | none => rw [hk] at h; cases h
  | some k =>
    rw [hk] at h
    simp only at h
    cases hp : LV.put k p w with
    | none => rw [hp] at h; cases h
    | some k' =>
      rw [hp] at h
      simp only at h
      cases hy : setKC v.τ (v.l.getD r v.τ.z) c k'.e k'.τ k'.l with
      | none => rw [hy] at h; cases h
      | some y => rw [hy] at h; injection h with h; exact ⟨k, k', y, rfl, hp, hy, h.symm⟩
theorem LV.put_ok : ∀ (p : List Nat) (v w0 v' : LV) (r c : Nat) (y : w0.τ.D), v.at p = some w0 → r < w0.l.length → (∀ c', c' ≠ c → cellC w0.τ y c' = cellC w0.τ (w0.row r) c') → v.put p (w0.setRow r y) = some v' →
    v'.at p = some (w0.setRow r y) ∧ (∀ q, ¬ (p ++ [c, r] <+: q) → (v'.at q = none ∧ v.at q = none) ∨ ∃ a a', v.at q = some a ∧ v'.at q = some a' ∧ a.Alike a' (fun r' c' => q = p ∧ r' = r ∧ c' = c)) ∧ v'.e = v.e ∧ v'.τ = v.τ
  | [], v, w0, v', r, c, y, ha, hr, hy, hp => by
    rw [LV.at_nil] at ha; injection ha with ha; subst ha
    rw [LV.put] at hp
    injection hp with hp; subst hp
    exact ⟨LV.at_nil _, LV.setRow_at hr (.inr trivial) hy, rfl, rfl⟩
  | [x], v, w0, v', r, c, y, ha, hr, hy, hp => by rw [LV.at_odd] at ha; cases ha
  | c1 :: r1 :: p, v, w0, v', r, c, y, ha, hr, hy, hp => by
    obtain ⟨k, k', y1, hk, hp1, hs, rfl⟩ := LV.put_cons hp
    rw [LV.at_cons, hk] at ha
    have ha : LV.at k p = some w0 := ha
    obtain ⟨i1, i2, i3, i4⟩ := LV.put_ok p k w0 k' r c y ha hr hy hp1
    obtain ⟨⟨l0, s1⟩, s2, s3⟩ := setKC_ok _ _ _ _ _ _ _ hs
    have hkc := LV.kid_some hk
    have hr1 : r1 < v.l.length := by
      refine Classical.byContradiction fun hn => ?_
      have e : v.row r1 = v.τ.z := by unfold LV.row; rw [List.getD_eq_getElem?_getD, List.getElem?_eq_none (by omega)]; rfl
      rw [e] at hkc
      have hz := z_ownC _ _ _ _ _ hkc
      have := LV.at_empty p k w0 hz ha
      rw [this] at hr; simp at hr
    have hkid : (v.setRow r1 y1).kid c1 r1 = some k' := by
      have e : (v.setRow r1 y1).row r1 = y1 := by rw [LV.setRow_row hr1, if_pos rfl]
      have := LV.kid_of (v := v.setRow r1 y1) (c := c1) (r := r1) (t := k'.e) (e := k'.τ) (l := k'.l) (by rw [e]; exact s2)
      exact this
    refine ⟨by rw [LV.at_cons, hkid]; exact i1, fun q hq => ?_, rfl, rfl⟩
    by_cases hpre : [c1, r1] <+: q
    · obtain ⟨s, rfl⟩ := hpre
      show ((v.setRow r1 y1).at (c1 :: r1 :: s) = none ∧ v.at (c1 :: r1 :: s) = none) ∨ _
      rw [LV.at_cons, hkid, LV.at_cons, hk]
      rcases i2 s (fun h => hq (by obtain ⟨z, rfl⟩ := h; exact ⟨z, by simp⟩)) with h | ⟨a, a', h1, h2, h3⟩
      · exact .inl h
      · refine .inr ⟨a, a', by rw [List.cons_append, List.cons_append, List.nil_append, LV.at_cons, hk]; exact h1, by rw [List.cons_append, List.cons_append, List.nil_append, LV.at_cons, hkid]; exact h2, h3.e, h3.τ, h3.n, fun r' c' hn => h3.c r' c' (fun ⟨e1, e2, e3⟩ => hn ⟨by rw [e1]; rfl, e2, e3⟩)⟩
    · rcases LV.setRow_at (v := v) (r := r1) (c := c1) (y := y1) hr1 (.inr trivial) s3 q hpre with h | ⟨a, a', h1, h2, h3⟩
      · exact .inl h
      · refine .inr ⟨a, a', h1, h2, h3.e, h3.τ, h3.n, fun r' c' hn => ?_⟩
        by_cases hc : q = [] ∧ r' = r1 ∧ c' = c1
        · obtain ⟨rfl, rfl, rfl⟩ := hc
          rw [LV.at_nil] at h1 h2
          injection h1 with h1; subst h1
          injection h2 with h2; subst h2
          have e : (v.setRow r' y1).row r' = y1 := by rw [LV.setRow_row hr1, if_pos rfl]
          rw [e, hkc]
          show (Cell.own k.e k.τ k.l).Sim (cellC v.τ y1 c')
          rw [s2]
          -- the kid's length stays
          have hlen : k'.l.length = k.l.length ∧ k'.e = k.e ∧ k'.τ = k.τ := by
            refine ⟨?_, i3, i4⟩
            rcases i2 [] (fun h => by simp at h) with ⟨_, h⟩ | ⟨a, a', h1, h2, h3⟩
            · rw [LV.at_nil] at h; cases h
            · rw [LV.at_nil] at h1 h2
              injection h1 with h1; subst h1
              injection h2 with h2; subst h2
              exact h3.n
          exact ⟨hlen.2.1.symm, hlen.2.2.symm, hlen.1.symm⟩
        · exact h3.c r' c' hc
end
end Go.Abs
