/- Values as plain trees: what it is to be one, to be fixed, to be the same; no program. -/
import Derived.WalkKit
import Derived.WalkLawsBesides
set_option linter.unusedVariables false
namespace Go.Proofs.YtddmhilamoghcaaDoor
open Go

/-- A float's bits with the one NaN. -/
def isNan (b : Nat) : Bool := FloatKind.f64.format.order b b != some .eq
def nanB : Nat := 9221120237041090560
def fixB (b : Nat) : Nat := if isNan b then nanB else b
theorem isNan_nan : isNan nanB = true := by decide +kernel
theorem fixB_fixB (b : Nat) : fixB (fixB b) = fixB b := by
  unfold fixB
  by_cases h : isNan b = true
  · simp [h, isNan_nan]
  · simp [h]
theorem fixB_zero : fixB 0 = 0 := by decide +kernel
theorem isNan_fixB (b : Nat) : isNan (fixB b) = isNan b := by
  unfold fixB
  by_cases h : isNan b = true
  · simp [h, isNan_nan]
  · simp [h]

/-- A value: its kind, number, float's bits, text, items. -/
inductive V where
  | mk (kind int : Int) (float : Nat) (text : ByteArray) (items : List V)
def V.kind : V → Int | .mk k _ _ _ _ => k
def V.int : V → Int | .mk _ i _ _ _ => i
def V.float : V → Nat | .mk _ _ f _ _ => f
def V.text : V → ByteArray | .mk _ _ _ t _ => t
def V.items : V → List V | .mk _ _ _ _ l => l
@[simp] theorem V.kind_mk (k i : Int) (f : Nat) (t : ByteArray) (l : List V) : (V.mk k i f t l).kind = k := rfl
@[simp] theorem V.int_mk (k i : Int) (f : Nat) (t : ByteArray) (l : List V) : (V.mk k i f t l).int = i := rfl
@[simp] theorem V.float_mk (k i : Int) (f : Nat) (t : ByteArray) (l : List V) : (V.mk k i f t l).float = f := rfl
@[simp] theorem V.text_mk (k i : Int) (f : Nat) (t : ByteArray) (l : List V) : (V.mk k i f t l).text = t := rfl
@[simp] theorem V.items_mk (k i : Int) (f : Nat) (t : ByteArray) (l : List V) : (V.mk k i f t l).items = l := rfl

/-- Are a value's fields its kind's? -/
def ownP (v : V) : Prop :=
  (v.kind = 1 ∧ (v.int = 0 ∨ v.int = 1) ∧ fixB v.float = 0 ∧ v.text.toList = [] ∧ v.items.length = 0) ∨
  (v.kind = 2 ∧ fixB v.float = 0 ∧ v.text.toList = [] ∧ v.items.length = 0) ∨
  (v.kind = 3 ∧ v.int = 0 ∧ v.text.toList = [] ∧ v.items.length = 0) ∨
  ((v.kind = 4 ∨ v.kind = 5) ∧ v.int = 0 ∧ fixB v.float = 0 ∧ v.items.length = 0) ∨
  (v.kind = 6 ∧ v.int = 0 ∧ fixB v.float = 0 ∧ v.text.toList = [] ∧ v.items.length ≤ 1) ∨
  (v.kind = 7 ∧ v.int = 0 ∧ fixB v.float = 0 ∧ v.text.toList = [])
instance (v : V) : Decidable (ownP v) := by unfold ownP; infer_instance

/-! ### Sizes, for inductions -/
mutual
def V.rank : V → Nat
  | .mk _ _ _ _ l => V.ranks l + 1
def V.ranks : List V → Nat
  | [] => 0
  | x :: l => V.rank x + V.ranks l + 1
end
theorem V.rank_eq (v : V) : v.rank = V.ranks v.items + 1 := by cases v; rfl
theorem V.rank_lt {l : List V} {x : V} (h : x ∈ l) : x.rank < V.ranks l := by
  induction l with
  | nil => cases h
  | cons y l ih =>
    simp only [V.ranks]
    cases List.mem_cons.1 h with
    | inl e => subst e; omega
    | inr e => have := ih e; omega

/-! ### Being the same -/
mutual
def sameV : V → V → Bool
  | .mk k i f t l, .mk k' i' f' t' l' => decide (k = k') && decide (i = i') && decide (fixB f = fixB f') && decide (t = t') && sameL l l'
def sameL : List V → List V → Bool
  | [], [] => true
  | x :: l, y :: m => sameV x y && sameL l m
  | [], _ :: _ => false
  | _ :: _, [] => false
end
theorem sameV_eq (a b : V) : sameV a b = (decide (a.kind = b.kind) && decide (a.int = b.int) && decide (fixB a.float = fixB b.float) && decide (a.text = b.text) && sameL a.items b.items) := by
  cases a; cases b; rw [sameV]; rfl
theorem sameL_length : ∀ (l m : List V), sameL l m = true → l.length = m.length
  | [], [], _ => rfl
  | x :: l, y :: m, h => by
    simp only [sameL, Bool.and_eq_true] at h
    simp [sameL_length l m h.2]
  | [], _ :: _, h => by simp [sameL] at h
  | _ :: _, [], h => by simp [sameL] at h
/-- index by index -/
theorem sameL_of : ∀ (l m : List V), l.length = m.length → (∀ (i : Nat) (x y : V), l[i]? = some x → m[i]? = some y → sameV x y = true) → sameL l m = true
  | [], [], _, _ => rfl
  | x :: l, y :: m, hl, h => by
    simp only [sameL, Bool.and_eq_true]
    exact ⟨h 0 x y rfl rfl, sameL_of l m (by simpa using hl) (fun i a b ha hb => h (i + 1) a b (by simpa using ha) (by simpa using hb))⟩
  | [], _ :: _, hl, _ => by simp at hl
  | _ :: _, [], hl, _ => by simp at hl
theorem sameL_at : ∀ (l m : List V) (i : Nat) (x y : V), sameL l m = true → l[i]? = some x → m[i]? = some y → sameV x y = true
  | [], [], i, x, y, _, hx, _ => by simp at hx
  | a :: l, b :: m, i, x, y, h, hx, hy => by
    simp only [sameL, Bool.and_eq_true] at h
    cases i with
    | zero =>
      simp at hx hy
      subst hx hy
      exact h.1
    | succ i => exact sameL_at l m i x y h.2 (by simpa using hx) (by simpa using hy)
  | [], _ :: _, _, _, _, h, _, _ => by simp [sameL] at h
  | _ :: _, [], _, _, _, h, _, _ => by simp [sameL] at h
end Go.Proofs.YtddmhilamoghcaaDoor
