/- Two values, floats bit by bit. No program. -/
import Derived.Test.YtddmhilamoghcaaDoorValPure
set_option linter.unusedVariables false
set_option linter.unusedSimpArgs false
namespace Go.Proofs.YtddmhilamoghcaaDoor
/- Two values, floats bit by bit. -/
mutual
def exV : V → V → Bool
  | .mk k i f t l, .mk k' i' f' t' l' => decide (k = k') && decide (i = i') && decide (t = t') && decide (f = f') && exL l l'
def exL : List V → List V → Bool
  | [], [] => true
  | x :: l, y :: m => exV x y && exL l m
  | [], _ :: _ => false
  | _ :: _, [] => false
end
theorem exL_length : ∀ (l m : List V), exL l m = true → l.length = m.length
  | [], [], _ => rfl
  | x :: l, y :: m, h => by
    simp only [exL, Bool.and_eq_true] at h
    simp [exL_length l m h.2]
  | [], _ :: _, h => by simp [exL] at h
  | _ :: _, [], h => by simp [exL] at h
theorem exL_of : ∀ (l m : List V), l.length = m.length → (∀ (i : Nat) (x y : V), l[i]? = some x → m[i]? = some y → exV x y = true) → exL l m = true
  | [], [], _, _ => by simp [exL]
  | x :: l, y :: m, hl, h => by
    simp only [exL, Bool.and_eq_true]
    exact ⟨h 0 x y rfl rfl, exL_of l m (by simpa using hl) (fun i a b ha hb => h (i + 1) a b (by simpa using ha) (by simpa using hb))⟩
  | [], _ :: _, h, _ => by simp at h
  | _ :: _, [], h, _ => by simp at h
theorem exL_at : ∀ (l m : List V) (i : Nat) (x y : V), exL l m = true → l[i]? = some x → m[i]? = some y → exV x y = true
  | x :: l, y :: m, i, a, b, h, hx, hy => by
    simp only [exL, Bool.and_eq_true] at h
    cases i with
    | zero =>
      obtain rfl : x = a := by simpa using hx
      obtain rfl : y = b := by simpa using hy
      exact h.1
    | succ i => exact exL_at l m i a b h.2 (by simpa using hx) (by simpa using hy)
  | [], _, _, _, _, _, hx, _ => by simp at hx
  | _ :: _, [], _, _, _, h, _, _ => by simp [exL] at h
mutual
theorem exV_refl : ∀ v : V, exV v v = true
  | .mk k i f t l => by simp [exV, exL_refl l]
theorem exL_refl : ∀ l : List V, exL l l = true
  | [] => by simp [exL]
  | x :: l => by simp [exL, exV_refl x, exL_refl l]
end

theorem exV_eq (k i : Int) (f : Nat) (t : ByteArray) (l : List V) (k' i' : Int) (f' : Nat) (t' : ByteArray) (m : List V) : exV (.mk k i f t l) (.mk k' i' f' t' m) = (decide (k = k') && decide (i = i') && decide (t = t') && decide (f = f') && exL l m) := by rw [exV]
end Go.Proofs.YtddmhilamoghcaaDoor
