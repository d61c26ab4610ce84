/- Values with every float turned. No program. -/
import Derived.Test.YtddmhilamoghcaaDoorValPure
set_option linter.unusedVariables false
namespace Go.Proofs.YtddmhilamoghcaaDoor
open Go

/- Every float of a value turned. -/
mutual
def mapV (g : Nat → Nat) : V → V
  | .mk k i f t l => .mk k i (g f) t (mapL g l)
def mapL (g : Nat → Nat) : List V → List V
  | [] => []
  | x :: l => mapV g x :: mapL g l
end
theorem mapL_eq (g : Nat → Nat) : ∀ l : List V, mapL g l = l.map (mapV g)
  | [] => by rw [mapL]; rfl
  | x :: l => by rw [mapL, mapL_eq g l]; rfl
theorem mapV_eq (g : Nat → Nat) (k i : Int) (f : Nat) (t : ByteArray) (l : List V) : mapV g (.mk k i f t l) = .mk k i (g f) t (l.map (mapV g)) := by rw [mapV, mapL_eq]
theorem mapV_text (g : Nat → Nat) (v : V) : (mapV g v).text = v.text := by cases v; rw [mapV]; rfl
end Go.Proofs.YtddmhilamoghcaaDoor
