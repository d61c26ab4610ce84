/- Values with every float turned. No program. -/
import Derived.Test.YtddmhilamoghcaaDoorValPure
set_option linter.unusedVariables false
namespace Go.Proofs.YtddmhilamoghcaaDoor
open Go

/- Every float of a value turned. -/
mutual
def mapV (g : Nat → Nat) : V → V
  | .mk k i f t l => .mk k i (g f) t (mapL g l)
def mapL (g : Nat → Nat) : List V → List V
  | [] => []
  | x :: l => mapV g x :: mapL g l
end
theorem mapL_eq (g : Nat → Nat) : ∀ l : List V, mapL g l = l.map (mapV g)
  | [] => by rw [mapL]; rfl
  | x :: l => by rw [mapL, mapL_eq g l]; rfl
theorem mapV_eq (g : Nat → Nat) (k i : Int) (f : Nat) (t : ByteArray) (l : List V) : mapV g (.mk k i f t l) = .mk k i (g f) t (l.map (mapV g)) := by rw [mapV, mapL_eq]
theorem mapV_text (g : Nat → Nat) (v : V) : (mapV g v).text = v.text := by cases v; rw [mapV]; rfl
/- No list in it is longer than a program's memory. -/
mutual
def V.fits : V → Prop
  | .mk _ _ _ _ l => l.length ≤ 2199023255488 ∧ V.fitsL l
def V.fitsL : List V → Prop
  | [] => True
  | x :: l => V.fits x ∧ V.fitsL l
end
theorem V.fitsL_mem : ∀ {l : List V} {x : V}, V.fitsL l → x ∈ l → x.fits
  | y :: l, x, h, hx => by
    rcases List.mem_cons.1 hx with rfl | hx
    · exact h.1
    · exact V.fitsL_mem h.2 hx
  | [], _, _, hx => by cases hx
theorem V.fitsL_of : ∀ {l : List V}, (∀ x ∈ l, x.fits) → V.fitsL l
  | [], _ => trivial
  | y :: l, h => ⟨h y (List.mem_cons_self ..), V.fitsL_of fun x hx => h x (List.mem_cons_of_mem _ hx)⟩
theorem V.fits_len {k i : Int} {f : Nat} {t : ByteArray} {l : List V} (h : (V.mk k i f t l).fits) : l.length ≤ 2199023255488 := h.1
theorem V.fits_mem {k i : Int} {f : Nat} {t : ByteArray} {l : List V} (h : (V.mk k i f t l).fits) {x : V} (hx : x ∈ l) : x.fits := V.fitsL_mem h.2 hx
theorem V.fits_of {k i : Int} {f : Nat} {t : ByteArray} {l : List V} (h : l.length ≤ 2199023255488) (hx : ∀ x ∈ l, x.fits) : (V.mk k i f t l).fits := ⟨h, V.fitsL_of hx⟩
mutual
theorem fits_map (g : Nat → Nat) : ∀ a : V, a.fits → (mapV g a).fits
  | .mk k i f t l, h => by
    rw [mapV]
    exact ⟨by rw [mapL_eq, List.length_map]; exact h.1, fitsL_map g l h.2⟩
theorem fitsL_map (g : Nat → Nat) : ∀ l : List V, V.fitsL l → V.fitsL (mapL g l)
  | [], _ => by rw [mapL]; trivial
  | x :: l, h => by
    rw [mapL]
    exact ⟨fits_map g x h.1, fitsL_map g l h.2⟩
end
end Go.Proofs.YtddmhilamoghcaaDoor
