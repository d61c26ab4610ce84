/- From plain data to the program: what is said of every world. -/
import Derived.Test.YtddmhilamoghcaaDoorAvmG
set_option linter.unusedVariables false
namespace Go.Proofs.YtddmhilamoghcaaDoor
open Go.RowKit
/-- What is known at the beginning: every old cell of one cell. -/
def gh0 (W : World) : Gh := ⟨fun b o => match W.cell? ⟨b, o, none⟩ with | some v => if oneV v = true then some v else none | none => none, [], [], W⟩
theorem gh0_K {W : World} {b o : Nat} {v : Value} : (gh0 W).K b o = some v ↔ W.cell? ⟨b, o, none⟩ = some v ∧ oneV v = true := by
  unfold gh0
  dsimp only
  constructor
  · intro h
    split at h
    · rename_i u hu
      split at h
      · rename_i h1
        obtain rfl := Option.some.inj h
        exact ⟨hu, h1⟩
      · cases h
    · cases h
  · rintro ⟨h1, h2⟩
    rw [h1]
    simp [h2]
theorem inv0 {W : World} (hT : WorldOk W) : Inv (gh0 W) ⟨[], []⟩ W where
  K b o v h := gh0_K.1 h
  bxlen := rfl
  bx i b cs h := by simp [gh0] at h
  bxK b h := by simp [gh0] at h
  bxnd := List.nodup_nil
  lnlen := rfl
  ln i L h := by simp [gh0] at h
  lnd i j L L' a a' h := by simp [gh0] at h
  kept := Kept.refl _
  ok := hT
theorem Gives.calls {P : Program} {f : FuncId} {args : List AV} {v : Value} {vs : List Value} {W : World} (h : Gives P f args (.s v)) (hT : WorldOk W) (ha : ASim (gh0 W) args vs) :
    Calls P f vs.toArray W fun e w' => e = .returned v ∧ Kept W w' := by
  refine (h ⟨[], []⟩ (gh0 W) W vs (inv0 hT) ha).mono ?_
  rintro e w' ⟨g', o, st', h1, h2, h3, rfl, rfl⟩
  have hk := h2.kept
  rw [h1.w0] at hk
  cases h3 with
  | ret _ x hx => cases hx; exact ⟨rfl, hk⟩
theorem asim_str {g : Gh} {s : ByteArray} {l : List AV} {vs : List Value} (h : ASim g l vs) : ASim g (.s (.string s) :: l) (.string s :: vs) := .cons (.s _ rfl) h
theorem asim_nil {g : Gh} : ASim g [] [] := .nil
end Go.Proofs.YtddmhilamoghcaaDoor
