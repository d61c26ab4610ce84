/- An argument of type api.Value is a value. -/
import Derived.Test.YtddmhilamoghcaaDoorOpenGen
import Derived.Test.YtddmhilamoghcaaDoorAVal
import Derived.Test.YtddmhilamoghcaaDoorMapPure
set_option linter.unusedVariables false
set_option linter.unusedSimpArgs false
namespace Go.Proofs.YtddmhilamoghcaaDoor
open Go.ChangeShapes Go.WideShapes Go.ChangeAt Go.RowKit
section
variable {H : Type} {enc : TypeId × Value → H} {W : World}
theorem open_V : ∀ (n : Nat) (cs : List Value) (y : DataW H × List MemPlace), DataW.trod enc Tryd.prog W 0 (fun _ => true) true n 25 cs = some y → Light Tryd.prog 25 y.1 → ∃ v : V, v.fits ∧ Reads W (encV false v) cs := by
  intro n
  induction n using Nat.strongRecOn with
  | ind n ih =>
  intro cs y h hl
  have hu := Tryd.underlying25
  obtain ⟨xs, m, rfl, rfl, hlen, hxl, hf⟩ := DataW.trod_struct hu h
  rw [show Tryd.prog.cellsOf 25 = 5 by kernel_rfl] at hlen
  match cs, hlen with
  | [c0, c1, c2, c3, c4], _ =>
  match xs, hxl with
  | [y0, y1, y2, y3, y4], _ =>
  have l1 : Tryd.prog.cellsOf 3 = 1 := by kernel_rfl
  have l2 : Tryd.prog.cellsOf 2 = 1 := by kernel_rfl
  have l3 : Tryd.prog.cellsOf 22 = 1 := by kernel_rfl
  have l4 : Tryd.prog.cellsOf 9 = 1 := by kernel_rfl
  have l5 : Tryd.prog.cellsOf 23 = 1 := by kernel_rfl
  have f0 := hf 0 _ rfl
  have f1 := hf 1 _ rfl
  have f2 := hf 2 _ rfl
  have f3 := hf 3 _ rfl
  have f4 := hf 4 _ rfl
  simp only [l1, l2, l3, l4, l5, List.drop_succ_cons, List.drop_zero, List.take_succ_cons, List.take_zero, List.getElem?_cons_succ, List.getElem?_cons_zero] at f0 f1 f2 f3 f4
  have h3 := hl.field hu (j := 3) rfl (d := y3.1) rfl
  have h4 := hl.field hu (j := 4) rfl (d := y4.1) rfl
  obtain ⟨k, e0, _, _⟩ := DataW.trod_int Tryd.underlying3 f0
  obtain ⟨i, e1, _, _⟩ := DataW.trod_int Tryd.underlying2 f1
  obtain ⟨f, e2, _⟩ := trod_float' Tryd.underlying22 f2
  obtain ⟨t, e3, _, _⟩ := DataW.trod_string Tryd.underlying9 f3
  obtain ⟨l, q1, q2, _, q3⟩ := open_slice_gen (encV false) V.fits Tryd.underlying23 (by kernel_rfl : Tryd.prog.cellsOf 25 = 5) (by decide) (by rw [show Tryd.prog.bytesOf 25 = 64 by kernel_rfl]; decide) (encV_len false)
    (fun m' cs' y' hm h' hl' => ih m' (by omega) cs' y' h' hl') f4 h4
  rw [show Tryd.prog.bytesOf 25 = 64 by kernel_rfl] at q2
  cases e0
  cases e1
  cases e2
  cases e3
  refine ⟨.mk k i f t l, V.fits_of (by omega) q1, ?_⟩
  rw [encV_eq, V.kind_mk, V.int_mk, V.float_mk, V.text_mk, V.items_mk, encL_eq]
  exact ((Reads.s rfl rfl).app (.app (.s rfl rfl) (.app (.s rfl rfl) (.app (.s rfl rfl) q3))))
/-- An argument. -/
theorem open_value {v : Value} {d : DataW H} {p : List MemPlace} (h : DataW.Trod enc Tryd.prog W 0 (fun _ => true) true 25 v d p) (hl : Light Tryd.prog 25 d) : ∃ x : V, x.fits ∧ VSim (gh0 W) (.agg (encV false x)) v := by
  obtain ⟨n, hn⟩ := h
  obtain ⟨x, h1, h2⟩ := open_V n _ _ hn hl
  refine ⟨x, h1, ?_⟩
  have h3 := h2.1
  rw [encV_len] at h3
  cases v with
  | agg a =>
    have := h2.agg
    simpa [Value.cells] using this
  | _ => exact absurd h3 (by simp [Value.cells])
end
end Go.Proofs.YtddmhilamoghcaaDoor
