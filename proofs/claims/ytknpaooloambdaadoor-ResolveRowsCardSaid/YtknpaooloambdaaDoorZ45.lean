/- Merged: AOpen9. -/
import Derived.Test.YtknpaooloambdaaDoorZ44
/- Arguments of types []string, api.Row, gabionlaw09.There. -/
set_option linter.unusedVariables false
set_option linter.unusedSimpArgs false
namespace Go.Proofs.YtknpaooloambdaaDoor
open Go.ChangeShapes Go.WideShapes Go.ChangeAt Go.RowKit
section
variable {H : Type} {enc : TypeId × Value → H} {W : World}
theorem open_names {A : Option Addr} {len cap : Nat} {d : DataW H} {p : List MemPlace} (h : DataW.Trod enc Tryd.prog W 0 (fun _ => true) true 40 (.slice A len cap) d p) (hl : Light Tryd.prog 40 d) : ∃ l : List ByteArray, VSim (gh0 W) (.sl false .none (encNs l)) (.slice A len cap) := by
  obtain ⟨n, hn⟩ := h
  obtain ⟨l, _, _, _, q3⟩ := open_slice_gen (fun s : ByteArray => [AV.s (.string s)]) (fun _ => True) Tryd.underlying40 (by kernel_rfl : Tryd.prog.cellsOf 9 = 1) (by decide) (by rw [show Tryd.prog.bytesOf 9 = 16 by kernel_rfl]; decide) (fun _ => rfl)
    (fun m' cs' y' hm h' hl' => by
      obtain ⟨t, e0, _, _⟩ := DataW.trod_string Tryd.underlying9 h'
      subst e0
      exact ⟨t, trivial, .s rfl rfl⟩) hn hl
  exact ⟨l, Reads.one q3⟩
theorem open_vals9 {m : Nat} {cs : List Value} {y : DataW H × List MemPlace} (h : DataW.trod enc Tryd.prog W 0 (fun _ => true) true m 23 cs = some y) (hl : Light Tryd.prog 23 y.1) : ∃ l : List V, (∀ v ∈ l, v.fits) ∧ Reads W [.sl false .none (encL false l)] cs := by
  obtain ⟨l, q1, q2, _, q3⟩ := open_slice_gen (encV false) V.fits Tryd.underlying23 (by kernel_rfl : Tryd.prog.cellsOf 25 = 5) (by decide) (by rw [show Tryd.prog.bytesOf 25 = 64 by kernel_rfl]; decide) (encV_len false)
    (fun m' cs' y' hm h' hl' => open_V m' cs' y' h' hl') h hl
  rw [← encL_eq] at q3
  exact ⟨l, q1, q3⟩
set_option maxRecDepth 20000 in
/-- An argument of type api.Row. -/
theorem open_row {a : Array Value} {d : DataW H} {p : List MemPlace} (h : DataW.Trod enc Tryd.prog W 0 (fun _ => true) true 45 (.agg a) d p) (hl : Light Tryd.prog 45 d) : ∃ l : List V, (∀ v ∈ l, v.fits) ∧ VSim (gh0 W) (.agg [.sl false .none (encL false l)]) (.agg a) := by
  obtain ⟨n, hn⟩ := h
  have hu := Tryd.underlying45
  obtain ⟨xs, m, rfl, hy, hlen, hxl, hf⟩ := DataW.trod_struct hu hn
  injection hy with e1 e2
  subst e1
  rw [show Tryd.prog.cellsOf 45 = 1 by kernel_rfl] at hlen
  match xs, hxl with
  | [y0], _ =>
  have l1 : Tryd.prog.cellsOf 23 = 1 := by kernel_rfl
  have f0 : DataW.trod enc Tryd.prog W 0 (fun _ => true) true m 23 (List.take (Tryd.prog.cellsOf 23) (List.drop 0 (Value.agg a).cells.toList)) = some y0 := hf 0 _ rfl
  rw [l1, List.drop_zero, List.take_of_length_le (by omega)] at f0
  obtain ⟨l, q1, q3⟩ := open_vals9 f0 (hl.field hu (j := 0) rfl (d := y0.1) rfl)
  exact ⟨l, q1, reads_agg q3 (.inl ⟨a, rfl⟩)⟩
set_option maxRecDepth 20000 in
/-- An argument of type There. -/
theorem open_there {A : Array Value} {d : DataW H} {p : List MemPlace} (h : DataW.Trod enc Tryd.prog W 0 (fun _ => true) true 58 (.agg A) d p) (hl : Light Tryd.prog 58 d) : ∃ (t : T) (v : V) (n : Int) (x : Nat), v.fits ∧ (-9223372036854775808 ≤ n ∧ n ≤ 9223372036854775807) ∧ x < 18446744073709551616 ∧
    VSim (gh0 W) (.agg [.s (.int .i64 t.kind), .sl false .none (encTL false t.of), .s (.int .i64 v.kind), .s (.int .i64 v.int), .s (.float .f64 v.float), .s (.string v.text), .sl false .none (encL false v.items), .s (.int .i64 n), .s (.float .f64 x)]) (.agg A) := by
  obtain ⟨n, hn⟩ := h
  have hu := Tryd.underlying58
  obtain ⟨xs, m, rfl, hy, hlen, hxl, hf⟩ := DataW.trod_struct hu hn
  injection hy with e1 e2
  subst e1
  rw [show Tryd.prog.cellsOf 58 = 9 by kernel_rfl] at hlen
  have hcs : (Value.agg A).cells.toList = A.toList := rfl
  rw [hcs] at hlen hf
  obtain ⟨cs⟩ := A
  match cs, hlen with
  | [c0, c1, c2, c3, c4, c5, c6, c7, c8], _ =>
  match xs, hxl with
  | [y0, y1, y2, y3], _ =>
  have l1 : Tryd.prog.cellsOf 31 = 2 := by kernel_rfl
  have l2 : Tryd.prog.cellsOf 25 = 5 := by kernel_rfl
  have l3 : Tryd.prog.cellsOf 2 = 1 := by kernel_rfl
  have l4 : Tryd.prog.cellsOf 22 = 1 := by kernel_rfl
  have f0 := hf 0 _ rfl
  have f1 := hf 1 _ rfl
  have f2 := hf 2 _ rfl
  have f3 := hf 3 _ rfl
  simp only [l1, l2, l3, l4, List.drop_succ_cons, List.drop_zero, List.take_succ_cons, List.take_zero, List.getElem?_cons_succ, List.getElem?_cons_zero] at f0 f1 f2 f3
  have h0 := hl.field hu (j := 0) rfl (d := y0.1) rfl
  have h1 := hl.field hu (j := 1) rfl (d := y1.1) rfl
  obtain ⟨t, g0, r0⟩ := open_T _ _ _ f0 h0
  obtain ⟨v, g1, r1⟩ := open_V _ _ _ f1 h1
  obtain ⟨k, e2, _, w2⟩ := DataW.trod_int Tryd.underlying2 f2
  obtain ⟨x, e3, _, w3⟩ := trod_float' Tryd.underlying22 f3
  have hx : x < 18446744073709551616 := by
    simp [Lit.wf, FloatKind.format] at w3
    omega
  have k2 := i64_of_wf w2
  cases e2
  cases e3
  refine ⟨t, v, k, x, g1, ⟨k2.1, by omega⟩, hx, ?_⟩
  rw [encT_eq] at r0
  rw [encV_eq] at r1
  exact reads_agg (r0.app (r1.app ((Reads.s rfl rfl).app (Reads.s rfl rfl)))) (.inl ⟨_, rfl⟩)
end
end Go.Proofs.YtknpaooloambdaaDoor
