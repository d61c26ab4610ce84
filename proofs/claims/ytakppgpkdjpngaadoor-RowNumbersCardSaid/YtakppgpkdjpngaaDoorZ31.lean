/- Merged: AOpen, TFit, AOpenS. -/
import Derived.Test.YtakppgpkdjpngaaDoorZ30
/- An argument of type api.Value is a value. -/
set_option linter.unusedVariables false
set_option linter.unusedSimpArgs false
namespace Go.Proofs.YtakppgpkdjpngaaDoor
open Go.ChangeShapes Go.WideShapes Go.ChangeAt Go.RowKit
section
variable {H : Type} {enc : TypeId × Value → H} {W : World}
set_option maxRecDepth 20000 in
theorem open_V : ∀ (n : Nat) (cs : List Value) (y : DataW H × List MemPlace), DataW.trod enc Tryd.prog W 0 (fun _ => true) true n 33 cs = some y → Light Tryd.prog 33 y.1 → ∃ v : V, v.fits ∧ Reads W (encV false v) cs := by
  intro n
  induction n using Nat.strongRecOn with
  | ind n ih =>
  intro cs y h hl
  have hu := Tryd.underlying33
  obtain ⟨xs, m, rfl, rfl, hlen, hxl, hf⟩ := DataW.trod_struct hu h
  rw [show Tryd.prog.cellsOf 33 = 5 by kernel_rfl] at hlen
  match cs, hlen with
  | [c0, c1, c2, c3, c4], _ =>
  match xs, hxl with
  | [y0, y1, y2, y3, y4], _ =>
  have l1 : Tryd.prog.cellsOf 3 = 1 := by kernel_rfl
  have l2 : Tryd.prog.cellsOf 2 = 1 := by kernel_rfl
  have l3 : Tryd.prog.cellsOf 29 = 1 := by kernel_rfl
  have l4 : Tryd.prog.cellsOf 9 = 1 := by kernel_rfl
  have l5 : Tryd.prog.cellsOf 31 = 1 := by kernel_rfl
  have f0 := hf 0 _ rfl
  have f1 := hf 1 _ rfl
  have f2 := hf 2 _ rfl
  have f3 := hf 3 _ rfl
  have f4 := hf 4 _ rfl
  simp only [l1, l2, l3, l4, l5, List.drop_succ_cons, List.drop_zero, List.take_succ_cons, List.take_zero, List.getElem?_cons_succ, List.getElem?_cons_zero] at f0 f1 f2 f3 f4
  have h3 := hl.field hu (j := 3) rfl (d := y3.1) rfl
  have h4 := hl.field hu (j := 4) rfl (d := y4.1) rfl
  obtain ⟨k, e0, _, w0⟩ := DataW.trod_int Tryd.underlying3 f0
  obtain ⟨i, e1, _, w1⟩ := DataW.trod_int Tryd.underlying2 f1
  obtain ⟨f, e2, _, w2⟩ := trod_float' Tryd.underlying29 f2
  obtain ⟨t, e3, et, _⟩ := DataW.trod_string Tryd.underlying9 f3
  obtain ⟨l, q1, q2, _, q3⟩ := open_slice_gen (encV false) V.fits Tryd.underlying31 (by kernel_rfl : Tryd.prog.cellsOf 33 = 5) (by decide) (by rw [show Tryd.prog.bytesOf 33 = 64 by kernel_rfl]; decide) (encV_len false)
    (fun m' cs' y' hm h' hl' => ih m' (by omega) cs' y' h' hl') f4 h4
  rw [show Tryd.prog.bytesOf 33 = 64 by kernel_rfl] at q2
  have ts : t.size ≤ 140737488351232 := by
    have := h3 t.data.toList.length (by rw [et]; simp [DataW.weights])
    have h9 : reachBytes = 140737488351232 := rfl
    have e : t.data.toList.length = t.size := Array.length_toList
    omega
  have w2' : f < 18446744073709551616 := by
    simp [Lit.wf, FloatKind.format] at w2
    omega
  have k0 := i64_of_wf w0
  have k1 := i64_of_wf w1
  cases e0
  cases e1
  cases e2
  cases e3
  refine ⟨.mk k i f t l, V.fits_of ⟨by omega, k0, k1, w2', ts⟩ q1, ?_⟩
  rw [encV_eq, V.kind_mk, V.int_mk, V.float_mk, V.text_mk, V.items_mk, encL_eq]
  exact ((Reads.s rfl rfl).app (.app (.s rfl rfl) (.app (.s rfl rfl) (.app (.s rfl rfl) q3))))
/-- An argument. -/
theorem open_value {v : Value} {d : DataW H} {p : List MemPlace} (h : DataW.Trod enc Tryd.prog W 0 (fun _ => true) true 33 v d p) (hl : Light Tryd.prog 33 d) : ∃ x : V, x.fits ∧ VSim (gh0 W) (.agg (encV false x)) v := by
  obtain ⟨n, hn⟩ := h
  obtain ⟨x, h1, h2⟩ := open_V n _ _ hn hl
  refine ⟨x, h1, ?_⟩
  have h3 := h2.1
  rw [encV_len] at h3
  cases v with
  | agg a =>
    have := h2.agg
    simpa [Value.cells] using this
  | _ => exact absurd h3 (by simp [Value.cells])
end
end Go.Proofs.YtakppgpkdjpngaaDoor
/- Types and columns that may lie in a program's memory. No program. -/
set_option linter.unusedVariables false
namespace Go.Proofs.YtakppgpkdjpngaaDoor
open Go
mutual
def T.fits : T → Prop
  | .mk k l => (inI k ∧ l.length ≤ 4398046510976) ∧ T.fitsL l
def T.fitsL : List T → Prop
  | [] => True
  | x :: l => T.fits x ∧ T.fitsL l
end
theorem T.fitsL_mem : ∀ {l : List T} {x : T}, T.fitsL l → x ∈ l → x.fits
  | y :: l, x, h, hx => by
    rcases List.mem_cons.1 hx with rfl | hx
    · exact h.1
    · exact T.fitsL_mem h.2 hx
  | [], _, _, hx => by cases hx
theorem T.fitsL_of : ∀ {l : List T}, (∀ x ∈ l, x.fits) → T.fitsL l
  | [], _ => trivial
  | y :: l, h => ⟨h y (List.mem_cons_self ..), T.fitsL_of fun x hx => h x (List.mem_cons_of_mem _ hx)⟩
theorem T.fits_len {k : Int} {l : List T} (h : (T.mk k l).fits) : l.length ≤ 4398046510976 := h.1.2
theorem T.fits_mem {k : Int} {l : List T} (h : (T.mk k l).fits) {x : T} (hx : x ∈ l) : x.fits := T.fitsL_mem h.2 hx
theorem T.fits_of {k : Int} {l : List T} (h : inI k ∧ l.length ≤ 4398046510976) (hx : ∀ x ∈ l, x.fits) : (T.mk k l).fits := ⟨h, T.fitsL_of hx⟩
structure C.lies (c : C) : Prop where
  fit : c.fits
  ty : c.ty.fits
structure fitsCL (l : List C) : Prop where
  len : l.length ≤ 1172812402926
  all : ∀ c ∈ l, c.lies
theorem fitsCL.fit {l : List C} (h : fitsCL l) : ∀ c ∈ l, c.fits := fun c hc => (h.all c hc).fit
end Go.Proofs.YtakppgpkdjpngaaDoor
/- Arguments of types []byte, api.Type, api.Schema. -/
set_option linter.unusedVariables false
set_option linter.unusedSimpArgs false
namespace Go.Proofs.YtakppgpkdjpngaaDoor
open Go.ChangeShapes Go.WideShapes Go.ChangeAt Go.RowKit
section
variable {H : Type} {enc : TypeId × Value → H} {W : World}
/-- What lies in one cell is a value of its own. -/
theorem reads_agg {l : List AV} {v : Value} (h : Reads W l v.cells.toList) (hv : (∃ a, v = .agg a) ∨ l.length ≠ 1) : VSim (gh0 W) (.agg l) v := by
  have h3 := h.1
  cases v with
  | agg a =>
    have := h.agg
    simpa [Value.cells] using this
  | _ =>
    rcases hv with ⟨a, ha⟩ | hv
    · cases ha
    · exact absurd h3 (by simp [Value.cells]; omega)
theorem open_byte {m : Nat} {cs : List Value} {y : DataW H × List MemPlace} (h : DataW.trod enc Tryd.prog W 0 (fun _ => true) true m 5 cs = some y) : ∃ c : UInt8, True ∧ Reads W [.s (.int .u8 c.toNat)] cs := by
  obtain ⟨k, e0, _, w0⟩ := DataW.trod_int Tryd.underlying5 h
  subst e0
  have hk : 0 ≤ k ∧ k < 256 := by
    simp [Lit.wf, IntKind.min, IntKind.max, IntKind.signed, IntKind.bits] at w0
    omega
  refine ⟨UInt8.ofNat k.toNat, trivial, ?_⟩
  have : ((UInt8.ofNat k.toNat).toNat : Int) = k := by simp; omega
  rw [this]
  exact .s rfl rfl
theorem open_byteS {A : Option Addr} {len cap : Nat} {d : DataW H} {p : List MemPlace} (h : DataW.Trod enc Tryd.prog W 0 (fun _ => true) true 25 (.slice A len cap) d p) (hl : Light Tryd.prog 25 d) : ∃ l : List UInt8, l.length ≤ 140737488351232 ∧ VSim (gh0 W) (.sl false .none (encB l)) (.slice A len cap) := by
  obtain ⟨n, hn⟩ := h
  obtain ⟨l, _, q2, _, q3⟩ := open_slice_gen (fun c : UInt8 => [AV.s (.int .u8 c.toNat)]) (fun _ => True) Tryd.underlying25 (by kernel_rfl : Tryd.prog.cellsOf 5 = 1) (by decide) (by rw [show Tryd.prog.bytesOf 5 = 1 by kernel_rfl]; decide) (fun _ => rfl)
    (fun m' cs' y' hm h' hl' => open_byte h') hn hl
  rw [show Tryd.prog.bytesOf 5 = 1 by kernel_rfl] at q2
  exact ⟨l, by omega, Reads.one q3⟩
set_option maxRecDepth 20000 in
theorem open_T : ∀ (n : Nat) (cs : List Value) (y : DataW H × List MemPlace), DataW.trod enc Tryd.prog W 0 (fun _ => true) true n 24 cs = some y → Light Tryd.prog 24 y.1 → ∃ v : T, v.fits ∧ Reads W (encT false v) cs := by
  intro n
  induction n using Nat.strongRecOn with
  | ind n ih =>
  intro cs y h hl
  have hu := Tryd.underlying24
  obtain ⟨xs, m, rfl, rfl, hlen, hxl, hf⟩ := DataW.trod_struct hu h
  rw [show Tryd.prog.cellsOf 24 = 2 by kernel_rfl] at hlen
  match cs, hlen with
  | [c0, c1], _ =>
  match xs, hxl with
  | [y0, y1], _ =>
  have l1 : Tryd.prog.cellsOf 3 = 1 := by kernel_rfl
  have l2 : Tryd.prog.cellsOf 22 = 1 := by kernel_rfl
  have f0 := hf 0 _ rfl
  have f1 := hf 1 _ rfl
  simp only [l1, l2, List.drop_succ_cons, List.drop_zero, List.take_succ_cons, List.take_zero, List.getElem?_cons_succ, List.getElem?_cons_zero] at f0 f1
  have h1 := hl.field hu (j := 1) rfl (d := y1.1) rfl
  obtain ⟨k, e0, _, w0⟩ := DataW.trod_int Tryd.underlying3 f0
  obtain ⟨l, q1, q2, _, q3⟩ := open_slice_gen (encT false) T.fits Tryd.underlying22 (by kernel_rfl : Tryd.prog.cellsOf 24 = 2) (by decide) (by rw [show Tryd.prog.bytesOf 24 = 32 by kernel_rfl]; decide) (encT_len false)
    (fun m' cs' y' hm h' hl' => ih m' (by omega) cs' y' h' hl') f1 h1
  rw [show Tryd.prog.bytesOf 24 = 32 by kernel_rfl] at q2
  have k0 := i64_of_wf w0
  cases e0
  refine ⟨.mk k l, T.fits_of ⟨k0, by omega⟩ q1, ?_⟩
  rw [encT_eq, T.kind_mk, T.of_mk, encTL_eq]
  exact (Reads.s rfl rfl).app q3
set_option maxRecDepth 20000 in
theorem open_C (n : Nat) (cs : List Value) (y : DataW H × List MemPlace) (h : DataW.trod enc Tryd.prog W 0 (fun _ => true) true n 69 cs = some y) (hl : Light Tryd.prog 69 y.1) : ∃ c : C, c.lies ∧ Reads W (encC false c) cs := by
  have hu := Tryd.underlying69
  obtain ⟨xs, m, rfl, rfl, hlen, hxl, hf⟩ := DataW.trod_struct hu h
  rw [show Tryd.prog.cellsOf 69 = 9 by kernel_rfl] at hlen
  match cs, hlen with
  | [c0, c1, c2, c3, c4, c5, c6, c7, c8], _ =>
  match xs, hxl with
  | [y0, y1, y2, y3], _ =>
  have l1 : Tryd.prog.cellsOf 9 = 1 := by kernel_rfl
  have l2 : Tryd.prog.cellsOf 24 = 2 := by kernel_rfl
  have l3 : Tryd.prog.cellsOf 4 = 1 := by kernel_rfl
  have l4 : Tryd.prog.cellsOf 33 = 5 := by kernel_rfl
  have f0 := hf 0 _ rfl
  have f1 := hf 1 _ rfl
  have f2 := hf 2 _ rfl
  have f3 := hf 3 _ rfl
  simp only [l1, l2, l3, l4, List.drop_succ_cons, List.drop_zero, List.take_succ_cons, List.take_zero, List.getElem?_cons_succ, List.getElem?_cons_zero] at f0 f1 f2 f3
  have h0 := hl.field hu (j := 0) rfl (d := y0.1) rfl
  have h1 := hl.field hu (j := 1) rfl (d := y1.1) rfl
  have h3 := hl.field hu (j := 3) rfl (d := y3.1) rfl
  obtain ⟨t, e0, et, _⟩ := DataW.trod_string Tryd.underlying9 f0
  obtain ⟨b, e2, _⟩ := trod_bool' Tryd.underlying4 f2
  obtain ⟨ty, g1, r1⟩ := open_T _ _ _ f1 h1
  obtain ⟨v, g3, r3⟩ := open_V _ _ _ f3 h3
  have ts : t.size ≤ 140737488351232 := by
    have := h0 t.data.toList.length (by rw [et]; simp [DataW.weights])
    have h9 : reachBytes = 140737488351232 := rfl
    have e : t.data.toList.length = t.size := Array.length_toList
    omega
  cases e0
  cases e2
  refine ⟨⟨t, ty, b, v⟩, ⟨⟨g3, ts, ?_⟩, g1⟩, ?_⟩
  · obtain ⟨k, l⟩ := ty
    exact g1.1.1
  · rw [encT_eq] at r1
    rw [encV_eq] at r3
    exact ((Reads.s rfl rfl).app (r1.app ((Reads.s rfl rfl).app r3)))
/-- An argument of type api.Type. -/
theorem open_type {v : Value} {d : DataW H} {p : List MemPlace} (h : DataW.Trod enc Tryd.prog W 0 (fun _ => true) true 24 v d p) (hl : Light Tryd.prog 24 d) : ∃ x : T, x.fits ∧ VSim (gh0 W) (.agg (encT false x)) v := by
  obtain ⟨n, hn⟩ := h
  obtain ⟨x, h1, h2⟩ := open_T n _ _ hn hl
  exact ⟨x, h1, reads_agg h2 (.inr (by rw [encT_len]; decide))⟩
set_option maxRecDepth 20000 in
/-- An argument of type api.Schema. -/
theorem open_schema {a : Array Value} {d : DataW H} {p : List MemPlace} (h : DataW.Trod enc Tryd.prog W 0 (fun _ => true) true 39 (.agg a) d p) (hl : Light Tryd.prog 39 d) : ∃ l : List C, fitsCL l ∧ VSim (gh0 W) (.agg [.sl false .none (encCL false l)]) (.agg a) := by
  obtain ⟨n, hn⟩ := h
  have hu := Tryd.underlying39
  obtain ⟨xs, m, rfl, hy, hlen, hxl, hf⟩ := DataW.trod_struct hu hn
  injection hy with e1 e2
  subst e1
  rw [show Tryd.prog.cellsOf 39 = 1 by kernel_rfl] at hlen
  match xs, hxl with
  | [y0], _ =>
  have l1 : Tryd.prog.cellsOf 37 = 1 := by kernel_rfl
  have f0 : DataW.trod enc Tryd.prog W 0 (fun _ => true) true m 37 (List.take (Tryd.prog.cellsOf 37) (List.drop 0 (Value.agg a).cells.toList)) = some y0 := hf 0 _ rfl
  rw [l1, List.drop_zero, List.take_of_length_le (by omega)] at f0
  have h0 := hl.field hu (j := 0) rfl (d := y0.1) rfl
  obtain ⟨l, q1, q2, _, q3⟩ := open_slice_gen (encC false) C.lies Tryd.underlying37 (by kernel_rfl : Tryd.prog.cellsOf 69 = 9) (by decide) (by rw [show Tryd.prog.bytesOf 69 = 120 by kernel_rfl]; decide) (encC_len false)
    (fun m' cs' y' hm h' hl' => open_C m' cs' y' h' hl') f0 h0
  rw [show Tryd.prog.bytesOf 69 = 120 by kernel_rfl] at q2
  refine ⟨l, ⟨by omega, q1⟩, ?_⟩
  exact reads_agg q3 (.inl ⟨a, rfl⟩)
end
end Go.Proofs.YtakppgpkdjpngaaDoor
