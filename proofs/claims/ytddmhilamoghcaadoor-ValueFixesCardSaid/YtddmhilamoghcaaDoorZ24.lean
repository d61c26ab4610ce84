/- Merged: AFixes, OpenGen, AOpen. -/
import Derived.Test.YtddmhilamoghcaaDoorZ23
import Derived.ProofKit
import Derived.OpenShut
import Derived.SizedLaws
import Derived.Laws.Cover2
/- Laws of layer 06: what was fixed is the caller's own. -/
set_option linter.unusedVariables false
set_option linter.unusedSimpArgs false
namespace Go.Proofs.YtddmhilamoghcaaDoor
open Go.RowKit
attribute [local go_sem] run_store_fl
def GSpo (f : FuncId) (n : Nat) : Prop := ∀ (g : Gh) (hi : Nat) (v : V), v.rank < n → Under g.K hi → ∀ (W : World) (k i : Int) (fl : Nat) (t : ByteArray) (A : Option Addr) (m c : Nat), hi ≤ W.heap.size → Cur g v.items A m c → Spo g.K g.base W →
  Calls Tryd.prog f #[.agg #[.int .i64 k, .int .i64 i, .float .f64 fl, .string t, .slice A m c]] W fun e W' => e = .returned (.tuple #[]) ∧ Spo g.K g.base W' ∧ Beside g.base hi W W'
set_option maxRecDepth 20000 in
set_option maxHeartbeats 4000000 in
theorem u_spoil_step (n : Nat) (hn : GSpo 17 n) : GSpo 17 (n + 1) := by
  intro g hi v hv hu W k i fl t A m c hh hc hs
  have hr : ∀ x ∈ v.items, x.rank < n := fun x hx => by
    have := V.rank_lt hx
    have := V.rank_eq v
    omega
  have hle := hc.len
  go_enter Tryd.func17, Tryd.ntmps17
  have ka := (Kept.refl W).alloc (.cells #[.int .i64 k, .int .i64 i, .float .f64 fl, .string t, .slice A m c] 25)
  have hw := heap_alloc_new W (.cells #[.int .i64 k, .int .i64 i, .float .f64 fl, .string t, .slice A m c] 25)
  go_wp2_with fail
  go_loopw [2] (fun u wr => ∃ j : Nat, u = .int .i64 j ∧ j ≤ m ∧ Spo g.K g.base wr ∧ Beside g.base hi W wr ∧ wr.heap[W.heap.size]? = some (.cells #[.int .i64 k, .int .i64 i, .float .f64 fl, .string t, .slice A m c] 25)) (fun u _ => m - (intOf u).toNat)
  case atStart => exact ⟨0, rfl, Nat.zero_le _, hs.kept ka, .of ka, hw⟩
  case round =>
    obtain ⟨j, rfl, hj, r1, r2, r3⟩ := hrel
    have d4 := cells_cell r3 4
    by_cases hlt : j < m
    · obtain ⟨ad, x, k', i', f', t', B, m', d, rfl, hx, hb, c0, c1, c2, c3, c4, hc', v0, hv0⟩ := hc.at_ r1 hlt
      have i0 : (0 : Int) ≤ (j : Int) := by omega
      have i1 : (j : Int) < (m : Int) := by omega
      go_wp2_with fail
      have hsz := r2.size
      refine (hn g hi x (hr x (List.mem_of_getElem? hx)) hu wr k' i' f' t' B m' d (by omega) hc' r1).mono ?_
      rintro e w1 ⟨rfl, q1, q2⟩
      clear c0 c1 c2 c3 c4
      obtain ⟨ad', x2, k2, i2, f2, t2, B2, m2, d2, e2, _, _, c0, c1, c2, c3, c4, _⟩ := hc.at_ q1 hlt
      obtain rfl := Option.some.inj e2
      obtain ⟨z0, z1, z2, z3, z4⟩ := hc.thaw q1 hlt rfl
      have hwlt : W.heap.size < wr.heap.size := (Array.getElem?_eq_some_iff.1 r3).1
      have r3' := (q2.block _ hh hwlt).trans r3
      have d4' := cells_cell r3' 4
      obtain ⟨n1, n2, n3, n4⟩ := five_cells c1 c2 c3 c4
      go_wp2_with fail
      go_roundw
      case rel =>
        have hbh : ad.block < hi := by have := hu _ _ _ hv0; exact this
        have hbk : (ad.add (j * 5)).block = ad.block := add_block ..
        exact ⟨j + 1, by go_num, by omega, hc.five q1 hlt rfl 77 0 0 ⟨#[64]⟩, (r2.trans q2).five (by rw [hbk]; exact hb) (by rw [hbk]; exact hbh) _ _ _ _ _, (five_block (by rw [hbk]; omega)).trans r3'⟩
      case measure => simp [intOf]; omega
    · have i1 : ¬ ((j : Int) < (m : Int)) := by omega
      go_wp2_with fail
      exact bodyPost_end (v := .tuple #[]) (by simp [results, Tryd.results17]) rfl ⟨rfl, r1, r2⟩
theorem u_spoilN : ∀ n, GSpo 17 n
  | 0 => fun g hi v h => absurd h (Nat.not_lt_zero _)
  | n + 1 => u_spoil_step n (u_spoilN n)
theorem u_spoil {g : Gh} {hi : Nat} (v : V) (hu : Under g.K hi) {W : World} {k i : Int} {fl : Nat} {t : ByteArray} {A : Option Addr} {m c : Nat} (hh : hi ≤ W.heap.size) (hc : VSim g (.sl true .none (encL true v.items)) (.slice A m c)) (hs : Spo g.K g.base W) :
    Calls Tryd.prog 17 #[.agg #[.int .i64 k, .int .i64 i, .float .f64 fl, .string t, .slice A m c]] W fun e W' => e = .returned (.tuple #[]) ∧ Spo g.K g.base W' ∧ Beside g.base hi W W' :=
  u_spoilN _ g hi v (Nat.lt_succ_self _) hu W k i fl t A m c hh (.inl hc) hs
set_option maxRecDepth 20000 in
set_option maxHeartbeats 4000000 in
theorem l_ValueFixes {v : V} (z : v.fits) {x : Value} {W : World} (hT : WorldOk W) (m0 : VSim (gh0 W) (.agg (encV false v)) x) : Calls Tryd.prog 5 #[x] W fun e W' => e = .returned (.bool true) ∧ Kept W W' := by
  have hn := noOwn_V v
  have hn2 := noOwn_V (mapV fixB v)
  obtain ⟨A, c, rfl, _, _⟩ := m0.val_
  go_enter Tryd.func5, Tryd.ntmps5
  have gV := heap_alloc_new W (.cells #[.int .i64 (v).kind, .int .i64 (v).int, .float .f64 (v).float, .string (v).text, .slice A (v).items.length c] 25)
  have jV := (Kept.refl W).alloc (.cells #[.int .i64 (v).kind, .int .i64 (v).int, .float .f64 (v).float, .string (v).text, .slice A (v).items.length c] 25)
  obtain ⟨cV0, cV1, cV2, cV3, cV4⟩ := box_cells gV
  go_wp2_with fail
  clear cV0 cV1 cV2 cV3 cV4
  refine ((g_copied v false z).callsA (hT.kept jV) (.cons (m0.kept0 hn jV) .nil)).mono ?_
  rintro e w1 ⟨k1, x1, K1, rfl, a1⟩
  obtain ⟨A1, q1, rfl, _, _⟩ := a1.sim.val_
  replace gV := kept_box gV k1
  have gI := heap_alloc_new w1 (.cells #[.int .i64 (v).kind, .int .i64 (v).int, .float .f64 (v).float, .string (v).text, .slice A1 (v).items.length q1] 25)
  have jI := (Kept.refl w1).alloc (.cells #[.int .i64 (v).kind, .int .i64 (v).int, .float .f64 (v).float, .string (v).text, .slice A1 (v).items.length q1] 25)
  replace gV := kept_box gV jI
  have h1 := jV.trans (k1.trans jI)
  obtain ⟨cV0, cV1, cV2, cV3, cV4⟩ := box_cells gV
  go_wp2_with fail
  clear cV0 cV1 cV2 cV3 cV4
  refine ((g_FixV v false z).callsA (hT.kept h1) (.cons (m0.kept0 hn h1) .nil)).mono ?_
  rintro e w2 ⟨k2, x2, K2, rfl, a2⟩
  obtain ⟨B, d, rfl, _, m2⟩ := a2.sim.val_
  replace gV := kept_box gV k2
  replace gI := kept_box gI k2
  have gW := heap_alloc_new w2 (.cells #[.int .i64 ((mapV fixB v)).kind, .int .i64 ((mapV fixB v)).int, .float .f64 ((mapV fixB v)).float, .string ((mapV fixB v)).text, .slice B ((mapV fixB v)).items.length d] 25)
  have jW := (Kept.refl w2).alloc (.cells #[.int .i64 ((mapV fixB v)).kind, .int .i64 ((mapV fixB v)).int, .float .f64 ((mapV fixB v)).float, .string ((mapV fixB v)).text, .slice B ((mapV fixB v)).items.length d] 25)
  replace gV := kept_box gV jW
  replace gI := kept_box gI jW
  have h2 := k2.trans jW
  obtain ⟨cI0, cI1, cI2, cI3, cI4⟩ := box_cells gI
  go_wp2_with fail
  clear cI0 cI1 cI2 cI3 cI4
  refine ((g_rFixV v false z).callsA (hT.kept (h1.trans h2)) (.cons (a1.kept (wk_freeV v) hn (jI.trans h2)) .nil)).mono ?_
  rintro e w3 ⟨k3, x3, K3, rfl, a3⟩
  obtain ⟨B3, d3, rfl, _, _⟩ := a3.sim.val_
  replace gV := kept_box gV k3
  replace gI := kept_box gI k3
  replace gW := kept_box gW k3
  have gR := heap_alloc_new w3 (.cells #[.int .i64 ((mapV fixB v)).kind, .int .i64 ((mapV fixB v)).int, .float .f64 ((mapV fixB v)).float, .string ((mapV fixB v)).text, .slice B3 ((mapV fixB v)).items.length d3] 25)
  have jR := (Kept.refl w3).alloc (.cells #[.int .i64 ((mapV fixB v)).kind, .int .i64 ((mapV fixB v)).int, .float .f64 ((mapV fixB v)).float, .string ((mapV fixB v)).text, .slice B3 ((mapV fixB v)).items.length d3] 25)
  replace gV := kept_box gV jR
  replace gI := kept_box gI jR
  replace gW := kept_box gW jR
  have h3 := k3.trans jR
  have c0 := g_exact (mapV fixB v) (mapV fixB v) false false
  rw [exV_refl'] at c0
  obtain ⟨cW0, cW1, cW2, cW3, cW4⟩ := box_cells gW
  obtain ⟨cR0, cR1, cR2, cR3, cR4⟩ := box_cells gR
  go_wp2_with fail
  clear cW0 cW1 cW2 cW3 cW4 cR0 cR1 cR2 cR3 cR4
  refine (c0.calls (hT.kept ((h1.trans h2).trans h3)) (.cons (a2.kept (wk_freeV _) hn2 (jW.trans h3)) (.cons (a3.kept (wk_freeV _) hn2 jR) .nil))).mono ?_
  rintro e w4 ⟨rfl, k4⟩
  replace gV := kept_box gV k4
  replace gI := kept_box gI k4
  replace gW := kept_box gW k4
  replace gR := kept_box gR k4
  obtain ⟨cW0, cW1, cW2, cW3, cW4⟩ := box_cells gW
  go_wp2_with fail
  clear cW0 cW1 cW2 cW3 cW4
  have s4 := (Spo.start a2.hK a2.hN).kept ((jW.trans h3).trans k4)
  have u4 := Under.of a2.hK
  have z2 := (jW.trans h3).trans k4
  have z3 := (h2.trans h3).trans k4
  refine (u_spoil (mapV fixB v) u4 z2.size m2 s4).mono ?_
  rintro e w5 ⟨rfl, _, hb⟩
  have K15 := hb.kept _ (Nat.le_refl _) z3
  have K05 := h1.trans K15
  have m3 := a3.own (allOwn_V _) (wk_freeV _) hn2 (fun b h1 h2 => (hb.block b (Nat.le_trans jW.size h1) (Nat.lt_of_lt_of_le h2 (jR.trans k4).size)).trans ((jR.trans k4).block b h2))
  have hV5 := hb.block
  replace gR := (hb.block _ (Nat.le_trans jW.size k3.size) (Array.getElem?_eq_some_iff.1 gR).1).trans gR
  clear gW gV gI
  have gV := kept_box (kept_box (kept_box (heap_alloc_new W (.cells #[.int .i64 (v).kind, .int .i64 (v).int, .float .f64 (v).float, .string (v).text, .slice A (v).items.length c] 25)) k1) jI) K15
  have gI := kept_box (heap_alloc_new w1 (.cells #[.int .i64 (v).kind, .int .i64 (v).int, .float .f64 (v).float, .string (v).text, .slice A1 (v).items.length q1] 25)) K15
  obtain ⟨cV0, cV1, cV2, cV3, cV4⟩ := box_cells gV
  go_wp2_with fail
  clear cV0 cV1 cV2 cV3 cV4
  refine ((g_FixV v false z).callsA (hT.kept K05) (.cons (m0.kept0 hn K05) .nil)).mono ?_
  rintro e w6 ⟨k6, x6, K6, rfl, a6⟩
  obtain ⟨B6, d6, rfl, _, _⟩ := a6.sim.val_
  replace gV := kept_box gV k6
  replace gI := kept_box gI k6
  replace gR := kept_box gR k6
  have gN := heap_alloc_new w6 (.cells #[.int .i64 ((mapV fixB v)).kind, .int .i64 ((mapV fixB v)).int, .float .f64 ((mapV fixB v)).float, .string ((mapV fixB v)).text, .slice B6 ((mapV fixB v)).items.length d6] 25)
  have jN := (Kept.refl w6).alloc (.cells #[.int .i64 ((mapV fixB v)).kind, .int .i64 ((mapV fixB v)).int, .float .f64 ((mapV fixB v)).float, .string ((mapV fixB v)).text, .slice B6 ((mapV fixB v)).items.length d6] 25)
  replace gV := kept_box gV jN
  replace gI := kept_box gI jN
  replace gR := kept_box gR jN
  have h6 := k6.trans jN
  go_wp2_with fail
  refine (g_live.calls (hT.kept (K05.trans h6)) .nil).mono ?_
  rintro e w7 ⟨rfl, k7⟩
  replace gV := kept_box gV k7
  replace gI := kept_box gI k7
  replace gR := kept_box gR k7
  replace gN := kept_box gN k7
  have c1 := g_exact v v false false
  rw [exV_refl'] at c1
  obtain ⟨cV0, cV1, cV2, cV3, cV4⟩ := box_cells gV
  obtain ⟨cI0, cI1, cI2, cI3, cI4⟩ := box_cells gI
  go_wp2_with fail
  clear cV0 cV1 cV2 cV3 cV4 cI0 cI1 cI2 cI3 cI4
  refine (c1.calls (hT.kept ((K05.trans h6).trans k7)) (.cons (m0.kept0 hn ((K05.trans h6).trans k7)) (.cons (a1.kept (wk_freeV v) hn (jI.trans ((K15.trans h6).trans k7))) .nil))).mono ?_
  rintro e w8 ⟨rfl, k8⟩
  replace gV := kept_box gV k8
  replace gI := kept_box gI k8
  replace gR := kept_box gR k8
  replace gN := kept_box gN k8
  obtain ⟨cR0, cR1, cR2, cR3, cR4⟩ := box_cells gR
  obtain ⟨cN0, cN1, cN2, cN3, cN4⟩ := box_cells gN
  go_wp2_with fail
  clear cR0 cR1 cR2 cR3 cR4 cN0 cN1 cN2 cN3 cN4
  refine (c0.calls (hT.kept (((K05.trans h6).trans k7).trans k8)) (.cons (a6.kept (wk_freeV _) hn2 (jN.trans (k7.trans k8))) (.cons (m3.kept0 hn2 ((h6.trans k7).trans k8)) .nil))).mono ?_
  rintro e w9 ⟨rfl, k9⟩
  go_wp2_with fail
  go_ret
  exact ⟨rfl, (((K05.trans h6).trans k7).trans k8).trans k9⟩
end Go.Proofs.YtddmhilamoghcaaDoor
/- From a row's data to plain data: scalars, slices and structs that came in. No program beside the given type facts. -/
set_option linter.unusedVariables false
set_option linter.unusedSimpArgs false
namespace Go.Proofs.YtddmhilamoghcaaDoor
open Go.ChangeShapes Go.WideShapes Go.ChangeAt Go.RowKit
section
variable {H : Type} {enc : TypeId × Value → H} {W : World} {P : Program}
/-- Every weight in it is within the form's reach. -/
def Light (P : Program) (t : TypeId) (d : DataW H) : Prop := ∀ n ∈ d.weights P t, n ≤ reachBytes
theorem light_at {ts : List TypeId} {ds : List (DataW H)} (h : (DataW.weightsEach P ts ds).all (· ≤ reachBytes) = true) {j : Nat} {t : TypeId} {d : DataW H} (ht : ts[j]? = some t) (hd : ds[j]? = some d) : Light P t d := fun n hn => by
  have := List.all_eq_true.1 h _ (DataW.weights_mem_each ht hd n hn)
  simpa using this
theorem weightsAll_mem {e : TypeId} : ∀ {l : List (DataW H)} {d : DataW H}, d ∈ l → ∀ n ∈ d.weights P e, n ∈ DataW.weightsAll P e l
  | x :: l, d, h, n, hn => by
    simp only [DataW.weightsAll, List.mem_append]
    rcases List.mem_cons.1 h with rfl | h
    · exact .inl hn
    · exact .inr (weightsAll_mem h n hn)
  | [], _, h, _, _ => by cases h
theorem Light.field {t : TypeId} {fs : Array Field} {ds : List (DataW H)} (hu : P.underlying t = some (.struct fs)) (h : Light P t (.agg ds)) {j : Nat} {f : Field} {d : DataW H} (hf : fs[j]? = some f) (hd : ds[j]? = some d) : Light P f.type d := fun n hn => by
  refine h n ?_
  simp only [DataW.weights, hu]
  exact DataW.weights_mem_each (j := j) (by simp [hf]) hd n hn
theorem Light.elem {t e : TypeId} {es sp : List (DataW H)} (hu : P.underlying t = some (.slice e)) (h : Light P t (.slice es sp)) {d : DataW H} (hd : d ∈ es) : Light P e d := fun n hn => by
  refine h n ?_
  simp only [DataW.weights, hu, List.mem_cons, List.mem_append]
  exact .inr (.inl (weightsAll_mem hd n hn))
theorem Light.len {t e : TypeId} {es sp : List (DataW H)} (hu : P.underlying t = some (.slice e)) (h : Light P t (.slice es sp)) : es.length * P.bytesOf e ≤ 140737488351232 := by
  have := h ((es.length + sp.length) * P.bytesOf e) (by simp [DataW.weights, hu])
  have h2 : es.length * P.bytesOf e ≤ (es.length + sp.length) * P.bytesOf e := Nat.mul_le_mul_right _ (by omega)
  have h3 : reachBytes = 140737488351232 := rfl
  omega

/-- Cells that read as plain data, in a world at the beginning. -/
def Reads (W : World) (l : List AV) (cs : List Value) : Prop := cs.length = l.length ∧ ∀ (i : Nat) x, l[i]? = some x → x.one = true ∧ x.dat0 = true ∧ oneV (cs.getD i undef) = true ∧ VSim (gh0 W) x (cs.getD i undef)
theorem Reads.nil : Reads W [] [] := ⟨rfl, fun i x h => by simp at h⟩
theorem Reads.app {l m : List AV} {cs ds : List Value} (h : Reads W l cs) (h' : Reads W m ds) : Reads W (l ++ m) (cs ++ ds) := by
  refine ⟨by simp [h.1, h'.1], fun i x hx => ?_⟩
  rcases Nat.lt_or_ge i l.length with hi | hi
  · rw [List.getElem?_append_left hi] at hx
    have := h.2 i x hx
    rwa [List.getD_eq_getElem?_getD, List.getElem?_append_left (by rw [h.1]; exact hi), ← List.getD_eq_getElem?_getD]
  · rw [List.getElem?_append_right hi] at hx
    have := h'.2 _ x hx
    rwa [List.getD_eq_getElem?_getD, List.getElem?_append_right (by rw [h.1]; exact hi), h.1, ← List.getD_eq_getElem?_getD]
theorem Reads.s {v : Value} (h : oneV v = true) (hd : AV.dat0 (.s v) = true) : Reads W [.s v] [v] := ⟨rfl, fun i x hx => by
  cases i with
  | zero =>
    obtain rfl : AV.s v = x := by simpa using hx
    exact ⟨h, hd, h, .s v h⟩
  | succ i => simp at hx⟩
theorem Reads.agg {l : List AV} {cs : List Value} (h : Reads W l cs) : VSim (gh0 W) (.agg l) (.agg cs.toArray) :=
  .agg l _ (by simp [h.1]) (fun i x hx => (h.2 i x hx).1) (fun i x hx => by
    have := (h.2 i x hx).2.2.2
    rwa [show cs.toArray.getD i undef = cs.getD i undef by simp [Array.getD_eq_getD_getElem?]])
theorem Reads.one {x : AV} {v : Value} (h : Reads W [x] [v]) : VSim (gh0 W) x v := (h.2 0 x rfl).2.2.2

theorem trod_float' {w : World} {base : Nat} {sp : Nat → Bool} {held : Bool} {fuel : Nat} {t : TypeId} {k : FloatKind} {cs : List Value} {x : DataW H × List MemPlace} (ht : P.underlying t = some (.float k)) (h : DataW.trod enc P w base sp held fuel t cs = some x) : ∃ b, cs = [.float k b] ∧ x = (.lit (.float k b), []) ∧ (Lit.float k b).wf = true := by
  cases fuel with
  | zero => simp [DataW.trod] at h
  | succ n =>
    unfold DataW.trod at h
    rw [ht] at h
    split at h <;> simp_all
theorem trod_bool' {w : World} {base : Nat} {sp : Nat → Bool} {held : Bool} {fuel : Nat} {t : TypeId} {cs : List Value} {x : DataW H × List MemPlace} (ht : P.underlying t = some .bool) (h : DataW.trod enc P w base sp held fuel t cs = some x) : ∃ b, cs = [.bool b] ∧ x = (.lit (.bool b), []) := by
  cases fuel with
  | zero => simp [DataW.trod] at h
  | succ n =>
    unfold DataW.trod at h
    rw [ht] at h
    split at h <;> simp_all
theorem addr_add (a : Addr) (m k : Nat) : (a.add m).add k = a.add (m + k) := by
  by_cases hm : m = 0
  · subst hm
    simp [Addr.add]
  · by_cases hk : k = 0
    · subst hk
      simp [Addr.add, hm]
    · simp [Addr.add, hm, hk, Nat.add_assoc]
theorem addr_none {a : Addr} (h : a.spot = none) {j : Nat} : (⟨a.block, a.off + j, none⟩ : Addr) = a.add j := by
  unfold Addr.add
  split
  · rename_i h0
    subst h0
    cases a
    cases h
    rfl
  · rfl
/-- A slice that came in: a list of what its elements are. -/
theorem open_slice_gen {α : Type} (E : α → List AV) (Good : α → Prop) {sz : Nat} {t e : TypeId} {n : Nat} {cs : List Value} {y : DataW H × List MemPlace} (ht : P.underlying t = some (.slice e)) (hs : P.cellsOf e = sz) (h0 : 0 < sz) (hby : 0 < P.bytesOf e) (hE : ∀ x, (E x).length = sz)
    (ih : ∀ m cs' y', m < n → DataW.trod enc P W 0 (fun _ => true) true m e cs' = some y' → Light P e y'.1 → ∃ x, Good x ∧ Reads W (E x) cs')
    (h : DataW.trod enc P W 0 (fun _ => true) true n t cs = some y) (hl : Light P t y.1) :
    ∃ l : List α, (∀ x ∈ l, Good x) ∧ l.length * P.bytesOf e ≤ 140737488351232 ∧ l.length ≤ 140737488355328 ∧ Reads W [.sl false .none (l.map E)] cs := by
  rcases DataW.trod_slice ht h with ⟨rfl, rfl⟩ | ⟨a, len, cap, elems, rest, m, hn, rfl, rfl, hb, hlc, hm, hlen, hel, hsp, hns⟩
  · refine ⟨[], by simp, by simp, by simp, rfl, fun i x hx => ?_⟩
    cases i with
    | zero =>
      obtain rfl : AV.sl false .none [] = x := by simpa using hx
      exact ⟨rfl, rfl, rfl, .sl false .none [] none 0 0 (fun _ => undef) (Nat.le_refl _) (Nat.zero_le _) (fun e he => by cases he) (fun j x hx => by simp at hx) (fun h => absurd rfl h) (fun j x hx => by simp at hx) trivial⟩
    | succ i => simp at hx
  · have each : ∀ i, i < len → ∃ x : α, ∃ cs', Good x ∧ W.cells? 0 (a.add (i * sz)) sz = some cs' ∧ Reads W (E x) cs' := by
      intro i hi
      have hx : elems[i]? = some elems[i] := List.getElem?_eq_getElem (by omega)
      have := hel i hi
      rw [hx, hs, Option.bind_eq_some_iff] at this
      obtain ⟨cs', q1, q2⟩ := this
      obtain ⟨x, r1, r2⟩ := ih m cs' _ (by omega) q2 (hl.elem ht (by
        simp only [List.mem_map]
        exact ⟨_, List.getElem_mem (by omega), rfl⟩))
      exact ⟨x, cs', r1, q1, r2⟩
    obtain ⟨l, hll, hlx⟩ : ∃ l : List α, l.length = len ∧ ∀ (i : Nat) x, l[i]? = some x → Good x ∧ ∃ cs', W.cells? 0 (a.add (i * sz)) sz = some cs' ∧ Reads W (E x) cs' := by
      clear hel hl h hsp hns ih hlen hlc
      induction len with
      | zero => exact ⟨[], rfl, fun i x hx => by simp at hx⟩
      | succ k ihk =>
        obtain ⟨l, q1, q2⟩ := ihk (fun i hi => each i (by omega))
        obtain ⟨x, cs', r1, r2, r3⟩ := each k (by omega)
        refine ⟨l ++ [x], by simp [q1], fun i z hz => ?_⟩
        rcases Nat.lt_or_ge i l.length with hi | hi
        · rw [List.getElem?_append_left hi] at hz
          exact q2 i z hz
        · rw [List.getElem?_append_right hi] at hz
          have h0 : i - l.length = 0 := by
            rcases Nat.eq_zero_or_pos (i - l.length) with h | h
            · exact h
            · obtain ⟨j, hj⟩ : ∃ j, i - l.length = j + 1 := ⟨i - l.length - 1, by omega⟩
              rw [hj] at hz; simp at hz
          rw [h0] at hz
          obtain rfl : x = z := by simpa using hz
          obtain rfl : i = k := by omega
          exact ⟨r1, cs', r2, r3⟩
    have hlb := hl.len ht
    rw [List.length_map, hlen] at hlb
    have hlen2 : len ≤ 140737488355328 := by
      have : len * 1 ≤ len * P.bytesOf e := Nat.mul_le_mul_left _ hby
      omega
    refine ⟨l, fun x hx => by obtain ⟨i, hi⟩ := List.getElem?_of_mem hx; exact (hlx i x hi).1, by rw [hll]; exact hlb, by omega, rfl, fun i x hx => ?_⟩
    cases i with
    | succ i => simp at hx
    | zero =>
      obtain rfl : AV.sl false .none (l.map E) = x := by simpa using hx
      have flat : ∀ (j : Nat) (x : AV), (l.map E).flatten[j]? = some x → x.one = true ∧ x.dat0 = true ∧ ∃ v, W.cell? (a.add j) = some v ∧ oneV v = true ∧ VSim (gh0 W) x v := by
        intro j x hj
        have hfl : ∀ (l : List α) (j : Nat), (l.map E).flatten[j]? = (l[j / sz]?).bind fun z => (E z)[j % sz]? := by
          intro l
          induction l with
          | nil => intro j; simp
          | cons z l ih2 =>
            intro j
            simp only [List.map_cons, List.flatten_cons]
            rcases Nat.lt_or_ge j sz with hj | hj
            · rw [List.getElem?_append_left (by rw [hE]; exact hj), Nat.div_eq_of_lt hj, Nat.mod_eq_of_lt hj]
              rfl
            · rw [List.getElem?_append_right (by rw [hE]; exact hj), hE, ih2]
              obtain ⟨k, rfl⟩ : ∃ k, j = k + sz := ⟨j - sz, by omega⟩
              rw [Nat.add_sub_cancel, Nat.add_div_right _ h0, Nat.add_mod_right]
              rfl
        rw [hfl, Option.bind_eq_some_iff] at hj
        obtain ⟨z, hz, hx⟩ := hj
        obtain ⟨_, cs', c1, c2⟩ := hlx _ _ hz
        obtain ⟨d1, d2, d3⟩ := World.cells?_some c1
        have hlt : j % sz < sz := Nat.mod_lt _ h0
        obtain ⟨e1, e2, e3, e4⟩ := c2.2 _ _ hx
        have d4 := d3 _ hlt
        have hlt' : j % sz < cs'.length := by omega
        rw [List.getElem?_eq_getElem hlt'] at d4
        rw [List.getD_eq_getElem?_getD, List.getElem?_eq_getElem hlt'] at e3 e4
        simp only [Option.getD_some] at e3 e4
        refine ⟨e1, e2, _, ?_, e3, e4⟩
        have e0 := Nat.div_add_mod j sz
        rw [Nat.mul_comm] at e0
        rw [← d4, addr_add, e0]
      have hvs : ∃ vs : Nat → Value, ∀ (j : Nat) x, (l.map E).flatten[j]? = some x → W.cell? (a.add j) = some (vs j) ∧ oneV (vs j) = true ∧ VSim (gh0 W) x (vs j) := by
        refine ⟨fun j => (W.cell? (a.add j)).getD undef, fun j x hx => ?_⟩
        obtain ⟨_, _, v, q1, q2, q3⟩ := flat j x hx
        simp only [q1]
        exact ⟨rfl, q2, q3⟩
      obtain ⟨vs, hvs⟩ := hvs
      have hml : len = (l.map E).length := by simp [hll]
      refine ⟨rfl, rfl, rfl, ?_⟩
      show VSim (gh0 W) _ (.slice (some a) len cap)
      rw [hml]
      refine .sl false .none (l.map E) (some a) cap sz vs (by simp [hll, hlc]) (by simp [hll]; omega) (fun e he => by obtain ⟨z, _, rfl⟩ := List.mem_map.1 he; exact hE z) (fun j x hx => ⟨(flat j x hx).1, (flat j x hx).2.1⟩) (fun hne => ?_) (fun j x hx => (hvs j x hx).2.2) trivial
      obtain ⟨x, hx⟩ : ∃ x, (l.map E).flatten[0]? = some x := by
        cases hf : (l.map E).flatten with
        | nil => exact absurd hf hne
        | cons x r => exact ⟨x, rfl⟩
      have hsp : a.spot = none := by
        have := (hvs 0 x hx).1
        unfold World.cell? at this
        split at this
        · cases hq : a.spot with
          | none => rfl
          | some s => simp [Addr.add, hq] at this
        · cases this
      refine ⟨a.block, a.off, by cases a; cases hsp; rfl, fun h => (by cases h), fun j x hx => ?_⟩
      obtain ⟨q1, q2, q3⟩ := hvs j x hx
      rw [gh0_K]
      refine ⟨?_, q2⟩
      rw [← q1]
      congr 1
      exact addr_none hsp
end
end Go.Proofs.YtddmhilamoghcaaDoor
/- An argument of type api.Value is a value. -/
set_option linter.unusedVariables false
set_option linter.unusedSimpArgs false
namespace Go.Proofs.YtddmhilamoghcaaDoor
open Go.ChangeShapes Go.WideShapes Go.ChangeAt Go.RowKit
section
variable {H : Type} {enc : TypeId × Value → H} {W : World}
set_option maxRecDepth 20000 in
theorem open_V : ∀ (n : Nat) (cs : List Value) (y : DataW H × List MemPlace), DataW.trod enc Tryd.prog W 0 (fun _ => true) true n 25 cs = some y → Light Tryd.prog 25 y.1 → ∃ v : V, v.fits ∧ Reads W (encV false v) cs := by
  intro n
  induction n using Nat.strongRecOn with
  | ind n ih =>
  intro cs y h hl
  have hu := Tryd.underlying25
  obtain ⟨xs, m, rfl, rfl, hlen, hxl, hf⟩ := DataW.trod_struct hu h
  rw [show Tryd.prog.cellsOf 25 = 5 by kernel_rfl] at hlen
  match cs, hlen with
  | [c0, c1, c2, c3, c4], _ =>
  match xs, hxl with
  | [y0, y1, y2, y3, y4], _ =>
  have l1 : Tryd.prog.cellsOf 3 = 1 := by kernel_rfl
  have l2 : Tryd.prog.cellsOf 2 = 1 := by kernel_rfl
  have l3 : Tryd.prog.cellsOf 22 = 1 := by kernel_rfl
  have l4 : Tryd.prog.cellsOf 9 = 1 := by kernel_rfl
  have l5 : Tryd.prog.cellsOf 23 = 1 := by kernel_rfl
  have f0 := hf 0 _ rfl
  have f1 := hf 1 _ rfl
  have f2 := hf 2 _ rfl
  have f3 := hf 3 _ rfl
  have f4 := hf 4 _ rfl
  simp only [l1, l2, l3, l4, l5, List.drop_succ_cons, List.drop_zero, List.take_succ_cons, List.take_zero, List.getElem?_cons_succ, List.getElem?_cons_zero] at f0 f1 f2 f3 f4
  have h3 := hl.field hu (j := 3) rfl (d := y3.1) rfl
  have h4 := hl.field hu (j := 4) rfl (d := y4.1) rfl
  obtain ⟨k, e0, _, w0⟩ := DataW.trod_int Tryd.underlying3 f0
  obtain ⟨i, e1, _, w1⟩ := DataW.trod_int Tryd.underlying2 f1
  obtain ⟨f, e2, _, w2⟩ := trod_float' Tryd.underlying22 f2
  obtain ⟨t, e3, et, _⟩ := DataW.trod_string Tryd.underlying9 f3
  obtain ⟨l, q1, q2, _, q3⟩ := open_slice_gen (encV false) V.fits Tryd.underlying23 (by kernel_rfl : Tryd.prog.cellsOf 25 = 5) (by decide) (by rw [show Tryd.prog.bytesOf 25 = 64 by kernel_rfl]; decide) (encV_len false)
    (fun m' cs' y' hm h' hl' => ih m' (by omega) cs' y' h' hl') f4 h4
  rw [show Tryd.prog.bytesOf 25 = 64 by kernel_rfl] at q2
  have ts : t.size ≤ 140737488351232 := by
    have := h3 t.data.toList.length (by rw [et]; simp [DataW.weights])
    have h9 : reachBytes = 140737488351232 := rfl
    have e : t.data.toList.length = t.size := Array.length_toList
    omega
  have w2' : f < 18446744073709551616 := by
    simp [Lit.wf, FloatKind.format] at w2
    omega
  have k0 := i64_of_wf w0
  have k1 := i64_of_wf w1
  cases e0
  cases e1
  cases e2
  cases e3
  refine ⟨.mk k i f t l, V.fits_of ⟨by omega, k0, k1, w2', ts⟩ q1, ?_⟩
  rw [encV_eq, V.kind_mk, V.int_mk, V.float_mk, V.text_mk, V.items_mk, encL_eq]
  exact ((Reads.s rfl rfl).app (.app (.s rfl rfl) (.app (.s rfl rfl) (.app (.s rfl rfl) q3))))
/-- An argument. -/
theorem open_value {v : Value} {d : DataW H} {p : List MemPlace} (h : DataW.Trod enc Tryd.prog W 0 (fun _ => true) true 25 v d p) (hl : Light Tryd.prog 25 d) : ∃ x : V, x.fits ∧ VSim (gh0 W) (.agg (encV false x)) v := by
  obtain ⟨n, hn⟩ := h
  obtain ⟨x, h1, h2⟩ := open_V n _ _ hn hl
  refine ⟨x, h1, ?_⟩
  have h3 := h2.1
  rw [encV_len] at h3
  cases v with
  | agg a =>
    have := h2.agg
    simpa [Value.cells] using this
  | _ => exact absurd h3 (by simp [Value.cells])
end
end Go.Proofs.YtddmhilamoghcaaDoor
