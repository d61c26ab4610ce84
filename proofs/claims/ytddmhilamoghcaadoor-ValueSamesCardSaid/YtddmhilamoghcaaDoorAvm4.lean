/- Worlds that go on: a new box, a new row, a cell written; loads and stores. No program. -/
import Derived.Test.YtddmhilamoghcaaDoorAvm3
set_option linter.unusedVariables false
set_option linter.unusedSimpArgs false
namespace Go.Proofs.YtddmhilamoghcaaDoor
open Go.RowKit

theorem Inv.bx_lt {g : Gh} {st : AS} {w : World} (h : Inv g st w) {b : Nat} (hb : b ∈ g.bx) : b < w.heap.size := by
  obtain ⟨i, hi, rfl⟩ := List.getElem_of_mem hb
  have hi' : i < st.bx.length := by rw [← h.bxlen]; exact hi
  obtain ⟨cur, T, h1, _⟩ := h.bx i _ _ (List.getElem?_eq_getElem hi) (List.getElem?_eq_getElem hi')
  exact (Array.getElem?_eq_some_iff.1 h1).1
theorem LinOk.lt {g : Gh} {L : Lin} {w : World} (h : LinOk g L w) (hp : 0 < L.cap) {a : Addr} (ha : L.A = some a) : a.block < w.heap.size ∧ g.base ≤ a.block ∧ a.block ∉ g.bx := by
  rcases h with ⟨_, h1⟩ | ⟨b, cur, h1, h2, h3, h4, _⟩
  · omega
  · rw [h1] at ha
    obtain rfl := Option.some.inj ha
    exact ⟨(Array.getElem?_eq_some_iff.1 h4).1, h2, h3⟩
/-- A new box. -/
theorem Inv.box {g : Gh} {st : AS} {w : World} (h : Inv g st w) (cs : List AV) (cur : Array Value) (T : TypeId) (hs : cur.size = cs.length) (hv : ∀ (j : Nat) x, cs[j]? = some x → VSim g x (cur.getD j undef)) :
    ∃ g', g.le g' ∧ Inv g' (st.box cs) (w.alloc (.cells cur T)) ∧ VSim g' (.bp st.bx.length 0) (.pointer (some ⟨w.heap.size, 0, none⟩)) := by
  have hk := (Kept.refl w).alloc (.cells cur T)
  have H := h.kept_ hk
  have hle : g.le { g with bx := g.bx ++ [w.heap.size] } := ⟨rfl, fun _ _ _ h => h, fun i b hb => by
    show (g.bx ++ [w.heap.size])[i]? = some b
    rw [List.getElem?_append_left (List.getElem?_eq_some_iff.1 hb).1]; exact hb, fun i L hL => ⟨L, hL, Nat.le_refl _, fun _ => rfl⟩⟩
  refine ⟨{ g with bx := g.bx ++ [w.heap.size] }, hle, ?_, ?_⟩
  · refine ⟨H.K, by simp [AS.box, h.bxlen], fun i b cs' hb hc => ?_, fun b hb => ?_, ?_, H.lnlen, fun i L hL => ?_, H.lnd, H.kept, H.ok⟩
    · rcases Nat.lt_or_ge i g.bx.length with hi | hi
      · have hb' : g.bx[i]? = some b := by simpa [List.getElem?_append_left hi] using hb
        have hc' : st.bx[i]? = some cs' := by
          have := hc
          simp only [AS.box] at this
          rwa [List.getElem?_append_left (by rw [← h.bxlen]; exact hi)] at this
        obtain ⟨cur', T', h1, h2, h3⟩ := H.bx i b cs' hb' hc'
        exact ⟨cur', T', h1, h2, fun j x hx => (h3 j x hx).mono hle⟩
      · have hi2 : i = g.bx.length := by
          have := (List.getElem?_eq_some_iff.1 hb).1
          simp at this; omega
        subst hi2
        obtain rfl : w.heap.size = b := by simpa using hb
        have hc' : cs = cs' := by
          simp only [AS.box] at hc
          rw [h.bxlen] at hc
          simpa using hc
        subst hc'
        exact ⟨cur, T, heap_alloc_new w _, hs, fun j x hx => (hv j x hx).mono hle⟩
    · rcases List.mem_append.1 hb with hb | hb
      · exact H.bxK b hb
      · obtain rfl : b = w.heap.size := by simpa using hb
        refine ⟨h.base_le, fun o => ?_⟩
        cases hk : g.K w.heap.size o with
        | none => rfl
        | some v => have := h.K_lt hk; omega
    · show (g.bx ++ [w.heap.size]).Nodup
      rw [List.nodup_append]
      refine ⟨h.bxnd, by simp, fun a ha b hb he => ?_⟩
      obtain rfl : b = w.heap.size := by simpa using hb
      have := h.bx_lt ha
      omega
    · obtain ⟨h1, h2⟩ := H.ln i L hL
      refine ⟨h1, ?_⟩
      rcases h2 with h2 | ⟨b, cur', e1, e2, e3, e4, e5⟩
      · exact .inl h2
      · refine .inr ⟨b, cur', e1, e2, fun hm => ?_, e4, e5⟩
        rcases List.mem_append.1 hm with hm | hm
        · exact e3 hm
        · obtain rfl : b = w.heap.size := by simpa using hm
          obtain ⟨_, h2'⟩ := h.ln i L hL
          have := (LinOk.lt h2' e5.2.1 e1).1
          simp at this
  · refine .bp _ _ _ ?_
    show (g.bx ++ [w.heap.size])[st.bx.length]? = _
    rw [← h.bxlen]; simp
/-- A new row that stays. -/
theorem Inv.row {g : Gh} {st : AS} {w : World} (h : Inv g st w) (cur : Array Value) (T : TypeId) (fr : Nat × Nat) (h1 : ∀ (i : Nat) v, cur[i]? = some v → oneV v = true) :
    ∃ g', g.le g' ∧ g'.ln = g.ln ∧ Inv g' st (w.alloc (.cells cur T fr)) ∧ ∀ (o : Nat) v, cur[o]? = some v → g'.K w.heap.size o = some v := by
  have hk := (Kept.refl w).alloc (.cells cur T fr)
  have H := h.kept_ hk
  have hle : g.le { g with K := fun b o => if b = w.heap.size then cur[o]? else g.K b o } := ⟨rfl, fun b o v hv => by
    have := h.K_lt hv
    show (if b = w.heap.size then cur[o]? else g.K b o) = some v
    rw [if_neg (by omega)]; exact hv, fun _ _ h => h, fun i L hL => ⟨L, hL, Nat.le_refl _, fun _ => rfl⟩⟩
  refine ⟨{ g with K := fun b o => if b = w.heap.size then cur[o]? else g.K b o }, hle, rfl, ?_, fun o v hv => ?_⟩
  · refine ⟨fun b o v hv => ?_, H.bxlen, fun i b cs hb hc => ?_, fun b hb => ?_, H.bxnd, H.lnlen, fun i L hL => ?_, H.lnd, H.kept, H.ok⟩
    · by_cases e : b = w.heap.size
      · subst e
        have hv' : cur[o]? = some v := by simpa using hv
        refine ⟨?_, h1 o v hv'⟩
        unfold World.cell?
        rw [show (w.alloc (.cells cur T fr)).heap[(⟨w.heap.size, o, none⟩ : Addr).block]? = some (.cells cur T fr) from heap_alloc_new w _]
        simpa using hv'
      · have hv' : g.K b o = some v := by simpa [e] using hv
        exact H.K b o v hv'
    · obtain ⟨cur', T', h1, h2, h3⟩ := H.bx i b cs hb hc
      exact ⟨cur', T', h1, h2, fun j x hx => (h3 j x hx).mono hle⟩
    · refine ⟨(h.bxK b hb).1, fun o => ?_⟩
      have := h.bx_lt hb
      show (if b = w.heap.size then cur[o]? else g.K b o) = none
      rw [if_neg (by omega)]; exact (h.bxK b hb).2 o
    · obtain ⟨h1, h2⟩ := H.ln i L hL
      refine ⟨h1, ?_⟩
      have hlt := (h.ln i L hL).2
      rcases h2 with h2 | ⟨b, cur', e1, e2, e3, e4, e5, e6, e7, e8, e9⟩
      · exact .inl h2
      · have hb : b ≠ w.heap.size := by have := (LinOk.lt hlt e6 e1).1; simp at this; omega
        refine .inr ⟨b, cur', e1, e2, e3, e4, e5, e6, e7, fun o ho => ?_, fun o ho => ?_⟩
        · show (if b = w.heap.size then cur[o]? else g.K b o) = _
          rw [if_neg hb]; exact e8 o ho
        · show (if b = w.heap.size then cur[o]? else g.K b o) = _
          rw [if_neg hb]; exact e9 o ho
  · show (if w.heap.size = w.heap.size then cur[o]? else _) = _
    rw [if_pos rfl]; exact hv

/-! ### Types -/
theorem ty_spec {P : Program} {t : TypeId} {i : TyI} (h : tyOf P t = some i) :
    ∃ ti d, P.info? t = some ti ∧ P.underlying t = some d ∧ i.size = ti.size ∧ i.agg = aggD d ∧ i.zero = (ti.zero.map AV.ofV).getD .any ∧ i.desc = tdOf P d := by
  unfold tyOf at h
  split at h
  · rename_i ti d h1 h2
    obtain rfl := Option.some.inj h
    exact ⟨ti, d, h1, h2, rfl, rfl, rfl, rfl⟩
  · cases h
theorem ty_size {P : Program} {t : TypeId} {i : TyI} (h : tyOf P t = some i) (w : World) : (sizeOf t).run P w = .ok i.size w := by
  obtain ⟨ti, d, h1, h2, h3, _⟩ := ty_spec h
  simp [sizeOf, typeInfo, h1, h3]
theorem ty_agg {P : Program} {t : TypeId} {i : TyI} (h : tyOf P t = some i) (w : World) : (isAgg t).run P w = .ok i.agg w := by
  obtain ⟨ti, d, h1, h2, h3, h4, _⟩ := ty_spec h
  unfold isAgg
  simp only [Sem.run_bind, run_underlying h2, Result.andThen_ok, h4]
  cases d <;> rfl
theorem ty_under {P : Program} {t : TypeId} {i : TyI} (h : tyOf P t = some i) : ∃ d, P.underlying t = some d ∧ i.desc = tdOf P d := by
  obtain ⟨ti, d, h1, h2, h3, h4, h5, h6⟩ := ty_spec h
  exact ⟨d, h2, h6⟩
theorem ty_zero {P : Program} {t : TypeId} {i : TyI} (h : tyOf P t = some i) (hz : i.zero.known = true) : ∃ z, i.zero = AV.ofV z ∧ ∀ w, (zeroValue t).run P w = .ok z w := by
  obtain ⟨ti, d, h1, h2, h3, h4, h5, h6⟩ := ty_spec h
  cases hz' : ti.zero with
  | none => rw [h5, hz'] at hz; simp [AV.known] at hz
  | some z => exact ⟨z, by rw [h5, hz']; rfl, fun w => by simp [zeroValue, typeInfo, h1, hz']⟩
theorem size_pos {P : Program} {t : TypeId} (h : 0 < P.cellsOf t) (w : World) : (sizeOf t).run P w = .ok (P.cellsOf t) w := by
  unfold Program.cellsOf at h ⊢
  cases hi : P.info? t with
  | none => rw [hi] at h; simp at h
  | some ti => simp [sizeOf, typeInfo, hi]
theorem agg_is {P : Program} {t : TypeId} {b : Bool} (h : aggT P t = some b) (w : World) : (isAgg t).run P w = .ok b w := by
  unfold aggT at h
  obtain ⟨d, hd, rfl⟩ := Option.map_eq_some_iff.1 h
  unfold isAgg
  simp only [Sem.run_bind, run_underlying hd, Result.andThen_ok]
  cases d <;> rfl

/-! ### Cells in a row -/
def CSim (g : Gh) (cs : List AV) (cur : List Value) : Prop := cur.length = cs.length ∧ ∀ (j : Nat) x, cs[j]? = some x → VSim g x (cur.getD j undef)
theorem splice_length {α : Type} (cs : List α) (off : Nat) (vs : List α) (h : off + vs.length ≤ cs.length) : (splice cs off vs).length = cs.length := by
  simp [splice]; omega
theorem splice_get {α : Type} (cs : List α) (off : Nat) (vs : List α) (h : off + vs.length ≤ cs.length) (j : Nat) :
    (splice cs off vs)[j]? = if j < off then cs[j]? else if j < off + vs.length then vs[j - off]? else cs[j]? := by
  unfold splice
  by_cases h1 : j < off
  · rw [if_pos h1, List.append_assoc, List.getElem?_append_left (by simp; omega), List.getElem?_take, if_pos h1]
  · rw [if_neg h1]
    have hl : (cs.take off).length = off := by simp; omega
    by_cases h2 : j < off + vs.length
    · rw [if_pos h2, List.append_assoc, List.getElem?_append_right (by omega), hl, List.getElem?_append_left (by omega)]
    · rw [if_neg h2, List.getElem?_append_right (by simp; omega), List.getElem?_drop]
      congr 1
      simp; omega
theorem CSim.splice {g : Gh} {cs : List AV} {cur : List Value} {vs : List AV} {us : List Value} (h : CSim g cs cur) (hv : CSim g vs us) (off : Nat) (hl : off + vs.length ≤ cs.length) :
    CSim g (splice cs off vs) (splice cur off us) := by
  refine ⟨by rw [splice_length _ _ _ hl, splice_length _ _ _ (by rw [hv.1, h.1]; exact hl)]; exact h.1, fun j x hx => ?_⟩
  rw [splice_get _ _ _ hl] at hx
  rw [List.getD_eq_getElem?_getD, splice_get _ _ _ (by rw [hv.1, h.1]; exact hl), hv.1]
  split at hx
  · rename_i h1; rw [if_pos h1, ← List.getD_eq_getElem?_getD]; exact h.2 j x hx
  · rename_i h1; rw [if_neg h1]
    split at hx
    · rename_i h2; rw [if_pos h2, ← List.getD_eq_getElem?_getD]; exact hv.2 _ x hx
    · rename_i h2; rw [if_neg h2, ← List.getD_eq_getElem?_getD]; exact h.2 j x hx
theorem arr_getD (a : Array Value) (j : Nat) : a.getD j undef = a.toList.getD j undef := by
  rw [Array.getD_eq_getD_getElem?, List.getD_eq_getElem?_getD, Array.getElem?_toList]
theorem VSim.csim {g : Gh} {v : AV} {x : Value} (h : VSim g v x) (hk : v.known = true) : CSim g v.cells x.cells.toList := by
  obtain ⟨h1, h2⟩ := h.cells_ (by rintro rfl; simp [AV.known] at hk)
  exact ⟨by simpa using h1, fun j y hy => by rw [← arr_getD]; exact h2 j y hy⟩
theorem CSim.one {g : Gh} {cs : List AV} {cur : List Value} (h : CSim g cs cur) (h1 : cs.all AV.one = true) : ∀ v ∈ cur, oneV v = true := by
  intro v hv
  obtain ⟨i, hi, rfl⟩ := List.getElem_of_mem hv
  have hi' : i < cs.length := by rw [← h.1]; exact hi
  have := (h.2 i _ (List.getElem?_eq_getElem hi')).oneV (by rw [List.all_eq_true] at h1; exact h1 _ (List.getElem_mem hi'))
  simpa [List.getD_eq_getElem?_getD, hi] using this
theorem oneCell_oneV (v : Value) : v.oneCell' = oneV v := by cases v <;> rfl
theorem CSim.agg {g : Gh} {cs : List AV} {cur : List Value} (h : CSim g cs cur) (h1 : cs.all AV.one = true) : VSim g (.agg cs) (.agg cur.toArray) :=
  .agg cs _ (by simpa using h.1) (fun i x hx => by rw [List.all_eq_true] at h1; exact h1 x (List.mem_of_getElem? hx)) (fun i x hx => by rw [arr_getD]; exact h.2 i x hx)

/-! ### Boxes written -/
theorem Inv.setRow {g : Gh} {st : AS} {w : World} (h : Inv g st w) {id b : Nat} {cs cs' : List AV} {cur cur' : Array Value} {T : TypeId} (hb : g.bx[id]? = some b) (hc : st.bx[id]? = some cs)
    (hw : w.heap[b]? = some (.cells cur T (0, 0))) (hn : CSim g cs' cur'.toList) : Inv g { st with bx := st.bx.set id cs' } (w.setRow b cur') := by
  have hbm : b ∈ g.bx := List.mem_of_getElem? hb
  have hoth : ∀ k, k ≠ b → (w.setRow b cur').heap[k]? = w.heap[k]? := fun k hk => by
    simp only [World.setRow]
    simp [Array.getElem?_modify, Ne.symm hk]
  have hself := setRow_heap w b cur cur' T (0, 0) hw
  have hsz : (w.setRow b cur').heap.size = w.heap.size := by simp [World.setRow]
  refine ⟨fun b' o v hv => ?_, by simp [h.bxlen], fun i b' cs'' hb' hc' => ?_, h.bxK, h.bxnd, h.lnlen, fun i L hL => ?_, h.lnd, ?_, h.ok⟩
  · have hne : b' ≠ b := fun e => by subst e; rw [(h.bxK b' hbm).2 o] at hv; cases hv
    refine ⟨?_, (h.K b' o v hv).2⟩
    rw [World.cell?_of_block (hoth b' hne)]
    exact (h.K b' o v hv).1
  · by_cases hi : i = id
    · subst hi
      rw [hb] at hb'
      obtain rfl := Option.some.inj hb'
      have hlt := (List.getElem?_eq_some_iff.1 hc).1
      have : cs' = cs'' := by simpa [hlt] using hc'
      subst this
      exact ⟨cur', T, hself, by simpa using hn.1, fun j x hx => by rw [arr_getD]; exact hn.2 j x hx⟩
    · have hne : b' ≠ b := fun e => by
        subst e
        exact hi ((List.getElem?_inj (List.getElem?_eq_some_iff.1 hb').1 h.bxnd).1 (hb'.trans hb.symm))
      have hc'' : st.bx[i]? = some cs'' := by simpa [List.getElem?_set_ne (Ne.symm hi)] using hc'
      obtain ⟨cur0, T0, h1, h2, h3⟩ := h.bx i b' cs'' hb' hc''
      exact ⟨cur0, T0, (hoth b' hne).trans h1, h2, h3⟩
  · obtain ⟨h1, h2⟩ := h.ln i L hL
    refine ⟨h1, ?_⟩
    rcases h2 with h2 | ⟨b', cur0, e1, e2, e3, e4, e5⟩
    · exact .inl h2
    · exact .inr ⟨b', cur0, e1, e2, e3, (hoth b' (fun e => e3 (e ▸ hbm))).trans e4, e5⟩
  · have hbase := (h.bxK b hbm).1
    exact Below.trans h.kept ⟨rfl, rfl, rfl, by rw [hsz]; exact Nat.le_refl _, fun k hk => hoth k (by unfold Gh.base at hbase; omega)⟩
end Go.Proofs.YtddmhilamoghcaaDoor
