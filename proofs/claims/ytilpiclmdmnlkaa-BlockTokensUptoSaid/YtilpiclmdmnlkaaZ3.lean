/- Merged: Avm4, Avm5. -/
import Derived.Test.YtilpiclmdmnlkaaZ2
/- Worlds that go on: a new box, a new row, a cell written; loads and stores. No program. -/
set_option linter.unusedVariables false
set_option linter.unusedSimpArgs false
namespace Go.Proofs.Ytilpiclmdmnlkaa
open Go.RowKit

theorem Inv.bx_lt {g : Gh} {st : AS} {w : World} (h : Inv g st w) {b : Nat} (hb : b ∈ g.bx) : b < w.heap.size := by
  obtain ⟨i, hi, rfl⟩ := List.getElem_of_mem hb
  have hi' : i < st.bx.length := by rw [← h.bxlen]; exact hi
  obtain ⟨cur, T, h1, _⟩ := h.bx i _ _ (List.getElem?_eq_getElem hi) (List.getElem?_eq_getElem hi')
  exact h1.lt
theorem LinOk.lt {g : Gh} {L : Lin} {w : World} (h : LinOk g L w) (hp : 0 < L.cap) {a : Addr} (ha : L.A = some a) : a.block < w.heap.size ∧ g.base ≤ a.block ∧ a.block ∉ g.bx := by
  rcases h with ⟨_, h1⟩ | ⟨b, cur, h1, h2, h3, h4, _⟩
  · omega
  · rw [h1] at ha
    obtain rfl := Option.some.inj ha
    exact ⟨(Array.getElem?_eq_some_iff.1 h4).1, h2, h3⟩
/-- A new box. -/
theorem Inv.boxObj {g : Gh} {st : AS} {w : World} (h : Inv g st w) (cs : List AV) (cur : Array Value) (T : TypeId) (ob : Obj) (hs : cur.size = cs.length) (hm : ObjIs (some ob) (boxMap cs) cur T) (hv : ∀ (j : Nat) x, cs[j]? = some x → VSim g x (cur.getD j undef)) :
    ∃ g', g.le g' ∧ Inv g' (st.box cs) (w.alloc ob) ∧ g'.bx[st.bx.length]? = some w.heap.size := by
  have hk := (Kept.refl w).alloc ob
  have H := h.kept_ hk
  have hle : g.le { g with bx := g.bx ++ [w.heap.size] } := ⟨rfl, fun _ _ _ h => h, fun i b hb => by
    show (g.bx ++ [w.heap.size])[i]? = some b
    rw [List.getElem?_append_left (List.getElem?_eq_some_iff.1 hb).1]; exact hb, fun i L hL => ⟨L, hL, Nat.le_refl _, fun _ => rfl⟩⟩
  refine ⟨{ g with bx := g.bx ++ [w.heap.size] }, hle, ?_, ?_⟩
  · refine ⟨H.K, by simp [AS.box, h.bxlen], fun i b cs' hb hc => ?_, fun b hb => ?_, ?_, H.lnlen, fun i L hL => ?_, H.lnd, H.kept, H.ok, H.nf⟩
    · rcases Nat.lt_or_ge i g.bx.length with hi | hi
      · have hb' : g.bx[i]? = some b := by simpa [List.getElem?_append_left hi] using hb
        have hc' : st.bx[i]? = some cs' := by
          have := hc
          simp only [AS.box] at this
          rwa [List.getElem?_append_left (by rw [← h.bxlen]; exact hi)] at this
        obtain ⟨cur', T', h1, h2, h3⟩ := H.bx i b cs' hb' hc'
        exact ⟨cur', T', h1, h2, fun j x hx => (h3 j x hx).mono hle⟩
      · have hi2 : i = g.bx.length := by
          have := (List.getElem?_eq_some_iff.1 hb).1
          simp at this; omega
        subst hi2
        obtain rfl : w.heap.size = b := by simpa using hb
        have hc' : cs = cs' := by
          simp only [AS.box] at hc
          rw [h.bxlen] at hc
          simpa using hc
        subst hc'
        exact ⟨cur, T, by rw [heap_alloc_new w _]; exact hm, hs, fun j x hx => (hv j x hx).mono hle⟩
    · rcases List.mem_append.1 hb with hb | hb
      · exact H.bxK b hb
      · obtain rfl : b = w.heap.size := by simpa using hb
        refine ⟨h.base_le, fun o => ?_, ?_⟩
        · cases hk : g.K w.heap.size o with
          | none => rfl
          | some v => have := h.K_lt hk; omega
        · show g.w0.fz w.heap.size = none
          cases hk : g.w0.fz w.heap.size with
          | none => rfl
          | some o =>
            have := (Array.getElem?_eq_some_iff.1 (h.kept.2 _ o hk).1).1
            omega
    · show (g.bx ++ [w.heap.size]).Nodup
      rw [List.nodup_append]
      refine ⟨h.bxnd, by simp, fun a ha b hb he => ?_⟩
      obtain rfl : b = w.heap.size := by simpa using hb
      have := h.bx_lt ha
      omega
    · obtain ⟨h1, h2⟩ := H.ln i L hL
      refine ⟨h1, ?_⟩
      rcases h2 with h2 | ⟨b, cur', e1, e2, e3, e4, e5⟩
      · exact .inl h2
      · refine .inr ⟨b, cur', e1, e2, fun hm => ?_, e4, e5⟩
        rcases List.mem_append.1 hm with hm | hm
        · exact e3 hm
        · obtain rfl : b = w.heap.size := by simpa using hm
          obtain ⟨_, h2'⟩ := h.ln i L hL
          have := (LinOk.lt h2' e5.2.1 e1).1
          simp at this
  · show (g.bx ++ [w.heap.size])[st.bx.length]? = _
    rw [← h.bxlen]; simp
theorem Inv.box {g : Gh} {st : AS} {w : World} (h : Inv g st w) (cs : List AV) (cur : Array Value) (T : TypeId) (hs : cur.size = cs.length) (hm : boxMap cs = false) (hv : ∀ (j : Nat) x, cs[j]? = some x → VSim g x (cur.getD j undef)) :
    ∃ g', g.le g' ∧ Inv g' (st.box cs) (w.alloc (.cells cur T)) ∧ VSim g' (.bp st.bx.length 0) (.pointer (some ⟨w.heap.size, 0, none⟩)) := by
  obtain ⟨g', h1, h2, h3⟩ := h.boxObj cs cur T (.cells cur T) hs (by rw [hm]; rfl) hv
  exact ⟨g', h1, h2, .bp _ _ _ h3⟩
/-- A new row that stays. -/
theorem Inv.row {g : Gh} {st : AS} {w : World} (h : Inv g st w) (cur : Array Value) (T : TypeId) (fr : Nat × Nat) (h1 : ∀ (i : Nat) v, cur[i]? = some v → oneV v = true) (hfr : fr.1 = fr.2 ∨ cur.size ≤ fr.1 := by exact .inl rfl) :
    ∃ g', g.le g' ∧ g'.ln = g.ln ∧ Inv g' st (w.alloc (.cells cur T fr)) ∧ ∀ (o : Nat) v, cur[o]? = some v → g'.K w.heap.size o = some v := by
  have hk := (Kept.refl w).alloc (.cells cur T fr)
  have H := h.kept_ hk
  have hle : g.le { g with K := fun b o => if b = w.heap.size then cur[o]? else g.K b o } := ⟨rfl, fun b o v hv => by
    have := h.K_lt hv
    show (if b = w.heap.size then cur[o]? else g.K b o) = some v
    rw [if_neg (by omega)]; exact hv, fun _ _ h => h, fun i L hL => ⟨L, hL, Nat.le_refl _, fun _ => rfl⟩⟩
  refine ⟨{ g with K := fun b o => if b = w.heap.size then cur[o]? else g.K b o }, hle, rfl, ?_, fun o v hv => ?_⟩
  · refine ⟨fun b o v hv => ?_, H.bxlen, fun i b cs hb hc => ?_, fun b hb => ?_, H.bxnd, H.lnlen, fun i L hL => ?_, H.lnd, H.kept, H.ok, fun b o v hv hb => by
      by_cases e : b = w.heap.size
      · subst e
        intro C T' lo hi' h
        rw [heap_alloc_new w _] at h
        cases h
        exact hfr
      · exact H.nf b o v (by simpa [e] using hv) hb⟩
    · by_cases e : b = w.heap.size
      · subst e
        have hv' : cur[o]? = some v := by simpa using hv
        refine ⟨?_, h1 o v hv'⟩
        unfold World.cell?
        rw [show (w.alloc (.cells cur T fr)).heap[(⟨w.heap.size, o, none⟩ : Addr).block]? = some (.cells cur T fr) from heap_alloc_new w _]
        simpa using hv'
      · have hv' : g.K b o = some v := by simpa [e] using hv
        exact H.K b o v hv'
    · obtain ⟨cur', T', h1, h2, h3⟩ := H.bx i b cs hb hc
      exact ⟨cur', T', h1, h2, fun j x hx => (h3 j x hx).mono hle⟩
    · refine ⟨(h.bxK b hb).1, fun o => ?_, (h.bxK b hb).2.2⟩
      have := h.bx_lt hb
      show (if b = w.heap.size then cur[o]? else g.K b o) = none
      rw [if_neg (by omega)]; exact (h.bxK b hb).2.1 o
    · obtain ⟨h1, h2⟩ := H.ln i L hL
      refine ⟨h1, ?_⟩
      have hlt := (h.ln i L hL).2
      rcases h2 with h2 | ⟨b, cur', e1, e2, e3, e4, e5, e6, e7, e8, e9⟩
      · exact .inl h2
      · have hb : b ≠ w.heap.size := by have := (LinOk.lt hlt e6 e1).1; simp at this; omega
        refine .inr ⟨b, cur', e1, e2, e3, e4, e5, e6, e7, fun o ho => ?_, fun o ho => ?_⟩
        · show (if b = w.heap.size then cur[o]? else g.K b o) = _
          rw [if_neg hb]; exact e8 o ho
        · show (if b = w.heap.size then cur[o]? else g.K b o) = _
          rw [if_neg hb]; exact e9 o ho
  · show (if w.heap.size = w.heap.size then cur[o]? else _) = _
    rw [if_pos rfl]; exact hv

/-! ### Types -/
theorem ty_spec {P : Program} {t : TypeId} {i : TyI} (h : tyOf P t = some i) :
    ∃ ti d, P.info? t = some ti ∧ P.underlying t = some d ∧ i.size = ti.size ∧ i.agg = aggD d ∧ i.zero = (ti.zero.map AV.ofV).getD .any ∧ i.desc = tdOf P d := by
  unfold tyOf at h
  split at h
  · rename_i ti d h1 h2
    obtain rfl := Option.some.inj h
    exact ⟨ti, d, h1, h2, rfl, rfl, rfl, rfl⟩
  · cases h
theorem ty_size {P : Program} {t : TypeId} {i : TyI} (h : tyOf P t = some i) (w : World) : (sizeOf t).run P w = .ok i.size w := by
  obtain ⟨ti, d, h1, h2, h3, _⟩ := ty_spec h
  simp [sizeOf, typeInfo, h1, h3]
theorem ty_agg {P : Program} {t : TypeId} {i : TyI} (h : tyOf P t = some i) (w : World) : (isAgg t).run P w = .ok i.agg w := by
  obtain ⟨ti, d, h1, h2, h3, h4, _⟩ := ty_spec h
  unfold isAgg
  simp only [Sem.run_bind, run_underlying h2, Result.andThen_ok, h4]
  cases d <;> rfl
theorem ty_under {P : Program} {t : TypeId} {i : TyI} (h : tyOf P t = some i) : ∃ d, P.underlying t = some d ∧ i.desc = tdOf P d := by
  obtain ⟨ti, d, h1, h2, h3, h4, h5, h6⟩ := ty_spec h
  exact ⟨d, h2, h6⟩
theorem ty_zero {P : Program} {t : TypeId} {i : TyI} (h : tyOf P t = some i) (hz : i.zero.known = true) : ∃ z, i.zero = AV.ofV z ∧ ∀ w, (zeroValue t).run P w = .ok z w := by
  obtain ⟨ti, d, h1, h2, h3, h4, h5, h6⟩ := ty_spec h
  cases hz' : ti.zero with
  | none => rw [h5, hz'] at hz; simp [AV.known] at hz
  | some z => exact ⟨z, by rw [h5, hz']; rfl, fun w => by simp [zeroValue, typeInfo, h1, hz']⟩
theorem size_pos {P : Program} {t : TypeId} (h : 0 < P.cellsOf t) (w : World) : (sizeOf t).run P w = .ok (P.cellsOf t) w := by
  unfold Program.cellsOf at h ⊢
  cases hi : P.info? t with
  | none => rw [hi] at h; simp at h
  | some ti => simp [sizeOf, typeInfo, hi]
theorem agg_is {P : Program} {t : TypeId} {b : Bool} (h : aggT P t = some b) (w : World) : (isAgg t).run P w = .ok b w := by
  unfold aggT at h
  obtain ⟨d, hd, rfl⟩ := Option.map_eq_some_iff.1 h
  unfold isAgg
  simp only [Sem.run_bind, run_underlying hd, Result.andThen_ok]
  cases d <;> rfl

/-! ### Cells in a row -/
def CSim (g : Gh) (cs : List AV) (cur : List Value) : Prop := cur.length = cs.length ∧ ∀ (j : Nat) x, cs[j]? = some x → VSim g x (cur.getD j undef)
theorem splice_length {α : Type} (cs : List α) (off : Nat) (vs : List α) (h : off + vs.length ≤ cs.length) : (splice cs off vs).length = cs.length := by
  simp [splice]; omega
theorem splice_get {α : Type} (cs : List α) (off : Nat) (vs : List α) (h : off + vs.length ≤ cs.length) (j : Nat) :
    (splice cs off vs)[j]? = if j < off then cs[j]? else if j < off + vs.length then vs[j - off]? else cs[j]? := by
  unfold splice
  by_cases h1 : j < off
  · rw [if_pos h1, List.append_assoc, List.getElem?_append_left (by simp; omega), List.getElem?_take, if_pos h1]
  · rw [if_neg h1]
    have hl : (cs.take off).length = off := by simp; omega
    by_cases h2 : j < off + vs.length
    · rw [if_pos h2, List.append_assoc, List.getElem?_append_right (by omega), hl, List.getElem?_append_left (by omega)]
    · rw [if_neg h2, List.getElem?_append_right (by simp; omega), List.getElem?_drop]
      congr 1
      simp; omega
theorem CSim.splice {g : Gh} {cs : List AV} {cur : List Value} {vs : List AV} {us : List Value} (h : CSim g cs cur) (hv : CSim g vs us) (off : Nat) (hl : off + vs.length ≤ cs.length) :
    CSim g (splice cs off vs) (splice cur off us) := by
  refine ⟨by rw [splice_length _ _ _ hl, splice_length _ _ _ (by rw [hv.1, h.1]; exact hl)]; exact h.1, fun j x hx => ?_⟩
  rw [splice_get _ _ _ hl] at hx
  rw [List.getD_eq_getElem?_getD, splice_get _ _ _ (by rw [hv.1, h.1]; exact hl), hv.1]
  split at hx
  · rename_i h1; rw [if_pos h1, ← List.getD_eq_getElem?_getD]; exact h.2 j x hx
  · rename_i h1; rw [if_neg h1]
    split at hx
    · rename_i h2; rw [if_pos h2, ← List.getD_eq_getElem?_getD]; exact hv.2 _ x hx
    · rename_i h2; rw [if_neg h2, ← List.getD_eq_getElem?_getD]; exact h.2 j x hx
theorem arr_getD (a : Array Value) (j : Nat) : a.getD j undef = a.toList.getD j undef := by
  rw [Array.getD_eq_getD_getElem?, List.getD_eq_getElem?_getD, Array.getElem?_toList]
theorem VSim.csim {g : Gh} {v : AV} {x : Value} (h : VSim g v x) (hk : v.known = true) : CSim g v.cells x.cells.toList := by
  obtain ⟨h1, h2⟩ := h.cells_ (by rintro rfl; simp [AV.known] at hk)
  exact ⟨by simpa using h1, fun j y hy => by rw [← arr_getD]; exact h2 j y hy⟩
theorem CSim.one {g : Gh} {cs : List AV} {cur : List Value} (h : CSim g cs cur) (h1 : cs.all AV.one = true) : ∀ v ∈ cur, oneV v = true := by
  intro v hv
  obtain ⟨i, hi, rfl⟩ := List.getElem_of_mem hv
  have hi' : i < cs.length := by rw [← h.1]; exact hi
  have := (h.2 i _ (List.getElem?_eq_getElem hi')).oneV (by rw [List.all_eq_true] at h1; exact h1 _ (List.getElem_mem hi'))
  simpa [List.getD_eq_getElem?_getD, hi] using this
theorem oneCell_oneV (v : Value) : v.oneCell' = oneV v := by cases v <;> rfl
theorem CSim.agg {g : Gh} {cs : List AV} {cur : List Value} (h : CSim g cs cur) (h1 : cs.all AV.one = true) : VSim g (.agg cs) (.agg cur.toArray) :=
  .agg cs _ (by simpa using h.1) (fun i x hx => by rw [List.all_eq_true] at h1; exact h1 x (List.mem_of_getElem? hx)) (fun i x hx => by rw [arr_getD]; exact h.2 i x hx)

/-! ### Boxes written -/
theorem Inv.setObj {g : Gh} {st : AS} {w w' : World} (h : Inv g st w) {id b : Nat} {cs cs' : List AV} {cur' : Array Value} {T : TypeId} (hb : g.bx[id]? = some b) (hc : st.bx[id]? = some cs)
    (hoth : ∀ k, k ≠ b → w'.heap[k]? = w.heap[k]?) (hself : ObjIs (w'.heap[b]?) (boxMap cs') cur' T) (hsz : w'.heap.size = w.heap.size) (hos : w'.os = w.os) (htp : w'.tape = w.tape) (hout : w'.output = w.output)
    (hn : CSim g cs' cur'.toList) : Inv g { st with bx := st.bx.set id cs' } w' := by
  have hbm : b ∈ g.bx := List.mem_of_getElem? hb
  refine ⟨fun b' o v hv => ?_, by simp [h.bxlen], fun i b' cs'' hb' hc' => ?_, h.bxK, h.bxnd, h.lnlen, fun i L hL => ?_, h.lnd, ?_, h.ok, fun b' o v hv hb' => by
    have hne : b' ≠ b := fun e => by subst e; rw [(h.bxK b' hbm).2.1 o] at hv; cases hv
    rw [hoth b' hne]
    exact h.nf b' o v hv hb'⟩
  · have hne : b' ≠ b := fun e => by subst e; rw [(h.bxK b' hbm).2.1 o] at hv; cases hv
    refine ⟨?_, (h.K b' o v hv).2⟩
    rw [World.cell?_of_block (hoth b' hne)]
    exact (h.K b' o v hv).1
  · by_cases hi : i = id
    · subst hi
      rw [hb] at hb'
      obtain rfl := Option.some.inj hb'
      have hlt := (List.getElem?_eq_some_iff.1 hc).1
      have : cs' = cs'' := by simpa [hlt] using hc'
      subst this
      exact ⟨cur', T, hself, by simpa using hn.1, fun j x hx => by rw [arr_getD]; exact hn.2 j x hx⟩
    · have hne : b' ≠ b := fun e => by
        subst e
        exact hi ((List.getElem?_inj (List.getElem?_eq_some_iff.1 hb').1 h.bxnd).1 (hb'.trans hb.symm))
      have hc'' : st.bx[i]? = some cs'' := by simpa [List.getElem?_set_ne (Ne.symm hi)] using hc'
      obtain ⟨cur0, T0, h1, h2, h3⟩ := h.bx i b' cs'' hb' hc''
      exact ⟨cur0, T0, by rw [hoth b' hne]; exact h1, h2, h3⟩
  · obtain ⟨h1, h2⟩ := h.ln i L hL
    refine ⟨h1, ?_⟩
    rcases h2 with h2 | ⟨b', cur0, e1, e2, e3, e4, e5⟩
    · exact .inl h2
    · exact .inr ⟨b', cur0, e1, e2, e3, (hoth b' (fun e => e3 (e ▸ hbm))).trans e4, e5⟩
  · have hbase := (h.bxK b hbm).1
    refine ⟨⟨Below.trans h.kept.1.1 ⟨hos, htp, hout, by rw [hsz]; exact Nat.le_refl _, fun k hk => hoth k (by unfold Gh.base at hbase; omega)⟩, by rw [hsz]; exact h.kept.1.2⟩, fun k o hk => ?_⟩
    obtain ⟨k1, k2⟩ := h.kept.2 k o hk
    refine ⟨(hoth k fun e => ?_).trans k1, k2⟩
    subst e
    rw [(h.bxK k hbm).2.2] at hk
    cases hk
theorem Inv.setRow {g : Gh} {st : AS} {w : World} (h : Inv g st w) {id b : Nat} {cs cs' : List AV} {cur cur' : Array Value} {T : TypeId} (hb : g.bx[id]? = some b) (hc : st.bx[id]? = some cs)
    (hw : w.heap[b]? = some (.cells cur T (0, 0))) (hm : boxMap cs' = false) (hn : CSim g cs' cur'.toList) : Inv g { st with bx := st.bx.set id cs' } (w.setRow b cur') :=
  h.setObj hb hc (fun k hk => by
    simp only [World.setRow]
    simp [Array.getElem?_modify, Ne.symm hk]) (by rw [hm]; exact setRow_heap w b cur cur' T (0, 0) hw) (by simp [World.setRow]) rfl rfl rfl hn
end Go.Proofs.Ytilpiclmdmnlkaa
/- Each operation, run: loads, stores, parts, boxes, literals. No program. -/
set_option linter.unusedVariables false
set_option linter.unusedSimpArgs false
namespace Go.Proofs.Ytilpiclmdmnlkaa
open Go.RowKit

/-- It runs to a value, and what K says of it holds. -/
def VRun (P : Program) (sem : Sem Value) (g : Gh) (w : World) (K : AV → AS → Prop) : Prop :=
  ∃ x w' g' v st', sem.run P w = .ok x w' ∧ g.le g' ∧ Inv g' st' w' ∧ VSim g' v x ∧ K v st'
theorem VRun.same {P : Program} {sem : Sem Value} {g : Gh} {st : AS} {w : World} {K : AV → AS → Prop} (hi : Inv g st w) {x : Value} {v : AV} (h : sem.run P w = .ok x w) (hv : VSim g v x) (hk : K v st) : VRun P sem g w K :=
  ⟨x, w, g, v, st, h, .refl g, hi, hv, hk⟩

variable {P : Program} {g : Gh} {st : AS} {w : World} {K : AV → AS → Prop}

theorem alloc_run (hi : Inv g st w) (e : TypeId) (h : aalloc (tyOf P e) st K) : VRun P (Instr.alloc e true (.tuple #[])) g w K := by
  unfold aalloc at h
  cases ht : tyOf P e with
  | none => rw [ht] at h; exact h.elim
  | some i =>
    rw [ht] at h
    obtain ⟨hz, hone, hk⟩ := h
    obtain ⟨z, e1, e2⟩ := ty_zero ht hz
    have hs := (e1 ▸ VSim.ofV g z : VSim g i.zero z)
    have hc := hs.csim hz
    obtain ⟨g', h1, h2, h3⟩ := hi.box i.zero.cells z.cells e (by simpa using hc.1) (boxMap_one hone) (fun j x hx => by rw [arr_getD]; exact hc.2 j x hx)
    refine ⟨_, _, g', _, _, ?_, h1, h2, h3, hk⟩
    simp only [Instr.alloc, Sem.run_bind, e2, Result.andThen_ok, newVar, newRow, newObj]
    rfl
theorem box_run (hi : Inv g st w) (e : TypeId) {v : AV} {x : Value} (hv : VSim g v x) (h : abox v st K) : VRun P (Instr.box e x) g w K := by
  obtain ⟨hz, hone, hk⟩ := h
  have hc := hv.csim hz
  obtain ⟨g', h1, h2, h3⟩ := hi.box v.cells x.cells e (by simpa using hc.1) (boxMap_one hone) (fun j y hy => by rw [arr_getD]; exact hc.2 j y hy)
  refine ⟨_, _, g', _, _, ?_, h1, h2, h3, hk⟩
  simp only [Instr.box, Sem.run_bind, newVar, newRow, newObj]
  rfl

/-! ### Loads -/
theorem loadVar_one {t : TypeId} {i : TyI} (ht : tyOf P t = some i) (ha : i.agg = false) {a : Addr} {x : Value} (hc : w.cell? a = some x) : (loadVar t a).run P w = .ok x w := by
  simp only [loadVar, Sem.run_bind, ty_agg ht, Result.andThen_ok, ha, Bool.false_eq_true, if_false]
  simp [load, Sem.run, hc]
theorem loadVar_agg {t : TypeId} {i : TyI} (ht : tyOf P t = some i) (ha : i.agg = true) {a : Addr} (f : Nat → Value) (hc : ∀ j, j < i.size → w.cell? (a.add j) = some (f j)) : (loadVar t a).run P w = .ok (.agg ((List.range i.size).map f).toArray) w := by
  simp only [loadVar, Sem.run_bind, ty_agg ht, Result.andThen_ok, ha, if_true, ty_size ht, run_loadCells w a i.size f hc]
  rfl
theorem add_spot (b o j : Nat) : (⟨b, o, none⟩ : Addr).add j = ⟨b, o + j, none⟩ := by unfold Addr.add; split <;> simp_all
theorem take_one {l : List AV} (h : l.all AV.one = true) (n : Nat) : (l.take n).all AV.one = true := by
  rw [List.all_eq_true] at h ⊢
  exact fun x hx => h x (List.mem_of_mem_take hx)
theorem range_getD {n i : Nat} (f : Nat → Value) (h : i < n) : (((List.range n).map f).toArray).getD i undef = f i := by
  rw [arr_getD, List.getD_eq_getElem?_getD]
  simp [h]
theorem boxMap_at {cs : List AV} {off : Nat} {x : AV} (h : cs[off]? = some x) (h1 : x.one = true) : boxMap cs = false := by
  unfold boxMap
  split
  · cases off with
    | zero => obtain rfl := Option.some.inj h; simp [AV.one] at h1
    | succ n => simp at h
  · rfl
theorem boxMap_take {cs : List AV} {off n : Nat} (h : ((cs.drop off).take n).all AV.one = true) (hn : 0 < n) (hs : off + n ≤ cs.length) : boxMap cs = false := by
  refine boxMap_at (off := off) (x := cs[off]'(by omega)) (List.getElem?_eq_getElem _) ?_
  rw [List.all_eq_true] at h
  refine h _ (List.mem_of_getElem? (i := 0) ?_)
  rw [List.getElem?_take, if_pos hn, List.getElem?_drop, Nat.add_zero]
  exact List.getElem?_eq_getElem _
theorem all_splice1 {cs vs : List AV} (off : Nat) (h : cs.all AV.one = true) (h' : vs.all AV.one = true) : (splice cs off vs).all AV.one = true := by
  rw [List.all_eq_true] at h h' ⊢
  intro x hx
  unfold splice at hx
  rcases List.mem_append.1 hx with hx | hx
  · rcases List.mem_append.1 hx with hx | hx
    · exact h x (List.mem_of_mem_take hx)
    · exact h' x hx
  · exact h x (List.mem_of_mem_drop hx)
theorem load_core (hi : Inv g st w) (t : TypeId) {a : AV} {x : Value} (hv : VSim g a x) {K : AV → Prop} (h : aload (tyOf P t) a st K) : ∃ y v, (Instr.loadAt t x).run P w = .ok y w ∧ VSim g v y ∧ K v := by
  unfold aload at h
  cases ht : tyOf P t with
  | none => rw [ht] at h; exact h.elim
  | some i =>
    rw [ht] at h
    cases hv with
    | rp l b o vs h1 hh =>
      simp only [] at h
      have hcell : ∀ (j : Nat) y, l[j]? = some y → w.cell? ⟨b, o + j, none⟩ = some (vs j) := fun j y hy => (hi.K _ _ _ (h1 j y hy).2.2).1
      split at h
      · rename_i ha
        obtain ⟨hs, hk⟩ := h
        refine ⟨.agg ((List.range i.size).map vs).toArray, .agg (l.take i.size), ?_, ?_, hk⟩
        · simp only [Instr.loadAt, Instr.sureAddr, Sem.run_bind, Sem.run_pure, Result.andThen_ok]
          exact loadVar_agg ht ha vs (fun j hj => by
            rw [add_spot]
            exact hcell j _ (List.getElem?_eq_getElem (by omega)))
        · refine .agg _ _ (by simp; omega) (fun j y hy => ?_) (fun j y hy => ?_)
          · obtain ⟨hj, rfl⟩ := List.getElem?_eq_some_iff.1 hy
            have hj' : j < l.length := by simp at hj; omega
            rw [List.getElem_take]
            exact (h1 j _ (List.getElem?_eq_getElem hj')).1
          · obtain ⟨hj, rfl⟩ := List.getElem?_eq_some_iff.1 hy
            have hj' : j < l.length := by simp at hj; omega
            rw [List.getElem_take, range_getD vs (by simp at hj; omega)]
            exact hh j _ (List.getElem?_eq_getElem hj')
      · rename_i ha
        cases l with
        | nil => exact h.elim
        | cons y l =>
          refine ⟨vs 0, y, ?_, hh 0 y rfl, h⟩
          simp only [Instr.loadAt, Instr.sureAddr, Sem.run_bind, Sem.run_pure, Result.andThen_ok]
          exact loadVar_one ht (by simpa using ha) (hcell 0 y rfl)
    | bp id off b hb =>
      simp only [] at h
      cases hc : st.bx[id]? with
      | none => rw [hc] at h; exact h.elim
      | some cs =>
        rw [hc] at h
        simp only [] at h
        obtain ⟨cur, T, e1, e2, e3⟩ := hi.bx id b cs hb hc
        have hcell : boxMap cs = false → ∀ (j : Nat) y, cs[j]? = some y → w.cell? ⟨b, j, none⟩ = some (cur.getD j undef) := fun hbm j y hy => by
          rw [hbm] at e1
          have e1 : w.heap[b]? = some (.cells cur T (0, 0)) := e1
          have hj := (List.getElem?_eq_some_iff.1 hy).1
          simp [World.cell?, e1, Array.getD, show j < cur.size by omega]
        split at h
        · rename_i ha
          obtain ⟨hs, ho, hk⟩ := h
          refine ⟨.agg ((List.range i.size).map fun j => cur.getD (off + j) undef).toArray, .agg ((cs.drop off).take i.size), ?_, ?_, hk⟩
          · simp only [Instr.loadAt, Instr.sureAddr, Sem.run_bind, Sem.run_pure, Result.andThen_ok]
            exact loadVar_agg ht ha _ (fun j hj => by
              rw [add_spot]
              exact hcell (boxMap_take ho (by omega) hs) (off + j) _ (List.getElem?_eq_getElem (by omega)))
          · refine .agg _ _ (by simp; omega) (fun j y hy => ?_) (fun j y hy => ?_)
            · rw [List.all_eq_true] at ho; exact ho y (List.mem_of_getElem? hy)
            · obtain ⟨hj, rfl⟩ := List.getElem?_eq_some_iff.1 hy
              simp at hj
              rw [range_getD _ (by omega)]
              refine e3 (off + j) _ ?_
              simp
        · rename_i ha
          cases hx : cs[off]? with
          | none => rw [hx] at h; exact h.elim
          | some y =>
            rw [hx] at h
            refine ⟨cur.getD off undef, y, ?_, e3 off y hx, h.2⟩
            simp only [Instr.loadAt, Instr.sureAddr, Sem.run_bind, Sem.run_pure, Result.andThen_ok]
            exact loadVar_one ht (by simpa using ha) (hcell (boxMap_at hx h.1) off y hx)
    | _ => exact h.elim

theorem load_run (hi : Inv g st w) (t : TypeId) {a : AV} {x : Value} (hv : VSim g a x) (h : aload (tyOf P t) a st fun v => K v st) : VRun P (Instr.loadAt t x) g w K := by
  obtain ⟨y, v, h1, h2, h3⟩ := load_core hi t hv h
  exact .same hi h1 h2 h3

/-! ### Stores -/
theorem store_run (hi : Inv g st w) (t : TypeId) {a v : AV} {x y : Value} (hv : VSim g a x) (hy : VSim g v y) {K : AS → Prop} (h : astore (tyOf P t) a v st K) :
    ∃ w' st', (Instr.storeAt t x y).run P w = .ok () w' ∧ Inv g st' w' ∧ K st' := by
  unfold astore at h
  cases ht : tyOf P t with
  | none => rw [ht] at h; exact h.elim
  | some i =>
    rw [ht] at h
    cases hv with
    | bp id off b hb =>
      simp only [] at h
      cases hc : st.bx[id]? with
      | none => rw [hc] at h; exact h.elim
      | some cs =>
        rw [hc] at h
        obtain ⟨hs, hk, h1, hall, hl, hK⟩ := h
        obtain ⟨cur, T, e1, e2, e3⟩ := hi.bx id b cs hb hc
        rw [boxMap_one hall] at e1
        have e1 : w.heap[b]? = some (.cells cur T (0, 0)) := e1
        have hcs := hy.csim hk
        have hlen : y.cells.toList.length = i.size := by rw [hcs.1, hs]
        have hsp := CSim.splice (cs := cs) (cur := cur.toList) ⟨by simpa using e2, fun j z hz => by rw [← arr_getD]; exact e3 j z hz⟩ hcs off (by rw [hs]; exact hl)
        have hst := run_storeCells_at (P := P) b off T y.cells.toList 0 cur w e1 (by rw [hlen]; omega) (fun z hz => by rw [oneCell_oneV]; exact hcs.one h1 z hz)
        simp only [Nat.add_zero] at hst
        refine ⟨_, _, ?_, hi.setRow hb hc e1 (boxMap_one (all_splice1 off hall h1)) (cur' := (splice cur.toList off y.cells.toList).toArray) (by simpa using hsp), hK⟩
        have hsz : y.cells.size = i.size := by simpa using hlen
        simp only [Instr.storeAt, Instr.sureAddr, Sem.run_bind, Sem.run_pure, Result.andThen_ok, storeVar, ty_size ht, hsz, ne_eq, not_true_eq_false, if_false]
        exact hst
    | _ => exact h.elim

/-! ### Parts -/
theorem fieldAddr_run (hi : Inv g st w) (t : TypeId) {a : AV} {x : Value} (hv : VSim g a x) (f : Nat) (h : afieldAddr (tyOf P t) a f fun v => K v st) : VRun P (Instr.fieldAt t x f) g w K := by
  unfold afieldAddr at h
  split at h
  case h_2 => exact h.elim
  rename_i i sz ag z fs ht
  obtain ⟨d, hd, hdd⟩ := ty_under ht
  cases d with
  | struct fds =>
    simp only [tdOf, TD.struct.injEq] at hdd
    subst hdd
    simp only [List.getElem?_map, Array.getElem?_toList] at h
    cases hf : fds[f]? with
    | none => rw [hf] at h; exact h.elim
    | some fd =>
      rw [hf] at h
      simp only [Option.map_some] at h
      obtain ⟨hp, h⟩ := h
      have hrun : ∀ (ad : Addr), (Instr.fieldAt t (.pointer (some ad)) f).run P w = .ok (.pointer (some (ad.add fd.offset))) w := fun ad => by
        have hz : ¬ P.cellsOf fd.type = 0 := by omega
        simp only [Instr.fieldAt, Sem.run_bind, run_underlying hd, Result.andThen_ok, hf, Instr.sureAddr, Sem.run_pure, fieldPlace, size_pos hp, hz, if_false]
      cases hv with
      | bp id o b hb =>
        refine .same hi (hrun _) ?_ h
        rw [add_spot]
        exact .bp id _ b hb
      | rp l b o vs h1 hh =>
        refine .same hi (hrun _) ?_ h
        rw [add_spot]
        refine .rp _ b _ (fun j => vs (fd.offset + j)) (fun j y hy => ?_) (fun j y hy => ?_)
        · rw [List.getElem?_drop] at hy
          obtain ⟨k1, k2, k3⟩ := h1 _ y hy
          exact ⟨k1, k2, by rw [Nat.add_assoc]; exact k3⟩
        · rw [List.getElem?_drop] at hy
          exact hh _ y hy
      | _ => exact h.elim
  | _ => simp [tdOf] at hdd
theorem field_run (hi : Inv g st w) (t : TypeId) {a : AV} {x : Value} (hv : VSim g a x) (f : Nat) (h : afield (tyOf P t) a f fun v => K v st) : VRun P (Instr.field t x f) g w K := by
  unfold afield at h
  split at h
  case h_2 => exact h.elim
  rename_i i sz ag z fs l ht
  obtain ⟨d, hd, hdd⟩ := ty_under ht
  cases d with
  | struct fds =>
    simp only [tdOf, TD.struct.injEq] at hdd
    subst hdd
    simp only [List.getElem?_map, Array.getElem?_toList] at h
    cases hf : fds[f]? with
    | none => rw [hf] at h; exact h.elim
    | some fd =>
      rw [hf] at h
      simp only [Option.map_some] at h
      cases hv with
      | agg l a hs h1 hh =>
          cases hag : aggT P fd.type with
        | none => rw [hag] at h; exact h.elim
        | some bb =>
        cases bb with
        | true =>
          rw [hag] at h
          obtain ⟨hp, hl, hk⟩ := h
          refine .same hi (v := .agg ((l.drop fd.offset).take (P.cellsOf fd.type))) (x := .agg (a.extract fd.offset (fd.offset + P.cellsOf fd.type))) ?_ ?_ hk
          · simp only [Instr.field, Sem.run_bind, run_underlying hd, Result.andThen_ok, hf, asAgg, Sem.run_pure, part, agg_is hag, if_true, size_pos hp]
          · refine .agg _ _ (by simp; omega) (fun j y hy => ?_) (fun j y hy => ?_)
            · have hy2 : y ∈ l := List.mem_of_mem_drop (List.mem_of_mem_take (List.mem_of_getElem? hy))
              obtain ⟨q, hq⟩ := List.getElem?_of_mem hy2
              exact h1 q y hq
            · obtain ⟨hj, rfl⟩ := List.getElem?_eq_some_iff.1 hy
              simp at hj
              have := hh (fd.offset + j) (l[fd.offset + j]'(by omega)) (List.getElem?_eq_getElem _)
              simp only [List.getElem_take, List.getElem_drop]
              have e : (a.extract fd.offset (fd.offset + P.cellsOf fd.type)).getD j undef = a.getD (fd.offset + j) undef := by
                simp [Array.getD, show j < min (fd.offset + P.cellsOf fd.type) a.size - fd.offset by omega, show fd.offset + j < a.size by omega]
              rw [e]; exact this
        | false =>
          rw [hag] at h
          obtain ⟨hp, hk⟩ := h
          cases hx : l[fd.offset]? with
          | none => rw [hx] at hk; exact hk.elim
          | some y =>
            rw [hx] at hk
            have hlt := (List.getElem?_eq_some_iff.1 hx).1
            refine .same hi (v := y) (x := a.getD fd.offset undef) ?_ (hh _ y hx) hk
            have e : a[fd.offset]? = some (a.getD fd.offset undef) := by simp [Array.getD, show fd.offset < a.size by omega]
            simp only [Instr.field, Sem.run_bind, run_underlying hd, Result.andThen_ok, hf, asAgg, Sem.run_pure, part, agg_is hag, Bool.false_eq_true, if_false, e]
  | _ => simp [tdOf] at hdd
theorem flatten_get : ∀ (es : List (List AV)) (sz : Nat), (∀ e ∈ es, e.length = sz) → ∀ (i j : Nat), j < sz → es.flatten[i * sz + j]? = (es[i]?).bind (·[j]?)
  | [], sz, _, i, j, _ => by simp
  | e :: es, sz, h, i, j, hj => by
    have he := h e (by simp)
    cases i with
    | zero => simp [List.getElem?_append_left (show j < e.length by omega)]
    | succ i =>
      have e1 : (i + 1) * sz + j = e.length + (i * sz + j) := by rw [he, Nat.add_mul]; omega
      rw [List.flatten_cons, e1, List.getElem?_append_right (by omega), Nat.add_sub_cancel_left]
      simpa using flatten_get es sz (fun x hx => h x (List.mem_cons_of_mem _ hx)) i j hj
theorem indexAddr_run (hi : Inv g st w) (t : TypeId) {a i : AV} {x n : Value} (hv : VSim g a x) (hn : VSim g i n) (h : aindexAddr (tyOf P t) a i fun v => K v st) : VRun P (Instr.indexAt t x n) g w K := by
  unfold aindexAddr at h
  split at h
  case h_3 => exact h.elim
  · rename_i s' ag' z' e' sz bytes own tag es k m ht
    obtain ⟨d, hd, hdd⟩ := ty_under ht
    cases hn
    obtain ⟨h0, hp, h⟩ := h
    cases hx : es[m.toNat]? with
    | none => rw [hx] at h; exact h.elim
    | some e =>
      rw [hx] at h
      obtain ⟨hlen, hk⟩ := h
      have hlt := (List.getElem?_eq_some_iff.1 hx).1
      cases d with
      | slice el =>
        simp only [tdOf, TD.slice.injEq] at hdd
        obtain ⟨rfl, rfl, rfl⟩ := hdd
        cases hv with
        | sl own tag es A cap sz vs hl hc hsz h1 hA hh htag =>
          have hsze := hsz _ (List.mem_of_getElem? hx)
          have hget := fun j (hj : j < sz) => flatten_get es sz hsz m.toNat j hj
          have hne : es.flatten ≠ [] := fun e0 => by
            have := hget 0 (by omega)
            rw [e0, hx] at this
            simp [show 0 < e.length by omega] at this
          obtain ⟨b, o, rfl, ho, hK⟩ := hA hne
          refine .same hi (v := .rp e) (x := .pointer (some ⟨b, o + m.toNat * P.cellsOf e', none⟩)) ?_ ?_ hk
          · have c1 : (0 : Int) ≤ m ∧ m < (es.length : Int) := by omega
            have hu : (underlying t).run P w = .ok (.slice e') w := run_underlying hd w
            simp only [Instr.indexAt, asIntOf, Sem.run_bind, Sem.run_pure, Result.andThen_ok, hu, c1, and_self, if_true, size_pos hp, add_spot]
          · have hsz2 : P.cellsOf e' = sz := by omega
            have hel : ∀ (j : Nat) y, e[j]? = some y → es.flatten[m.toNat * sz + j]? = some y := fun j y hy => by
              rw [hget j (by have := (List.getElem?_eq_some_iff.1 hy).1; omega), hx]; exact hy
            refine .rp e b _ (fun j => vs (m.toNat * sz + j)) (fun j y hy => ?_) (fun j y hy => hh _ y (hel j y hy))
            obtain ⟨k1, k2⟩ := h1 _ y (hel j y hy)
            refine ⟨k1, k2, ?_⟩
            rw [hsz2, Nat.add_assoc]
            exact hK _ y (hel j y hy)
      | _ => simp [tdOf] at hdd
  · rename_i s' ag' z' len sz ag id o k m ht
    obtain ⟨d, hd, hdd⟩ := ty_under ht
    cases hn
    obtain ⟨h0, hlt, hp, hk⟩ := h
    cases d with
    | array n el =>
      simp only [tdOf, TD.array.injEq] at hdd
      obtain ⟨rfl, rfl, rfl⟩ := hdd
      cases hv with
      | bp id o b hb =>
        refine .same hi (v := .bp id (o + m.toNat * P.cellsOf el)) (x := .pointer (some ⟨b, o + m.toNat * P.cellsOf el, none⟩)) ?_ (.bp _ _ b hb) hk
        have c1 : (0 : Int) ≤ m ∧ m < (len : Int) := by omega
        have hu : (underlying t).run P w = .ok (.array len el) w := run_underlying hd w
        simp only [Instr.indexAt, asIntOf, Sem.run_bind, Sem.run_pure, Result.andThen_ok, hu, Instr.sureAddr, c1, and_self, if_true, size_pos hp, add_spot]
    | _ => simp [tdOf] at hdd
theorem extract_run (hi : Inv g st w) {a : AV} {x : Value} (hv : VSim g a x) (i : Nat) (h : aextract a i fun v => K v st) : VRun P (Instr.extract x i) g w K := by
  unfold aextract at h
  cases hv with
  | tup l a hs hh =>
    simp only [] at h
    cases hx : l[i]? with
    | none => rw [hx] at h; exact h.elim
    | some y =>
      rw [hx] at h
      have hlt := (List.getElem?_eq_some_iff.1 hx).1
      refine .same hi (v := y) (x := a.getD i undef) ?_ (hh i y hx) h
      have e : a[i]? = some (a.getD i undef) := by simp [Array.getD, show i < a.size by omega]
      simp only [Instr.extract, e, Sem.run_pure]
  | _ => exact h.elim
theorem lit_run (hi : Inv g st w) {sem : Sem Value} (h : TRun P sem fun r => K (AV.ofV r) st) : VRun P sem g w K := by
  obtain ⟨v, h1, h2⟩ := h
  exact .same hi (h1 w) (.ofV g v) h2
end Go.Proofs.Ytilpiclmdmnlkaa
