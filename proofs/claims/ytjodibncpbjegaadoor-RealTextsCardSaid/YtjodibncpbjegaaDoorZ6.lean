/- Merged: Avm5. -/
import Derived.Test.YtjodibncpbjegaaDoorZ5
/- Each operation, run: loads, stores, parts, boxes, literals. No program. -/
set_option linter.unusedVariables false
set_option linter.unusedSimpArgs false
namespace Go.Proofs.YtjodibncpbjegaaDoor
open Go.RowKit

/-- It runs to a value, and what K says of it holds. -/
def VRun (P : Program) (sem : Sem Value) (g : Gh) (w : World) (K : AV → AS → Prop) : Prop :=
  ∃ x w' g' v st', sem.run P w = .ok x w' ∧ g.le g' ∧ Inv g' st' w' ∧ VSim g' v x ∧ K v st'
theorem VRun.same {P : Program} {sem : Sem Value} {g : Gh} {st : AS} {w : World} {K : AV → AS → Prop} (hi : Inv g st w) {x : Value} {v : AV} (h : sem.run P w = .ok x w) (hv : VSim g v x) (hk : K v st) : VRun P sem g w K :=
  ⟨x, w, g, v, st, h, .refl g, hi, hv, hk⟩

variable {P : Program} {g : Gh} {st : AS} {w : World} {K : AV → AS → Prop}

theorem alloc_run (hi : Inv g st w) (e : TypeId) (h : aalloc (tyOf P e) st K) : VRun P (Instr.alloc e true (.tuple #[])) g w K := by
  unfold aalloc at h
  cases ht : tyOf P e with
  | none => rw [ht] at h; exact h.elim
  | some i =>
    rw [ht] at h
    obtain ⟨hz, hone, hk⟩ := h
    obtain ⟨z, e1, e2⟩ := ty_zero ht hz
    have hs := (e1 ▸ VSim.ofV g z : VSim g i.zero z)
    have hc := hs.csim hz
    obtain ⟨g', h1, h2, h3⟩ := hi.box i.zero.cells z.cells e (by simpa using hc.1) (boxMap_one hone) (fun j x hx => by rw [arr_getD]; exact hc.2 j x hx)
    refine ⟨_, _, g', _, _, ?_, h1, h2, h3, hk⟩
    simp only [Instr.alloc, Sem.run_bind, e2, Result.andThen_ok, newVar, newRow, newObj]
    rfl
theorem box_run (hi : Inv g st w) (e : TypeId) {v : AV} {x : Value} (hv : VSim g v x) (h : abox v st K) : VRun P (Instr.box e x) g w K := by
  obtain ⟨hz, hone, hk⟩ := h
  have hc := hv.csim hz
  obtain ⟨g', h1, h2, h3⟩ := hi.box v.cells x.cells e (by simpa using hc.1) (boxMap_one hone) (fun j y hy => by rw [arr_getD]; exact hc.2 j y hy)
  refine ⟨_, _, g', _, _, ?_, h1, h2, h3, hk⟩
  simp only [Instr.box, Sem.run_bind, newVar, newRow, newObj]
  rfl

/-! ### Loads -/
theorem loadVar_one {t : TypeId} {i : TyI} (ht : tyOf P t = some i) (ha : i.agg = false) {a : Addr} {x : Value} (hc : w.cell? a = some x) : (loadVar t a).run P w = .ok x w := by
  simp only [loadVar, Sem.run_bind, ty_agg ht, Result.andThen_ok, ha, Bool.false_eq_true, if_false]
  simp [load, Sem.run, hc]
theorem loadVar_agg {t : TypeId} {i : TyI} (ht : tyOf P t = some i) (ha : i.agg = true) {a : Addr} (f : Nat → Value) (hc : ∀ j, j < i.size → w.cell? (a.add j) = some (f j)) : (loadVar t a).run P w = .ok (.agg ((List.range i.size).map f).toArray) w := by
  simp only [loadVar, Sem.run_bind, ty_agg ht, Result.andThen_ok, ha, if_true, ty_size ht, run_loadCells w a i.size f hc]
  rfl
theorem add_spot (b o j : Nat) : (⟨b, o, none⟩ : Addr).add j = ⟨b, o + j, none⟩ := by unfold Addr.add; split <;> simp_all
theorem take_one {l : List AV} (h : l.all AV.one = true) (n : Nat) : (l.take n).all AV.one = true := by
  rw [List.all_eq_true] at h ⊢
  exact fun x hx => h x (List.mem_of_mem_take hx)
theorem range_getD {n i : Nat} (f : Nat → Value) (h : i < n) : (((List.range n).map f).toArray).getD i undef = f i := by
  rw [arr_getD, List.getD_eq_getElem?_getD]
  simp [h]
theorem boxMap_at {cs : List AV} {off : Nat} {x : AV} (h : cs[off]? = some x) (h1 : x.one = true) : boxMap cs = false := by
  unfold boxMap
  split
  · cases off with
    | zero => obtain rfl := Option.some.inj h; simp [AV.one] at h1
    | succ n => simp at h
  · rfl
theorem boxMap_take {cs : List AV} {off n : Nat} (h : ((cs.drop off).take n).all AV.one = true) (hn : 0 < n) (hs : off + n ≤ cs.length) : boxMap cs = false := by
  refine boxMap_at (off := off) (x := cs[off]'(by omega)) (List.getElem?_eq_getElem _) ?_
  rw [List.all_eq_true] at h
  refine h _ (List.mem_of_getElem? (i := 0) ?_)
  rw [List.getElem?_take, if_pos hn, List.getElem?_drop, Nat.add_zero]
  exact List.getElem?_eq_getElem _
theorem all_splice1 {cs vs : List AV} (off : Nat) (h : cs.all AV.one = true) (h' : vs.all AV.one = true) : (splice cs off vs).all AV.one = true := by
  rw [List.all_eq_true] at h h' ⊢
  intro x hx
  unfold splice at hx
  rcases List.mem_append.1 hx with hx | hx
  · rcases List.mem_append.1 hx with hx | hx
    · exact h x (List.mem_of_mem_take hx)
    · exact h' x hx
  · exact h x (List.mem_of_mem_drop hx)
theorem load_core (hi : Inv g st w) (t : TypeId) {a : AV} {x : Value} (hv : VSim g a x) {K : AV → Prop} (h : aload (tyOf P t) a st K) : ∃ y v, (Instr.loadAt t x).run P w = .ok y w ∧ VSim g v y ∧ K v := by
  unfold aload at h
  cases ht : tyOf P t with
  | none => rw [ht] at h; exact h.elim
  | some i =>
    rw [ht] at h
    cases hv with
    | rp l b o vs h1 hh =>
      simp only [] at h
      have hcell : ∀ (j : Nat) y, l[j]? = some y → w.cell? ⟨b, o + j, none⟩ = some (vs j) := fun j y hy => (hi.K _ _ _ (h1 j y hy).2.2).1
      split at h
      · rename_i ha
        obtain ⟨hs, hk⟩ := h
        refine ⟨.agg ((List.range i.size).map vs).toArray, .agg (l.take i.size), ?_, ?_, hk⟩
        · simp only [Instr.loadAt, Instr.sureAddr, Sem.run_bind, Sem.run_pure, Result.andThen_ok]
          exact loadVar_agg ht ha vs (fun j hj => by
            rw [add_spot]
            exact hcell j _ (List.getElem?_eq_getElem (by omega)))
        · refine .agg _ _ (by simp; omega) (fun j y hy => ?_) (fun j y hy => ?_)
          · obtain ⟨hj, rfl⟩ := List.getElem?_eq_some_iff.1 hy
            have hj' : j < l.length := by simp at hj; omega
            rw [List.getElem_take]
            exact (h1 j _ (List.getElem?_eq_getElem hj')).1
          · obtain ⟨hj, rfl⟩ := List.getElem?_eq_some_iff.1 hy
            have hj' : j < l.length := by simp at hj; omega
            rw [List.getElem_take, range_getD vs (by simp at hj; omega)]
            exact hh j _ (List.getElem?_eq_getElem hj')
      · rename_i ha
        cases l with
        | nil => exact h.elim
        | cons y l =>
          refine ⟨vs 0, y, ?_, hh 0 y rfl, h⟩
          simp only [Instr.loadAt, Instr.sureAddr, Sem.run_bind, Sem.run_pure, Result.andThen_ok]
          exact loadVar_one ht (by simpa using ha) (hcell 0 y rfl)
    | bp id off b hb =>
      simp only [] at h
      cases hc : st.bx[id]? with
      | none => rw [hc] at h; exact h.elim
      | some cs =>
        rw [hc] at h
        simp only [] at h
        obtain ⟨cur, T, e1, e2, e3⟩ := hi.bx id b cs hb hc
        have hcell : boxMap cs = false → ∀ (j : Nat) y, cs[j]? = some y → w.cell? ⟨b, j, none⟩ = some (cur.getD j undef) := fun hbm j y hy => by
          rw [hbm] at e1
          have e1 : w.heap[b]? = some (.cells cur T (0, 0)) := e1
          have hj := (List.getElem?_eq_some_iff.1 hy).1
          simp [World.cell?, e1, Array.getD, show j < cur.size by omega]
        split at h
        · rename_i ha
          obtain ⟨hs, ho, hk⟩ := h
          refine ⟨.agg ((List.range i.size).map fun j => cur.getD (off + j) undef).toArray, .agg ((cs.drop off).take i.size), ?_, ?_, hk⟩
          · simp only [Instr.loadAt, Instr.sureAddr, Sem.run_bind, Sem.run_pure, Result.andThen_ok]
            exact loadVar_agg ht ha _ (fun j hj => by
              rw [add_spot]
              exact hcell (boxMap_take ho (by omega) hs) (off + j) _ (List.getElem?_eq_getElem (by omega)))
          · refine .agg _ _ (by simp; omega) (fun j y hy => ?_) (fun j y hy => ?_)
            · rw [List.all_eq_true] at ho; exact ho y (List.mem_of_getElem? hy)
            · obtain ⟨hj, rfl⟩ := List.getElem?_eq_some_iff.1 hy
              simp at hj
              rw [range_getD _ (by omega)]
              refine e3 (off + j) _ ?_
              simp
        · rename_i ha
          cases hx : cs[off]? with
          | none => rw [hx] at h; exact h.elim
          | some y =>
            rw [hx] at h
            refine ⟨cur.getD off undef, y, ?_, e3 off y hx, h.2⟩
            simp only [Instr.loadAt, Instr.sureAddr, Sem.run_bind, Sem.run_pure, Result.andThen_ok]
            exact loadVar_one ht (by simpa using ha) (hcell (boxMap_at hx h.1) off y hx)
    | _ => exact h.elim

theorem load_run (hi : Inv g st w) (t : TypeId) {a : AV} {x : Value} (hv : VSim g a x) (h : aload (tyOf P t) a st fun v => K v st) : VRun P (Instr.loadAt t x) g w K := by
  obtain ⟨y, v, h1, h2, h3⟩ := load_core hi t hv h
  exact .same hi h1 h2 h3

/-! ### Stores -/
theorem store_run (hi : Inv g st w) (t : TypeId) {a v : AV} {x y : Value} (hv : VSim g a x) (hy : VSim g v y) {K : AS → Prop} (h : astore (tyOf P t) a v st K) :
    ∃ w' st', (Instr.storeAt t x y).run P w = .ok () w' ∧ Inv g st' w' ∧ K st' := by
  unfold astore at h
  cases ht : tyOf P t with
  | none => rw [ht] at h; exact h.elim
  | some i =>
    rw [ht] at h
    cases hv with
    | bp id off b hb =>
      simp only [] at h
      cases hc : st.bx[id]? with
      | none => rw [hc] at h; exact h.elim
      | some cs =>
        rw [hc] at h
        obtain ⟨hs, hk, h1, hall, hl, hK⟩ := h
        obtain ⟨cur, T, e1, e2, e3⟩ := hi.bx id b cs hb hc
        rw [boxMap_one hall] at e1
        have e1 : w.heap[b]? = some (.cells cur T (0, 0)) := e1
        have hcs := hy.csim hk
        have hlen : y.cells.toList.length = i.size := by rw [hcs.1, hs]
        have hsp := CSim.splice (cs := cs) (cur := cur.toList) ⟨by simpa using e2, fun j z hz => by rw [← arr_getD]; exact e3 j z hz⟩ hcs off (by rw [hs]; exact hl)
        have hst := run_storeCells_at (P := P) b off T y.cells.toList 0 cur w e1 (by rw [hlen]; omega) (fun z hz => by rw [oneCell_oneV]; exact hcs.one h1 z hz)
        simp only [Nat.add_zero] at hst
        refine ⟨_, _, ?_, hi.setRow hb hc e1 (boxMap_one (all_splice1 off hall h1)) (cur' := (splice cur.toList off y.cells.toList).toArray) (by simpa using hsp), hK⟩
        have hsz : y.cells.size = i.size := by simpa using hlen
        simp only [Instr.storeAt, Instr.sureAddr, Sem.run_bind, Sem.run_pure, Result.andThen_ok, storeVar, ty_size ht, hsz, ne_eq, not_true_eq_false, if_false]
        exact hst
    | _ => exact h.elim

/-! ### Parts -/
theorem fieldAddr_run (hi : Inv g st w) (t : TypeId) {a : AV} {x : Value} (hv : VSim g a x) (f : Nat) (h : afieldAddr (tyOf P t) a f fun v => K v st) : VRun P (Instr.fieldAt t x f) g w K := by
  unfold afieldAddr at h
  split at h
  case h_2 => exact h.elim
  rename_i i sz ag z fs ht
  obtain ⟨d, hd, hdd⟩ := ty_under ht
  cases d with
  | struct fds =>
    simp only [tdOf, TD.struct.injEq] at hdd
    subst hdd
    simp only [List.getElem?_map, Array.getElem?_toList] at h
    cases hf : fds[f]? with
    | none => rw [hf] at h; exact h.elim
    | some fd =>
      rw [hf] at h
      simp only [Option.map_some] at h
      obtain ⟨hp, h⟩ := h
      have hrun : ∀ (ad : Addr), (Instr.fieldAt t (.pointer (some ad)) f).run P w = .ok (.pointer (some (ad.add fd.offset))) w := fun ad => by
        have hz : ¬ P.cellsOf fd.type = 0 := by omega
        simp only [Instr.fieldAt, Sem.run_bind, run_underlying hd, Result.andThen_ok, hf, Instr.sureAddr, Sem.run_pure, fieldPlace, size_pos hp, hz, if_false]
      cases hv with
      | bp id o b hb =>
        refine .same hi (hrun _) ?_ h
        rw [add_spot]
        exact .bp id _ b hb
      | rp l b o vs h1 hh =>
        refine .same hi (hrun _) ?_ h
        rw [add_spot]
        refine .rp _ b _ (fun j => vs (fd.offset + j)) (fun j y hy => ?_) (fun j y hy => ?_)
        · rw [List.getElem?_drop] at hy
          obtain ⟨k1, k2, k3⟩ := h1 _ y hy
          exact ⟨k1, k2, by rw [Nat.add_assoc]; exact k3⟩
        · rw [List.getElem?_drop] at hy
          exact hh _ y hy
      | _ => exact h.elim
  | _ => simp [tdOf] at hdd
theorem field_run (hi : Inv g st w) (t : TypeId) {a : AV} {x : Value} (hv : VSim g a x) (f : Nat) (h : afield (tyOf P t) a f fun v => K v st) : VRun P (Instr.field t x f) g w K := by
  unfold afield at h
  split at h
  case h_2 => exact h.elim
  rename_i i sz ag z fs l ht
  obtain ⟨d, hd, hdd⟩ := ty_under ht
  cases d with
  | struct fds =>
    simp only [tdOf, TD.struct.injEq] at hdd
    subst hdd
    simp only [List.getElem?_map, Array.getElem?_toList] at h
    cases hf : fds[f]? with
    | none => rw [hf] at h; exact h.elim
    | some fd =>
      rw [hf] at h
      simp only [Option.map_some] at h
      cases hv with
      | agg l a hs h1 hh =>
          cases hag : aggT P fd.type with
        | none => rw [hag] at h; exact h.elim
        | some bb =>
        cases bb with
        | true =>
          rw [hag] at h
          obtain ⟨hp, hl, hk⟩ := h
          refine .same hi (v := .agg ((l.drop fd.offset).take (P.cellsOf fd.type))) (x := .agg (a.extract fd.offset (fd.offset + P.cellsOf fd.type))) ?_ ?_ hk
          · simp only [Instr.field, Sem.run_bind, run_underlying hd, Result.andThen_ok, hf, asAgg, Sem.run_pure, part, agg_is hag, if_true, size_pos hp]
          · refine .agg _ _ (by simp; omega) (fun j y hy => ?_) (fun j y hy => ?_)
            · have hy2 : y ∈ l := List.mem_of_mem_drop (List.mem_of_mem_take (List.mem_of_getElem? hy))
              obtain ⟨q, hq⟩ := List.getElem?_of_mem hy2
              exact h1 q y hq
            · obtain ⟨hj, rfl⟩ := List.getElem?_eq_some_iff.1 hy
              simp at hj
              have := hh (fd.offset + j) (l[fd.offset + j]'(by omega)) (List.getElem?_eq_getElem _)
              simp only [List.getElem_take, List.getElem_drop]
              have e : (a.extract fd.offset (fd.offset + P.cellsOf fd.type)).getD j undef = a.getD (fd.offset + j) undef := by
                simp [Array.getD, show j < min (fd.offset + P.cellsOf fd.type) a.size - fd.offset by omega, show fd.offset + j < a.size by omega]
              rw [e]; exact this
        | false =>
          rw [hag] at h
          obtain ⟨hp, hk⟩ := h
          cases hx : l[fd.offset]? with
          | none => rw [hx] at hk; exact hk.elim
          | some y =>
            rw [hx] at hk
            have hlt := (List.getElem?_eq_some_iff.1 hx).1
            refine .same hi (v := y) (x := a.getD fd.offset undef) ?_ (hh _ y hx) hk
            have e : a[fd.offset]? = some (a.getD fd.offset undef) := by simp [Array.getD, show fd.offset < a.size by omega]
            simp only [Instr.field, Sem.run_bind, run_underlying hd, Result.andThen_ok, hf, asAgg, Sem.run_pure, part, agg_is hag, Bool.false_eq_true, if_false, e]
  | _ => simp [tdOf] at hdd
theorem flatten_get : ∀ (es : List (List AV)) (sz : Nat), (∀ e ∈ es, e.length = sz) → ∀ (i j : Nat), j < sz → es.flatten[i * sz + j]? = (es[i]?).bind (·[j]?)
  | [], sz, _, i, j, _ => by simp
  | e :: es, sz, h, i, j, hj => by
    have he := h e (by simp)
    cases i with
    | zero => simp [List.getElem?_append_left (show j < e.length by omega)]
    | succ i =>
      have e1 : (i + 1) * sz + j = e.length + (i * sz + j) := by rw [he, Nat.add_mul]; omega
      rw [List.flatten_cons, e1, List.getElem?_append_right (by omega), Nat.add_sub_cancel_left]
      simpa using flatten_get es sz (fun x hx => h x (List.mem_cons_of_mem _ hx)) i j hj
theorem indexAddr_run (hi : Inv g st w) (t : TypeId) {a i : AV} {x n : Value} (hv : VSim g a x) (hn : VSim g i n) (h : aindexAddr (tyOf P t) a i fun v => K v st) : VRun P (Instr.indexAt t x n) g w K := by
  unfold aindexAddr at h
  split at h
  case h_3 => exact h.elim
  · rename_i s' ag' z' e' sz bytes own tag es k m ht
    obtain ⟨d, hd, hdd⟩ := ty_under ht
    cases hn
    obtain ⟨h0, hp, h⟩ := h
    cases hx : es[m.toNat]? with
    | none => rw [hx] at h; exact h.elim
    | some e =>
      rw [hx] at h
      obtain ⟨hlen, hk⟩ := h
      have hlt := (List.getElem?_eq_some_iff.1 hx).1
      cases d with
      | slice el =>
        simp only [tdOf, TD.slice.injEq] at hdd
        obtain ⟨rfl, rfl, rfl⟩ := hdd
        cases hv with
        | sl own tag es A cap sz vs hl hc hsz h1 hA hh htag =>
          have hsze := hsz _ (List.mem_of_getElem? hx)
          have hget := fun j (hj : j < sz) => flatten_get es sz hsz m.toNat j hj
          have hne : es.flatten ≠ [] := fun e0 => by
            have := hget 0 (by omega)
            rw [e0, hx] at this
            simp [show 0 < e.length by omega] at this
          obtain ⟨b, o, rfl, ho, hK⟩ := hA hne
          refine .same hi (v := .rp e) (x := .pointer (some ⟨b, o + m.toNat * P.cellsOf e', none⟩)) ?_ ?_ hk
          · have c1 : (0 : Int) ≤ m ∧ m < (es.length : Int) := by omega
            have hu : (underlying t).run P w = .ok (.slice e') w := run_underlying hd w
            simp only [Instr.indexAt, asIntOf, Sem.run_bind, Sem.run_pure, Result.andThen_ok, hu, c1, and_self, if_true, size_pos hp, add_spot]
          · have hsz2 : P.cellsOf e' = sz := by omega
            have hel : ∀ (j : Nat) y, e[j]? = some y → es.flatten[m.toNat * sz + j]? = some y := fun j y hy => by
              rw [hget j (by have := (List.getElem?_eq_some_iff.1 hy).1; omega), hx]; exact hy
            refine .rp e b _ (fun j => vs (m.toNat * sz + j)) (fun j y hy => ?_) (fun j y hy => hh _ y (hel j y hy))
            obtain ⟨k1, k2⟩ := h1 _ y (hel j y hy)
            refine ⟨k1, k2, ?_⟩
            rw [hsz2, Nat.add_assoc]
            exact hK _ y (hel j y hy)
      | _ => simp [tdOf] at hdd
  · rename_i s' ag' z' len sz ag id o k m ht
    obtain ⟨d, hd, hdd⟩ := ty_under ht
    cases hn
    obtain ⟨h0, hlt, hp, hk⟩ := h
    cases d with
    | array n el =>
      simp only [tdOf, TD.array.injEq] at hdd
      obtain ⟨rfl, rfl, rfl⟩ := hdd
      cases hv with
      | bp id o b hb =>
        refine .same hi (v := .bp id (o + m.toNat * P.cellsOf el)) (x := .pointer (some ⟨b, o + m.toNat * P.cellsOf el, none⟩)) ?_ (.bp _ _ b hb) hk
        have c1 : (0 : Int) ≤ m ∧ m < (len : Int) := by omega
        have hu : (underlying t).run P w = .ok (.array len el) w := run_underlying hd w
        simp only [Instr.indexAt, asIntOf, Sem.run_bind, Sem.run_pure, Result.andThen_ok, hu, Instr.sureAddr, c1, and_self, if_true, size_pos hp, add_spot]
    | _ => simp [tdOf] at hdd
theorem extract_run (hi : Inv g st w) {a : AV} {x : Value} (hv : VSim g a x) (i : Nat) (h : aextract a i fun v => K v st) : VRun P (Instr.extract x i) g w K := by
  unfold aextract at h
  cases hv with
  | tup l a hs hh =>
    simp only [] at h
    cases hx : l[i]? with
    | none => rw [hx] at h; exact h.elim
    | some y =>
      rw [hx] at h
      have hlt := (List.getElem?_eq_some_iff.1 hx).1
      refine .same hi (v := y) (x := a.getD i undef) ?_ (hh i y hx) h
      have e : a[i]? = some (a.getD i undef) := by simp [Array.getD, show i < a.size by omega]
      simp only [Instr.extract, e, Sem.run_pure]
  | _ => exact h.elim
theorem lit_run (hi : Inv g st w) {sem : Sem Value} (h : TRun P sem fun r => K (AV.ofV r) st) : VRun P sem g w K := by
  obtain ⟨v, h1, h2⟩ := h
  exact .same hi (h1 w) (.ofV g v) h2
end Go.Proofs.YtjodibncpbjegaaDoor
