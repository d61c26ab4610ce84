/- Merged: Avm6. -/
import Derived.Test.YtjodibncpbjegaaDoorZ6
import Derived.Deep.AppendSrc
import Derived.Laws.BytesString
/- Each operation, run: structs and slices laid down, slices cut, bytes told as a string, append. No program. -/
set_option linter.unusedVariables false
set_option linter.unusedSimpArgs false
namespace Go.Proofs.YtjodibncpbjegaaDoor
open Go.RowKit

variable {P : Program} {g : Gh} {st : AS} {w : World} {K : AV → AS → Prop}

inductive PSim (g : Gh) : List (Nat × AV) → List (Nat × Value) → Prop
  | nil : PSim g [] []
  | cons (i : Nat) {v : AV} {x : Value} {l r} (h : VSim g v x) (hr : PSim g l r) : PSim g ((i, v) :: l) ((i, x) :: r)
theorem foldl_set (off : Nat) : ∀ (l : List Value) (j : Nat) (cs : Array Value), off + j + l.length ≤ cs.size →
    (l.zipIdx j).foldl (fun cs (p : Value × Nat) => cs.setIfInBounds (off + p.2) p.1) cs = (cs.toList.take (off + j) ++ l ++ cs.toList.drop (off + j + l.length)).toArray
  | [], j, cs, h => by simp
  | v :: l, j, cs, h => by
    simp only [List.zipIdx_cons, List.foldl_cons]
    rw [foldl_set off l (j + 1) _ (by simp at h ⊢; omega)]
    have e := list_seg_step cs.toList (off + j) v l (by simp at h ⊢; omega)
    congr 1
    simpa [Array.toList_setIfInBounds, Nat.add_assoc] using e
theorem fold_splice (off : Nat) (v : Array Value) (cs : Array Value) (h : off + v.size ≤ cs.size) :
    v.zipIdx.foldl (fun cs (p : Value × Nat) => cs.setIfInBounds (off + p.2) p.1) cs = (splice cs.toList off v.toList).toArray := by
  have := foldl_set off v.toList 0 cs (by simpa using h)
  rw [← Array.foldl_toList, Array.toList_zipIdx, this]
  simp [splice]
theorem all_splice {cs vs : List AV} (off : Nat) (h : cs.all AV.one = true) (h' : vs.all AV.one = true) : (splice cs off vs).all AV.one = true := by
  rw [List.all_eq_true] at h h' ⊢
  intro x hx
  simp only [splice, List.mem_append] at hx
  rcases hx with (hx | hx) | hx
  · exact h x (List.mem_of_mem_take hx)
  · exact h' x hx
  · exact h x (List.mem_of_mem_drop hx)
theorem fill_sim (g : Gh) (place : Nat → Option (Nat × Nat)) : ∀ (parts : List (Nat × AV)) (ps : List (Nat × Value)) (cs cs' : List AV) (cur : Array Value), PSim g parts ps → CSim g cs cur.toList → cs.all AV.one = true →
    afill place cs parts = some cs' → ∃ cur', Instr.fill place cur ps = some cur' ∧ CSim g cs' cur'.toList ∧ cs'.all AV.one = true
  | [], _, cs, cs', cur, .nil, hc, h1, h => by
    obtain rfl : cs = cs' := by simpa [afill] using h
    exact ⟨cur, rfl, hc, h1⟩
  | (i, v) :: parts, _, cs, cs', cur, .cons _ (x := x) (r := r) hv hr, hc, h1, h => by
    unfold afill at h
    split at h
    · cases h
    · rename_i off size hp
      split at h
      · rename_i hcond
        obtain ⟨c1, c2, c3, c4⟩ := hcond
        have hx := hv.csim c3
        have hxs : x.cells.size = v.cells.length := by simpa using hx.1
        have hcs : cur.size = cs.length := by simpa using hc.1
        obtain ⟨cur', k1, k2, k3⟩ := fill_sim g place parts r (splice cs off v.cells) cs' (splice cur.toList off x.cells.toList).toArray hr (by simpa using hc.splice hx off c2) (all_splice off h1 c4) h
        refine ⟨cur', ?_, k2, k3⟩
        unfold Instr.fill
        have b1 : ¬ (x.cells.size ≠ size ∨ off + x.cells.size > cur.size) := by omega
        simp only [hp]
        rw [if_neg (by simpa using b1)]
        rw [← k1]
        congr 1
        exact fold_splice off x.cells cur (by omega)
      · cases h
theorem mapM_places (fs : Array Field) (h : ∀ f ∈ fs.toList, 0 < P.cellsOf f.type) (w : World) :
    (fs.mapM fun f => do pure (f.offset, ← sizeOf f.type) : Sem (Array (Nat × Nat))).run P w = .ok (fs.map fun f => (f.offset, P.cellsOf f.type)) w := by
  have key : ∀ (l : List Field), (∀ f ∈ l, 0 < P.cellsOf f.type) → (l.mapM fun f => do pure (f.offset, ← sizeOf f.type) : Sem (List (Nat × Nat))).run P w = .ok (l.map fun f => (f.offset, P.cellsOf f.type)) w := by
    intro l
    induction l with
    | nil => intro _; rfl
    | cons f l ih =>
      intro hl
      simp only [List.mapM_cons, Sem.run_bind, size_pos (hl f (by simp)), Result.andThen_ok, Sem.run_pure, ih (fun x hx => hl x (List.mem_cons_of_mem _ hx)), List.map_cons]
  rw [Array.mapM_eq_mapM_toList]
  have e : ∀ (s : Sem (List (Nat × Nat))), (List.toArray <$> s : Sem (Array (Nat × Nat))) = s.bind fun l => pure l.toArray := fun s => rfl
  show (Sem.bind (fs.toList.mapM _) fun l => pure l.toArray).run P w = _
  have e2 := Sem.run_bind (P := P) (w := w) (fs.toList.mapM fun f => do pure (f.offset, ← sizeOf f.type)) (fun l => (pure l.toArray : Sem (Array (Nat × Nat))))
  refine e2.trans ?_
  rw [key fs.toList h]
  simp only [Result.andThen_ok, Sem.run_pure]
  congr 1
  apply Array.ext'
  simp
theorem build_run (hi : Inv g st w) (t : TypeId) {parts : List (Nat × AV)} {ps : Array (Nat × Value)} (hp : PSim g parts ps.toList) (h : abuild (tyOf P t) parts fun v => K v st) : VRun P (Instr.build t ps) g w K := by
  unfold abuild at h
  split at h
  case h_3 => exact h.elim
  · rename_i s' ag' z fs ht
    obtain ⟨d, hd, hdd⟩ := ty_under ht
    obtain ⟨zv, e1, e2⟩ := ty_zero ht rfl
    have e3 : AV.agg z = AV.ofV zv := e1
    have hz : VSim g (.agg z) zv := e3 ▸ VSim.ofV g zv
    cases d with
    | struct fds =>
      simp only [tdOf, TD.struct.injEq] at hdd
      split at h
      case h_2 => exact h.elim
      rename_i cs hcs
      obtain ⟨hpos, hk⟩ := h
      have hpos' : ∀ f ∈ fds.toList, 0 < P.cellsOf f.type := fun f hf => by
        rw [List.all_eq_true] at hpos
        have := hpos (f.offset, P.cellsOf f.type, aggT P f.type) (by rw [hdd]; exact List.mem_map.2 ⟨f, hf, rfl⟩)
        simpa using this
      have h1z : z.all AV.one = true := by
        cases hz with
        | agg l a hs h1 hh => rw [List.all_eq_true]; intro x hx; obtain ⟨q, hq⟩ := List.getElem?_of_mem hx; exact h1 q x hq
      have hzc := hz.csim rfl
      obtain ⟨cur', k1, k2, k3⟩ := fill_sim g _ parts ps.toList z cs zv.cells hp hzc h1z hcs
      refine .same hi (v := .agg cs) (x := .agg cur') ?_ (by simpa using k2.agg k3) hk
      have hpl : (fun (i : Nat) => (fs[i]?).map fun f => (f.1, f.2.1)) = ((fds.map fun f => (f.offset, P.cellsOf f.type))[·]?) := by
        funext i
        rw [hdd]
        simp [Option.map_map, Function.comp_def]
      rw [hpl] at k1
      simp only [Instr.build, Sem.run_bind, e2, Result.andThen_ok, run_underlying hd, mapM_places fds hpos', k1, Sem.run_pure]
    | _ => simp [tdOf] at hdd
  · rename_i s' ag' z n sz ag ht
    obtain ⟨d, hd, hdd⟩ := ty_under ht
    obtain ⟨zv, e1, e2⟩ := ty_zero ht rfl
    have e3 : AV.agg z = AV.ofV zv := e1
    have hz : VSim g (.agg z) zv := e3 ▸ VSim.ofV g zv
    cases d with
    | array m el =>
      simp only [tdOf, TD.array.injEq] at hdd
      obtain ⟨rfl, rfl, rfl⟩ := hdd
      split at h
      case h_2 => exact h.elim
      rename_i cs hcs
      obtain ⟨hpos, hk⟩ := h
      have h1z : z.all AV.one = true := by
        cases hz with
        | agg l a hs h1 hh => rw [List.all_eq_true]; intro x hx; obtain ⟨q, hq⟩ := List.getElem?_of_mem hx; exact h1 q x hq
      obtain ⟨cur', k1, k2, k3⟩ := fill_sim g _ parts ps.toList z cs zv.cells hp (hz.csim rfl) h1z hcs
      refine .same hi (v := .agg cs) (x := .agg cur') ?_ (by simpa using k2.agg k3) hk
      simp only [Instr.build, Sem.run_bind, e2, Result.andThen_ok, run_underlying hd, size_pos hpos, k1, Sem.run_pure]
    | _ => simp [tdOf] at hdd

/-! ### Slices as rows of cells -/
theorem flat_len : ∀ (es : List (List AV)) (sz : Nat), (∀ e ∈ es, e.length = sz) → es.flatten.length = es.length * sz
  | [], sz, _ => by simp
  | e :: es, sz, h => by
    simp only [List.flatten_cons, List.length_append, List.length_cons, h e (by simp), flat_len es sz (fun x hx => h x (List.mem_cons_of_mem _ hx)), Nat.add_mul]
    omega
/-- What a slice is: cells that stay. -/
theorem sl_cells {own : Bool} {tag : Tag} {es : List (List AV)} {x : Value} (hi : Inv g st w) (h : VSim g (.sl own tag es) x) {sz : Nat} (hsz : ∀ e ∈ es, e.length = sz) :
    ∃ A cap cur, x = .slice A es.length cap ∧ es.length ≤ cap ∧ es.length ≤ 140737488355328 ∧ TagOk g tag A es.length cap ∧ CSim g es.flatten cur ∧ cur.length = es.length * sz ∧ (∀ v ∈ cur, oneV v = true) ∧
      (∀ (j : Nat) y, es.flatten[j]? = some y → y.one = true ∧ y.dat0 = true) ∧
      (es.flatten ≠ [] → ∃ b o, A = some ⟨b, o, none⟩ ∧ (own = true → g.base ≤ b) ∧ ∀ (j : Nat) v, cur[j]? = some v → g.K b (o + j) = some v) := by
  cases h with
  | sl own tag es A cap sz' vs hl hc hsz' h1 hA hh htag =>
    have hfl := flat_len es sz hsz
    refine ⟨A, cap, (List.range es.flatten.length).map vs, rfl, hl, hc, htag, ⟨by simp, fun j y hy => ?_⟩, by simp [hfl], fun v hv => ?_, h1, fun hne => ?_⟩
    · have hj := (List.getElem?_eq_some_iff.1 hy).1
      have : ((List.range es.flatten.length).map vs).getD j undef = vs j := by
        rw [List.getD_eq_getElem?_getD, List.getElem?_map, List.getElem?_range hj]; rfl
      rw [this]; exact hh j y hy
    · obtain ⟨j, hj, rfl⟩ := List.mem_map.1 hv
      have hj' := List.mem_range.1 hj
      exact (hh j _ (List.getElem?_eq_getElem hj')).oneV (h1 j _ (List.getElem?_eq_getElem hj')).1
    · obtain ⟨b, o, e, ho, hK⟩ := hA hne
      refine ⟨b, o, e, ho, fun j v hv => ?_⟩
      rw [List.getElem?_map, Option.map_eq_some_iff] at hv
      obtain ⟨j', hj', rfl⟩ := hv
      obtain ⟨hlt, rfl⟩ := List.getElem?_eq_some_iff.1 hj'
      simp at hlt
      rw [List.getElem_range]
      exact hK j _ (List.getElem?_eq_getElem (by simpa using hlt))
theorem sl_mk {own : Bool} {tag : Tag} {es : List (List AV)} {sz : Nat} (hsz : ∀ e ∈ es, e.length = sz) (A : Option Addr) (cap : Nat) (cur : List Value) (hl : es.length ≤ cap) (hc : es.length ≤ 140737488355328)
    (h1 : ∀ (j : Nat) y, es.flatten[j]? = some y → y.one = true ∧ y.dat0 = true) (hs : CSim g es.flatten cur)
    (hA : es.flatten ≠ [] → ∃ b o, A = some ⟨b, o, none⟩ ∧ (own = true → g.base ≤ b) ∧ ∀ (j : Nat) v, cur[j]? = some v → g.K b (o + j) = some v) (htag : TagOk g tag A es.length cap) :
    VSim g (.sl own tag es) (.slice A es.length cap) := by
  refine .sl own tag es A cap sz (fun j => cur.getD j undef) hl hc hsz h1 (fun hne => ?_) hs.2 htag
  obtain ⟨b, o, e, ho, hK⟩ := hA hne
  refine ⟨b, o, e, ho, fun j y hy => hK j _ ?_⟩
  have hj := (List.getElem?_eq_some_iff.1 hy).1
  have hj' : j < cur.length := by rw [hs.1]; exact hj
  rw [List.getD_eq_getElem?_getD, List.getElem?_eq_getElem hj']; rfl

/-! ### Slices laid down -/
theorem flat_set : ∀ (es : List (List AV)) (sz i : Nat) (e : List AV), (∀ x ∈ es, x.length = sz) → e.length = sz → i < es.length → (es.set i e).flatten = splice es.flatten (i * sz) e
  | [], sz, i, e, _, _, hi => by simp at hi
  | x :: es, sz, i, e, h, he, hi => by
    have hx := h x (by simp)
    cases i with
    | zero => simp [splice, he, ← hx]
    | succ i =>
      have ih := flat_set es sz i e (fun y hy => h y (List.mem_cons_of_mem _ hy)) he (by simpa using hi)
      have hle : i * sz + sz ≤ es.flatten.length := by
        rw [flat_len es sz (fun y hy => h y (List.mem_cons_of_mem _ hy))]
        have h2 : i < es.length := by simpa using hi
        calc i * sz + sz = (i + 1) * sz := by rw [Nat.add_mul]; omega
          _ ≤ es.length * sz := Nat.mul_le_mul_right _ h2
      simp only [List.set_cons_succ, List.flatten_cons, ih, splice, he]
      have e1 : (i + 1) * sz = x.length + i * sz := by rw [hx, Nat.add_mul]; omega
      rw [e1, List.take_length_add_append, List.append_assoc, List.append_assoc, List.append_assoc, Nat.add_assoc, List.drop_length_add_append]
theorem forget0_sim {v : AV} {x : Value} (h : VSim g v x) : VSim g v.forget0 x := by
  cases h with
  | sl own tag es A cap sz vs hl hc hsz h1 hA hh htag => exact .sl own .none es A cap sz vs hl hc hsz h1 hA hh trivial
  | any x => exact .any x
  | s _ h1 => exact .s _ h1
  | agg l a hs h1 hh => exact .agg l a hs h1 hh
  | tup l a hs hh => exact .tup l a hs hh
  | bp id off b hb => exact .bp id off b hb
  | rp l b o vs h1 hh => exact .rp l b o vs h1 hh
  | fn f caps ca hs hh => exact .fn f caps ca hs hh
  | ifc t v x hh => exact .ifc t v x hh
  | mp id b hb => exact .mp id b hb
theorem fillS_sim (g : Gh) (sz : Nat) : ∀ (parts : List (Nat × AV)) (ps : List (Nat × Value)) (es es' : List (List AV)) (cur : Array Value), PSim g parts ps → (∀ e ∈ es, e.length = sz) → okCells es.flatten = true → CSim g es.flatten cur.toList →
    afillS es sz parts = some es' → ∃ cur', Instr.fill (fun i => some (i * sz, sz)) cur ps = some cur' ∧ es'.length = es.length ∧ (∀ e ∈ es', e.length = sz) ∧ okCells es'.flatten = true ∧ CSim g es'.flatten cur'.toList
  | [], _, es, es', cur, .nil, hsz, h1, hc, h => by
    obtain rfl : es = es' := by simpa [afillS] using h
    exact ⟨cur, rfl, rfl, hsz, h1, hc⟩
  | (i, v) :: parts, _, es, es', cur, .cons _ (x := x) (r := r) hv hr, hsz, h1, hc, h => by
    unfold afillS at h
    split at h
    · rename_i hcond
      obtain ⟨c1, c2, c3, c4⟩ := hcond
      have hx := hv.csim c3
      have hxs : x.cells.size = v.cells.length := by simpa using hx.1
      have hfl := flat_len es sz hsz
      have hcs : cur.size = es.flatten.length := by simpa using hc.1
      have hle : i * sz + sz ≤ es.flatten.length := by
        rw [hfl]
        calc i * sz + sz = (i + 1) * sz := by rw [Nat.add_mul]; omega
          _ ≤ es.length * sz := Nat.mul_le_mul_right _ c2
      have hx' : CSim g (v.cells.map AV.forget0) x.cells.toList := ⟨by simpa using hx.1, fun j y hy => by
        rw [List.getElem?_map, Option.map_eq_some_iff] at hy
        obtain ⟨u, hu, rfl⟩ := hy
        exact forget0_sim (hx.2 j u hu)⟩
      have hset := flat_set es sz i (v.cells.map AV.forget0) hsz (by simpa using c1) c2
      have hsp := hc.splice hx' (i * sz) (by rw [List.length_map, c1]; exact hle)
      obtain ⟨cur', k1, k2, k3, k4, k5⟩ := fillS_sim g sz parts r (es.set i (v.cells.map AV.forget0)) es' (splice cur.toList (i * sz) x.cells.toList).toArray hr
        (fun e he => by rcases List.mem_or_eq_of_mem_set he with h | h
                        · exact hsz e h
                        · rw [h]; simpa using c1)
        (by
          rw [hset]
          unfold okCells at h1 c4 ⊢
          rw [List.all_eq_true] at h1 c4 ⊢
          intro y hy
          simp only [splice, List.mem_append] at hy
          rcases hy with (hy | hy) | hy
          · exact h1 y (List.mem_of_mem_take hy)
          · exact c4 y hy
          · exact h1 y (List.mem_of_mem_drop hy))
        (by rw [hset]; simpa using hsp) h
      refine ⟨cur', ?_, by simpa using k2, k3, k4, k5⟩
      unfold Instr.fill
      have b1 : ¬ (x.cells.size ≠ sz ∨ i * sz + x.cells.size > cur.size) := by omega
      simp only []
      rw [if_neg (by simpa using b1), ← k1]
      congr 1
      exact fold_splice (i * sz) x.cells cur (by omega)
    · cases h
theorem okCells_get {l : List AV} (h : okCells l = true) (j : Nat) (y : AV) (hy : l[j]? = some y) : y.one = true ∧ y.dat0 = true := by
  unfold okCells at h
  rw [List.all_eq_true] at h
  simpa using h y (List.mem_of_getElem? hy)
theorem buildSlice_run (hi : Inv g st w) (t : TypeId) (len : Nat) {parts : List (Nat × AV)} {ps : Array (Nat × Value)} (hp : PSim g parts ps.toList) (h : abuildSlice P (tyOf P t) len parts fun v => K v st) : VRun P (Instr.buildSlice t len ps) g w K := by
  unfold abuildSlice at h
  split at h
  case h_2 => exact h.elim
  rename_i s' ag' z' e sz bytes ht
  obtain ⟨d, hd, hdd⟩ := ty_under ht
  cases d with
  | slice el =>
    simp only [tdOf, TD.slice.injEq] at hdd
    obtain ⟨rfl, rfl, rfl⟩ := hdd
    split at h
    case h_2 => exact h.elim
    rename_i ie hte
    obtain ⟨hz, hok, hzl, hpos, hlim, h⟩ := h
    split at h
    case h_2 => exact h.elim
    rename_i es hes
    obtain ⟨zv, e1, e2⟩ := ty_zero hte hz
    have hzs := (e1 ▸ VSim.ofV g zv : VSim g ie.zero zv).csim hz
    have hzsz : zv.cells.size = P.cellsOf e := by rw [← hzl]; simpa using hzs.1
    have hrep : ∀ x ∈ List.replicate len ie.zero.cells, x.length = P.cellsOf e := fun x hx => by rw [(List.mem_replicate.1 hx).2]; exact hzl
    have hcur0 : CSim g (List.replicate len ie.zero.cells).flatten ((Array.range (len * P.cellsOf e)).map (zv.cells[· % zv.cells.size]!)).toList := by
      refine ⟨by simp [hzl], fun j x hx => ?_⟩
      have hj : j < len * P.cellsOf e := by
        have := (List.getElem?_eq_some_iff.1 hx).1
        simpa [hzl] using this
      have hdm : j = (j / P.cellsOf e) * P.cellsOf e + j % P.cellsOf e := by rw [Nat.mul_comm]; exact (Nat.div_add_mod j _).symm
      have hm := Nat.mod_lt j hpos
      have hq : j / P.cellsOf e < len := by
        rw [Nat.div_lt_iff_lt_mul hpos]; exact hj
      rw [hdm, flatten_get _ _ hrep _ _ hm, List.getElem?_replicate, if_pos hq] at hx
      have hx' : ie.zero.cells[j % P.cellsOf e]? = some x := by simpa using hx
      have := hzs.2 _ x hx'
      have e3 : ((Array.range (len * P.cellsOf e)).map (zv.cells[· % zv.cells.size]!)).toList.getD j undef = zv.cells.toList.getD (j % P.cellsOf e) undef := by
        rw [List.getD_eq_getElem?_getD, List.getD_eq_getElem?_getD]
        simp [hj, hzsz, hm]
      rw [e3]
      exact this
    have hok0 : okCells (List.replicate len ie.zero.cells).flatten = true := by
      unfold okCells at hok ⊢
      rw [List.all_eq_true] at hok ⊢
      intro y hy
      obtain ⟨l, hl, hyl⟩ := List.mem_flatten.1 hy
      rw [(List.mem_replicate.1 hl).2] at hyl
      exact hok y hyl
    obtain ⟨cur', k1, k2, k3, k4, k5⟩ := fillS_sim g _ parts ps.toList _ es _ hp hrep hok0 hcur0 hes
    have hlen : es.length = len := by simpa using k2
    have hone : ∀ (i : Nat) v, cur'[i]? = some v → oneV v = true := fun i v hv => by
      have hlt := (Array.getElem?_eq_some_iff.1 hv).1
      have hlt' : i < es.flatten.length := by rw [← k5.1]; simpa using hlt
      have := (k5.2 i _ (List.getElem?_eq_getElem hlt')).oneV (okCells_get k4 i _ (List.getElem?_eq_getElem hlt')).1
      rw [← arr_getD] at this
      rwa [Array.getD_eq_getD_getElem?, hv] at this
    obtain ⟨g', q1, q2, q3, q4⟩ := hi.row cur' e (0, 0) hone
    refine ⟨.slice (some ⟨w.heap.size, 0, none⟩) es.length es.length, _, g', .sl true .full es, st, ?_, q1, q3, ?_, h⟩
    · have c1 : ¬ len * P.cellsOf e > 2 ^ 24 := by omega
      by_cases h0 : len * P.cellsOf e = 0
      · have hr : Array.range (len * P.cellsOf e) = #[] := by rw [h0]; rfl
        rw [hr] at k1
        simp only [Array.map_empty] at k1
        simp only [Instr.buildSlice, Sem.run_bind, run_underlying hd, Result.andThen_ok, size_pos hpos, c1, if_false, if_pos h0, Sem.run_pure, hr, Array.map_empty, k1, newRow, newObj, hlen]
        rfl
      · simp only [Instr.buildSlice, Sem.run_bind, run_underlying hd, Result.andThen_ok, size_pos hpos, c1, if_false, if_neg h0, e2, Sem.run_pure, k1, newRow, newObj, hlen]
        rfl
    · refine sl_mk (sz := P.cellsOf e) k3 _ _ cur'.toList (Nat.le_refl _) (by rw [hlen]; have : len ≤ len * P.cellsOf e := Nat.le_mul_of_pos_right _ hpos; omega) (okCells_get k4) ⟨k5.1, fun j x hx => (k5.2 j x hx).mono q1⟩ (fun _ => ⟨w.heap.size, 0, rfl, fun _ => ?_, fun j v hv => ?_⟩) rfl
      · unfold Gh.base; rw [q1.w0]; exact hi.base_le
      · rw [Nat.zero_add]; exact q4 j v (by simpa using hv)
  | _ => simp [tdOf] at hdd
theorem makeSlice_run (hi : Inv g st w) (t : TypeId) {n c : AV} {nv cv : Value} (hn : VSim g n nv) (hc : VSim g c cv) (h : amakeSlice P t n c fun v => K v st) : VRun P (Instr.makeSlice t nv cv) g w K := by
  unfold amakeSlice at h
  split at h
  case h_2 => exact h.elim
  rename_i s' ag' z' e sz bytes q n' q' c' ht
  obtain ⟨d, hd, hdd⟩ := ty_under ht
  cases hn
  cases hc
  cases d with
  | slice el =>
    simp only [tdOf, TD.slice.injEq] at hdd
    obtain ⟨rfl, rfl, rfl⟩ := hdd
    split at h
    case h_2 => exact h.elim
    rename_i ie hte
    obtain ⟨hz, hok, hzl, hpos, h0, rfl, hm, hby, hK⟩ := h
    obtain ⟨len, rfl⟩ : ∃ k : Nat, n' = k := ⟨n'.toNat, by omega⟩
    rw [Int.toNat_natCast] at hK
    obtain ⟨zv, e1, e2⟩ := ty_zero hte hz
    have hzs := (e1 ▸ VSim.ofV g zv : VSim g ie.zero zv).csim hz
    have hzsz : zv.cells.size = P.cellsOf e := by rw [← hzl]; simpa using hzs.1
    have hrep : ∀ x ∈ List.replicate len ie.zero.cells, x.length = P.cellsOf e := fun x hx => by rw [(List.mem_replicate.1 hx).2]; exact hzl
    have hcur0 : CSim g (List.replicate len ie.zero.cells).flatten ((Array.range (len * P.cellsOf e)).map (zv.cells[· % zv.cells.size]!)).toList := by
      refine ⟨by simp [hzl], fun j x hx => ?_⟩
      have hj : j < len * P.cellsOf e := by
        have := (List.getElem?_eq_some_iff.1 hx).1
        simpa [hzl] using this
      have hdm : j = (j / P.cellsOf e) * P.cellsOf e + j % P.cellsOf e := by rw [Nat.mul_comm]; exact (Nat.div_add_mod j _).symm
      have hm := Nat.mod_lt j hpos
      have hq : j / P.cellsOf e < len := by
        rw [Nat.div_lt_iff_lt_mul hpos]; exact hj
      rw [hdm, flatten_get _ _ hrep _ _ hm, List.getElem?_replicate, if_pos hq] at hx
      have hx' : ie.zero.cells[j % P.cellsOf e]? = some x := by simpa using hx
      have := hzs.2 _ x hx'
      have e3 : ((Array.range (len * P.cellsOf e)).map (zv.cells[· % zv.cells.size]!)).toList.getD j undef = zv.cells.toList.getD (j % P.cellsOf e) undef := by
        rw [List.getD_eq_getElem?_getD, List.getD_eq_getElem?_getD]
        simp [hj, hzsz, hm]
      rw [e3]
      exact this
    have hok0 : okCells (List.replicate len ie.zero.cells).flatten = true := by
      unfold okCells at hok ⊢
      rw [List.all_eq_true] at hok ⊢
      intro y hy
      obtain ⟨l, hl, hyl⟩ := List.mem_flatten.1 hy
      rw [(List.mem_replicate.1 hl).2] at hyl
      exact hok y hyl
    generalize hcur : (Array.range (len * P.cellsOf e)).map (zv.cells[· % zv.cells.size]!) = cur' at hcur0
    have hone : ∀ (i : Nat) v, cur'[i]? = some v → oneV v = true := fun i v hv => by
      have hlt := (Array.getElem?_eq_some_iff.1 hv).1
      have hlt' : i < (List.replicate len ie.zero.cells).flatten.length := by rw [← hcur0.1]; simpa using hlt
      have := (hcur0.2 i _ (List.getElem?_eq_getElem hlt')).oneV (okCells_get hok0 i _ (List.getElem?_eq_getElem hlt')).1
      rw [← arr_getD] at this
      rwa [Array.getD_eq_getD_getElem?, hv] at this
    obtain ⟨g', q1, q2, q3, q4⟩ := hi.row cur' e (0, 0) hone
    have hty := ty_spec hte
    obtain ⟨ti, d', i1, i2, i3, i4, i5, i6⟩ := hty
    have hby' : ti.bytes = P.bytesOf e := by simp [Program.bytesOf, i1]
    refine ⟨.slice (some ⟨w.heap.size, 0, none⟩) (List.replicate len ie.zero.cells).length (List.replicate len ie.zero.cells).length, _, g', .sl true .full (List.replicate len ie.zero.cells), st, ?_, q1, q3, ?_, hK⟩
    · have w1 : IntKind.i64.wrap (len : Int) = (len : Int) := IntWalk.i64_in _ (by omega)
      have hb2 : (P.bytesOf e : Int) * (len : Int) ≤ 16777216 := by rw [Int.mul_comm]; exact hby
      have c1 : ¬ ((P.bytesOf e : Int) * (len : Int) > 281474976710656) := by omega
      have c2 : ¬ len * P.bytesOf e > roomBytes := by
        have : ((len * P.bytesOf e : Nat) : Int) ≤ 16777216 := by push_cast; exact hby
        unfold roomBytes
        omega
      by_cases h00 : len * P.cellsOf e = 0
      · have hr : Array.range (len * P.cellsOf e) = #[] := by rw [h00]; rfl
        rw [hr] at hcur
        simp only [Array.map_empty] at hcur
        subst hcur
        simp [Instr.makeSlice, run_underlying hd, asInt, asIntOf, typeInfo, i1, w1, c1, hby', askRoom, c2, size_pos hpos, h00, newRow, newObj]
        rw [if_neg (by omega), show Array.range 0 = #[] from rfl, Array.map_empty]
        rfl
      · simp [Instr.makeSlice, run_underlying hd, asInt, asIntOf, typeInfo, i1, w1, c1, hby', askRoom, c2, size_pos hpos, h00, e2, hcur, newRow, newObj]
        rw [if_neg (by omega)]
        rfl
    · refine sl_mk (sz := P.cellsOf e) hrep _ _ cur'.toList (Nat.le_refl _) (by simp; omega) (okCells_get hok0) ⟨hcur0.1, fun j x hx => (hcur0.2 j x hx).mono q1⟩ (fun _ => ⟨w.heap.size, 0, rfl, fun _ => ?_, fun j v hv => ?_⟩) rfl
      · unfold Gh.base; rw [q1.w0]; exact hi.base_le
      · rw [Nat.zero_add]; exact q4 j v (by simpa using hv)
  | _ => simp [tdOf] at hdd
end Go.Proofs.YtjodibncpbjegaaDoor
