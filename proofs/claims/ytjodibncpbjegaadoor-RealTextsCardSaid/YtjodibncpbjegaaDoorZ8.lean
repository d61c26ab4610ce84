/- Merged: Avm7. -/
import Derived.Test.YtjodibncpbjegaaDoorZ7
/- Each operation, run: slices cut, bytes told as a string, append. No program. -/
set_option linter.unusedVariables false
set_option linter.unusedSimpArgs false
namespace Go.Proofs.YtjodibncpbjegaaDoor
open Go.RowKit

variable {P : Program} {g : Gh} {st : AS} {w : World} {K : AV → AS → Prop}

theorem flat_cut (es : List (List AV)) (sz : Nat) (hsz : ∀ e ∈ es, e.length = sz) (l h : Nat) (hh : h ≤ es.length) (j : Nat) (y : AV) (hy : ((es.take h).drop l).flatten[j]? = some y) : es.flatten[l * sz + j]? = some y := by
  have h1 : ∀ e ∈ es.take h, e.length = sz := fun e he => hsz e (List.mem_of_mem_take he)
  have h2 : ∀ e ∈ (es.take h).drop l, e.length = sz := fun e he => h1 e (List.mem_of_mem_drop he)
  have hj := (List.getElem?_eq_some_iff.1 hy).1
  rw [flat_len _ sz h2] at hj
  have hpos : 0 < sz := by
    rcases Nat.eq_zero_or_pos sz with h0 | h0
    · subst h0; simp at hj
    · exact h0
  have hdm : j = (j / sz) * sz + j % sz := by rw [Nat.mul_comm]; exact (Nat.div_add_mod j _).symm
  have hm := Nat.mod_lt j hpos
  rw [hdm, flatten_get _ sz h2 _ _ hm] at hy
  have e1 : l * sz + j = (l + j / sz) * sz + j % sz := by rw [Nat.add_mul, Nat.add_assoc]; exact congrArg (l * sz + ·) hdm
  rw [e1, flatten_get _ sz hsz _ _ hm]
  cases hx : ((es.take h).drop l)[j / sz]? with
  | none => rw [hx] at hy; simp at hy
  | some e =>
    rw [hx] at hy
    rw [List.getElem?_drop, List.getElem?_take] at hx
    split at hx
    · rw [hx]; exact hy
    · cases hx
theorem bound_lo {k : IntKind} {n : Int} {y : Nat} {c : BoundsCode} (h0 : 0 ≤ n) (h1 : n ≤ y) : (Instr.sliceBound (.int k n) y c).run P w = .ok n.toNat w := by
  have : (0 : Int) ≤ n ∧ n ≤ (y : Int) := ⟨h0, h1⟩
  simp only [Instr.sliceBound, asIntOf, Sem.run_bind, Sem.run_pure, Result.andThen_ok, this, and_self, if_true]
theorem slice_run (hi : Inv g st w) (t : TypeId) {a : AV} {x : Value} (hv : VSim g a x) (lo hi' : Option AV) (los his : Option Value) (hlo : ∀ v, lo = some v → ∃ y, los = some y ∧ VSim g v y) (hln : lo = none → los = none)
    (hhi : ∀ v, hi' = some v → ∃ y, his = some y ∧ VSim g v y) (hhn : hi' = none → his = none) (h : aslice P t a lo hi' fun v => K v st) : VRun P (Instr.sliceAt t x los his none) g w K := by
  have lit : ∀ (u : Value), x = u → (match lo.map AV.lit, hi'.map AV.lit with
      | none, none => TRun P (Instr.sliceAt t u none none none) fun r => K (AV.ofV r) st
      | some (some l), none => TRun P (Instr.sliceAt t u (some l) none none) fun r => K (AV.ofV r) st
      | none, some (some h) => TRun P (Instr.sliceAt t u none (some h) none) fun r => K (AV.ofV r) st
      | some (some l), some (some h) => TRun P (Instr.sliceAt t u (some l) (some h) none) fun r => K (AV.ofV r) st
      | _, _ => False) → VRun P (Instr.sliceAt t x los his none) g w K := by
    rintro u rfl h
    cases lo with
    | none =>
      obtain rfl := hln rfl
      cases hi' with
      | none => obtain rfl := hhn rfl; exact lit_run hi h
      | some b =>
        obtain ⟨y, rfl, hy⟩ := hhi b rfl
        cases hb : b.lit with
        | none => simp only [Option.map_none, Option.map_some, hb] at h
        | some z => simp only [Option.map_none, Option.map_some, hb] at h; rw [hy.lit hb]; exact lit_run hi h
    | some a =>
      obtain ⟨y, rfl, hy⟩ := hlo a rfl
      cases ha : a.lit with
      | none => cases hi' <;> simp only [Option.map_none, Option.map_some, ha] at h
      | some z =>
        rw [hy.lit ha]
        cases hi' with
        | none => obtain rfl := hhn rfl; simp only [Option.map_none, Option.map_some, ha] at h; exact lit_run hi h
        | some b =>
          obtain ⟨y2, rfl, hy2⟩ := hhi b rfl
          cases hb : b.lit with
          | none => simp only [Option.map_none, Option.map_some, ha, hb] at h
          | some z2 => simp only [Option.map_none, Option.map_some, ha, hb] at h; rw [hy2.lit hb]; exact lit_run hi h
  unfold aslice at h
  split at h
  · rename_i own tag es
    split at h
    case h_2 => exact h.elim
    rename_i s' ag' z' e sz bytes ht
    obtain ⟨d, hd, hdd⟩ := ty_under ht
    cases d with
    | slice el =>
      simp only [tdOf, TD.slice.injEq] at hdd
      obtain ⟨rfl, rfl, rfl⟩ := hdd
      split at h
      case h_2 => exact h.elim
      rename_i kl l kh hb hll hhh
      obtain ⟨l0, l1, l2, hpos, hsz, hk⟩ := h
      obtain ⟨A, cap, cur, rfl, c1, c2, c3, c4, c5, c6, c7, c8⟩ := sl_cells hi hv hsz
      have hlen : ((es.take hb.toNat).drop l.toNat).length = hb.toNat - l.toNat := by simp; omega
      have hbounds : (Instr.sliceBounds true es.length cap los his none).run P w = .ok (l.toNat, hb.toNat, cap) w := by
        have el : los = none → l = 0 := fun hl => by
          cases lo with
          | none => simp at hll; exact hll.2.symm
          | some a => obtain ⟨y, e, _⟩ := hlo a rfl; rw [hl] at e; cases e
        have eh : his = none → hb = es.length := fun hh => by
          cases hi' with
          | none => simp at hhh; exact hhh.2.symm
          | some a => obtain ⟨y, e, _⟩ := hhi a rfl; rw [hh] at e; cases e
        have sl' : ∀ y, los = some y → y = .int kl l := fun y hy => by
          cases lo with
          | none => rw [hln rfl] at hy; cases hy
          | some a =>
            obtain ⟨z, e, hz⟩ := hlo a rfl
            rw [hy] at e
            obtain rfl := Option.some.inj e
            simp at hll
            rw [hll] at hz
            cases hz; rfl
        have sh' : ∀ y, his = some y → y = .int kh hb := fun y hy => by
          cases hi' with
          | none => rw [hhn rfl] at hy; cases hy
          | some a =>
            obtain ⟨z, e, hz⟩ := hhi a rfl
            rw [hy] at e
            obtain rfl := Option.some.inj e
            simp at hhh
            rw [hhh] at hz
            cases hz; rfl
        have hc : hb ≤ (cap : Int) := by omega
        have hlh : l ≤ (hb.toNat : Int) := by omega
        cases hls : los with
        | none =>
          have e0 := el hls
          cases hhs : his with
          | none =>
            have e1 := eh hhs
            simp only [Instr.sliceBounds, Sem.run_bind, Sem.run_pure, Result.andThen_ok, if_true, e0, e1]
            simp
          | some y =>
            rw [sh' y hhs]
            simp only [Instr.sliceBounds, Sem.run_bind, Sem.run_pure, Result.andThen_ok, if_true, bound_lo (P := P) (w := w) (by omega : (0 : Int) ≤ hb) hc, e0]
            simp
        | some z =>
          rw [sl' z hls]
          cases hhs : his with
          | none =>
            have e1 := eh hhs
            subst e1
            simp only [Instr.sliceBounds, Sem.run_bind, Sem.run_pure, Result.andThen_ok, if_true, Option.isSome_none, Bool.false_eq_true, if_false, bound_lo (P := P) (w := w) l0 l1]
            simp
          | some y =>
            rw [sh' y hhs]
            simp only [Instr.sliceBounds, Sem.run_bind, Sem.run_pure, Result.andThen_ok, if_true, Option.isSome_none, Bool.false_eq_true, if_false, bound_lo (P := P) (w := w) (by omega : (0 : Int) ≤ hb) hc, bound_lo (P := P) (w := w) l0 hlh]
      refine .same hi (v := .sl own .none ((es.take hb.toNat).drop l.toNat)) (x := .slice (if cap = l.toNat then A else A.map (·.add (l.toNat * P.cellsOf e))) ((es.take hb.toNat).drop l.toNat).length (cap - l.toNat)) ?_ ?_ hk
      · have hu := run_underlying hd w
        simp only [Instr.sliceAt, Instr.slice, Sem.run_bind, hu, Result.andThen_ok, hbounds, size_pos hpos, Sem.run_pure, hlen]
      · have hsub : ∀ e' ∈ (es.take hb.toNat).drop l.toNat, e'.length = P.cellsOf e := fun e' he => hsz e' (List.mem_of_mem_take (List.mem_of_mem_drop he))
        have hcut := fun (j : Nat) (y : AV) hy => flat_cut es _ hsz l.toNat hb.toNat (by omega) j y hy
        have hfl := flat_len es _ hsz
        have hfl2 := flat_len _ _ hsub
        have hle : l.toNat * P.cellsOf e + ((es.take hb.toNat).drop l.toNat).flatten.length ≤ cur.length := by
          rw [c5, hfl2, hlen, ← Nat.add_mul]
          exact Nat.mul_le_mul_right _ (by omega)
        refine sl_mk hsub _ _ ((cur.drop (l.toNat * P.cellsOf e)).take ((es.take hb.toNat).drop l.toNat).flatten.length) (by rw [hlen]; omega) (by rw [hlen]; omega) (fun j y hy => c7 _ y (hcut j y hy)) ⟨by simp only [List.length_take, List.length_drop]; omega, fun j y hy => ?_⟩ (fun hne => ?_) trivial
        · have hj := (List.getElem?_eq_some_iff.1 hy).1
          have := c4.2 _ y (hcut j y hy)
          rw [List.getD_eq_getElem?_getD] at this ⊢
          rw [List.getElem?_take, if_pos hj, List.getElem?_drop]
          exact this
        · have hpos2 : 0 < ((es.take hb.toNat).drop l.toNat).flatten.length := List.length_pos_iff.2 hne
          have hl2 : 0 < hb.toNat - l.toNat := by
            rcases Nat.eq_zero_or_pos (hb.toNat - l.toNat) with h0 | h0
            · rw [hfl2, hlen, h0] at hpos2; simp at hpos2
            · exact h0
          have hne' : es.flatten ≠ [] := fun h0 => by
            have h1 : es.flatten.length = 0 := by rw [h0]; rfl
            rw [hfl] at h1
            have : 0 < es.length * P.cellsOf e := Nat.mul_pos (by omega) hpos
            omega
          obtain ⟨b, o, rfl, ho, hK⟩ := c8 hne'
          rw [if_neg (by omega)]
          refine ⟨b, o + l.toNat * P.cellsOf e, by rw [← add_spot]; rfl, ho, fun j v hv => ?_⟩
          rw [List.getElem?_take] at hv
          split at hv
          · rw [List.getElem?_drop] at hv
            rw [Nat.add_assoc]
            exact hK _ v hv
          · cases hv
    | _ => simp [tdOf] at hdd
  · split at h
    · rename_i u hu
      exact lit u (hv.lit hu) h
    · exact h.elim
theorem index_run (hi : Inv g st w) (t : TypeId) {a i : AV} {x n : Value} (hv : VSim g a x) (hn : VSim g i n) (h : aindex P t a i fun v => K v st) : VRun P (Instr.index t x n) g w K := by
  unfold aindex at h
  split at h
  · rename_i l
    split at h
    case h_2 => exact h.elim
    rename_i s' ag' z' len k m ht
    obtain ⟨d, hd, hdd⟩ := ty_under ht
    cases d with
    | array n' el =>
      simp only [tdOf, TD.array.injEq] at hdd
      obtain ⟨rfl, hs1, hag⟩ := hdd
      obtain ⟨h0, h1, h⟩ := h
      cases hx : l[m.toNat]? with
      | none => rw [hx] at h; exact h.elim
      | some y =>
        rw [hx] at h
        cases hn
        cases hv with
        | agg l a hs k1 hh =>
          have hlt := (List.getElem?_eq_some_iff.1 hx).1
          have c1 : (0 : Int) ≤ m ∧ m < (len : Int) := ⟨h0, h1⟩
          have hpos : 0 < P.cellsOf el := by omega
          have hse := size_pos (P := P) (t := el) hpos w
          rw [← hs1] at hse
          refine .same hi (v := y) (x := a.getD m.toNat undef) ?_ (hh _ y hx) h
          have e : a[m.toNat]? = some (a.getD m.toNat undef) := by simp [Array.getD, show m.toNat < a.size by omega]
          have hagr := agg_is (P := P) (t := el) hag.symm w
          simp only [Instr.index, asIntOf, Sem.run_bind, Sem.run_pure, Result.andThen_ok, run_underlying hd, c1, and_self, if_true, hse, part, hagr, Bool.false_eq_true, if_false, Nat.mul_one, e]
    | _ => simp [tdOf] at hdd
  · split at h
    · rename_i u n' hu hn'
      rw [hv.lit hu, hn.lit hn']
      exact lit_run hi h
    · exact h.elim

/-! ### append -/
theorem read_cells {A : Option Addr} {n : Nat} {old : List Value} {sz : Nat} (hi : Inv g st w) (hl : old.length = n * sz) (h : old ≠ [] → ∃ b o, A = some ⟨b, o, none⟩ ∧ ∀ (j : Nat) v, old[j]? = some v → g.K b (o + j) = some v) (hn : n * sz = 0 → n = 0) (cap : Nat) :
    (Builtin.firstCells sz n (.slice A n cap)).run P w = .ok old.toArray w := by
  rcases A with _ | ad
  · have h0 : old = [] := Classical.byContradiction fun hne => by
      obtain ⟨b, o, e, _⟩ := h hne
      cases e
    subst h0
    exact run_firstCells_none w sz n n cap
  · refine run_firstCells_some w sz n ad n cap old hl (fun j v hv => ?_)
    obtain ⟨b, o, e, hK⟩ := h (fun h0 => by rw [h0] at hv; simp at hv)
    obtain rfl := Option.some.inj e
    rw [add_spot]
    exact (hi.K _ _ _ (hK j v hv)).1
theorem Inv.drew (hi : Inv g st w) : Inv g st w.drew := hi.kept_ (Kept.refl w).drew
/-- What append makes when it makes a row. -/
theorem grow_core (hi : Inv g st w) {t u ty e : TypeId} {i : TypeInfo} {z : Value} {sz : Nat} (ht : P.underlying t = some (.slice e)) (hinf : P.info? e = some i) (hz : i.zero = some z) (hs : i.size = sz) (hzs : z.cells.size = sz)
    {A : Option Addr} {n cap m : Nat} {old cur : List Value} {xv : Value} (hlo : old.length = n * sz) (hold : ∀ w', Inv g st w' → (Builtin.firstCells sz n (.slice A n cap)).run P w' = .ok old.toArray w') (hsrc : _root_.Go.Src P sz u xv m cur w) (hg : cap < n + m) (hb : (n + m) * i.bytes ≤ 140737488355328) (hpos : 0 < i.bytes) :
    ∃ gc C, (Builtin.append_ #[t, u] ty #[.slice A n cap, xv]).run P w = .ok (.slice (some ⟨w.heap.size, 0, none⟩) (n + m) gc) (w.drew.alloc (.cells C e)) ∧ n + m ≤ gc ∧ C.size = gc * sz ∧ C.toList.take ((n + m) * sz) = old ++ cur := by
  subst hs
  have hb' : n + m ≤ 140737488355328 := Nat.le_trans (Nat.le_mul_of_pos_right _ hpos) hb
  have hr := run_append_grow_src (P := P) w t u ty e i z ht hinf hz A n cap old (hold _ hi.drew) xv m cur hsrc hg (by omega) (growslice_fits hg hb)
  have hge := grownCap_ge w (n + m) cap e
  have hlen : (old ++ cur).length = (n + m) * i.size := by rw [List.length_append, hlo, hsrc.newsLen, Nat.add_mul]
  refine ⟨_, _, hr, hge, ?_, ?_⟩
  · simp only [Array.size_append, List.size_toArray, size_zeroCells, hzs, hlen, ← Nat.add_mul]
    congr 1
    omega
  · simp only [Array.toList_append]
    rw [← hlen]
    exact List.take_left
/-- The growing row is a new one from now on. -/
theorem Inv.lin_fresh (hi : Inv g st w) (C : Array Value) (e : TypeId) (sz n gc : Nat) (hgc : n ≤ gc) (hg0 : 0 < gc) (hC : C.size = gc * sz) (h1 : ∀ v ∈ C.toList.take (n * sz), oneV v = true) (idx : Nat) (ln : List Lin) (sln : List (Nat × Nat × Nat)) (hlen : ln.length = sln.length)
    (hidx : ∀ (i : Nat) L, ln[i]? = some L → if i = idx then L = ⟨some ⟨w.heap.size, 0, none⟩, n, gc, e, sz⟩ ∧ sln[i]? = some (n, e, sz) else g.ln[i]? = some L ∧ sln[i]? = st.ln[i]?)
    (hle : ∀ (i : Nat) L, g.ln[i]? = some L → ∃ L', ln[i]? = some L' ∧ L.n ≤ L'.n ∧ (L.n = L'.n → L' = L)) :
    ∃ g', g.le g' ∧ g'.ln = ln ∧ Inv g' { st with ln := sln } (w.alloc (.cells C e)) ∧ ∀ (o : Nat) v, (C.toList.take (n * sz))[o]? = some v → g'.K w.heap.size o = some v := by
  have hk := (Kept.refl w).alloc (.cells C e)
  have H := hi.kept_ hk
  have hKn : ∀ o, g.K w.heap.size o = none := fun o => by
    cases h : g.K w.heap.size o with
    | none => rfl
    | some v => have := hi.K_lt h; omega
  refine ⟨{ g with K := fun b o => if b = w.heap.size then (C.toList.take (n * sz))[o]? else g.K b o, ln := ln }, ?_, rfl, ?_, fun o v hv => ?_⟩
  · exact ⟨rfl, fun b o v hv => by
      have := hi.K_lt hv
      show (if b = w.heap.size then _ else g.K b o) = some v
      rw [if_neg (by omega)]; exact hv, fun _ _ h => h, hle⟩
  · have hsub : g.sub { g with K := fun b o => if b = w.heap.size then (C.toList.take (n * sz))[o]? else g.K b o, ln := ln } := ⟨rfl, fun b o v hv => by
      have := hi.K_lt hv
      show (if b = w.heap.size then _ else g.K b o) = some v
      rw [if_neg (by omega)]; exact hv⟩
    have hle' : g.le { g with K := fun b o => if b = w.heap.size then (C.toList.take (n * sz))[o]? else g.K b o, ln := ln } := ⟨rfl, hsub.K, fun _ _ h => h, hle⟩
    refine ⟨fun b o v hv => ?_, H.bxlen, fun i b cs hb hc => ?_, fun b hb => ?_, H.bxnd, hlen, fun i L hL => ?_, fun i j L L' a a' hL hL' hc1 hc2 ha ha' he => ?_, H.kept, H.ok, fun b o v hv hb => by
      by_cases e' : b = w.heap.size
      · subst e'
        intro C' T' lo hi' h
        rw [heap_alloc_new w _] at h
        cases h
        exact .inl rfl
      · exact H.nf b o v (by simpa [e'] using hv) hb⟩
    · by_cases e' : b = w.heap.size
      · subst e'
        have hv' : (C.toList.take (n * sz))[o]? = some v := by simpa using hv
        refine ⟨?_, h1 v (List.mem_of_getElem? hv')⟩
        unfold World.cell?
        rw [show (w.alloc (.cells C e)).heap[(⟨w.heap.size, o, none⟩ : Addr).block]? = some (.cells C e) from heap_alloc_new w _]
        rw [List.getElem?_take] at hv'
        split at hv'
        · simpa using hv'
        · cases hv'
      · have hv' : g.K b o = some v := by simpa [e'] using hv
        exact H.K b o v hv'
    · obtain ⟨cur', T', h1, h2, h3⟩ := H.bx i b cs hb hc
      exact ⟨cur', T', h1, h2, fun j x hx => (h3 j x hx).mono hle'⟩
    · refine ⟨(hi.bxK b hb).1, fun o => ?_, (hi.bxK b hb).2.2⟩
      have := hi.bx_lt hb
      show (if b = w.heap.size then _ else g.K b o) = none
      rw [if_neg (by omega)]; exact (hi.bxK b hb).2.1 o
    · have := hidx i L hL
      split at this
      · obtain ⟨rfl, hs⟩ := this
        refine ⟨hs, .inr ⟨w.heap.size, C, rfl, hi.base_le, fun hm => ?_, heap_alloc_new w _, hgc, hg0, hC, fun o ho => ?_, fun o ho => ?_⟩⟩
        · have := hi.bx_lt hm; omega
        · show (if w.heap.size = w.heap.size then (C.toList.take (n * sz))[o]? else _) = _
          rw [if_pos rfl, List.getElem?_take, if_pos ho]; simp
        · show (if w.heap.size = w.heap.size then (C.toList.take (n * sz))[o]? else _) = _
          rw [if_pos rfl, List.getElem?_take, if_neg (by simp at ho; omega)]
      · obtain ⟨hL0, hs⟩ := this
        obtain ⟨k1, k2⟩ := H.ln i L hL0
        have hlt := (hi.ln i L hL0).2
        refine ⟨by rw [hs]; exact k1, ?_⟩
        rcases k2 with k2 | ⟨b, cur', e1, e2, e3, e4, e5, e6, e7, e8, e9⟩
        · exact .inl k2
        · have hb : b ≠ w.heap.size := by have := (LinOk.lt hlt e6 e1).1; simp at this; omega
          refine .inr ⟨b, cur', e1, e2, e3, e4, e5, e6, e7, fun o ho => ?_, fun o ho => ?_⟩
          · show (if b = w.heap.size then _ else g.K b o) = _
            rw [if_neg hb]; exact e8 o ho
          · show (if b = w.heap.size then _ else g.K b o) = _
            rw [if_neg hb]; exact e9 o ho
    · have h1 := hidx i L hL
      have h2 := hidx j L' hL'
      by_cases hii : i = idx <;> by_cases hjj : j = idx
      · omega
      · rw [if_pos hii] at h1
        rw [if_neg hjj] at h2
        obtain ⟨rfl, _⟩ := h1
        obtain rfl := Option.some.inj ha
        have := (LinOk.lt (hi.ln j L' h2.1).2 hc2 ha').1
        simp at he; omega
      · rw [if_neg hii] at h1
        rw [if_pos hjj] at h2
        obtain ⟨rfl, _⟩ := h2
        obtain rfl := Option.some.inj ha'
        have := (LinOk.lt (hi.ln i L h1.1).2 hc1 ha).1
        simp at he; omega
      · rw [if_neg hii] at h1
        rw [if_neg hjj] at h2
        exact hi.lnd i j L L' a a' h1.1 h2.1 hc1 hc2 ha ha' he
  · show (if w.heap.size = w.heap.size then (C.toList.take (n * sz))[o]? else _) = _
    rw [if_pos rfl]; exact hv
/-- A growing row that has no room. -/
theorem Inv.lin_empty (hi : Inv g st w) (A : Option Addr) (e : TypeId) (sz : Nat) : ∃ g', g.le g' ∧ g'.ln = g.ln ++ [⟨A, 0, 0, e, sz⟩] ∧ g'.K = g.K ∧ Inv g' { st with ln := st.ln ++ [(0, e, sz)] } w := by
  have hle : g.le { g with ln := g.ln ++ [⟨A, 0, 0, e, sz⟩] } := ⟨rfl, fun _ _ _ h => h, fun _ _ h => h, fun i L hL => ⟨L, by
    show (g.ln ++ [_])[i]? = _
    rw [List.getElem?_append_left (List.getElem?_eq_some_iff.1 hL).1]; exact hL, Nat.le_refl _, fun _ => rfl⟩⟩
  refine ⟨{ g with ln := g.ln ++ [⟨A, 0, 0, e, sz⟩] }, hle, rfl, rfl, ?_⟩
  have get : ∀ (i : Nat) L, (g.ln ++ [(⟨A, 0, 0, e, sz⟩ : Lin)])[i]? = some L → g.ln[i]? = some L ∨ (i = g.ln.length ∧ L = ⟨A, 0, 0, e, sz⟩) := fun i L hL => by
    rcases Nat.lt_or_ge i g.ln.length with h | h
    · rw [List.getElem?_append_left h] at hL; exact .inl hL
    · have hlt := (List.getElem?_eq_some_iff.1 hL).1
      have : i = g.ln.length := by simp at hlt; omega
      subst this
      right
      exact ⟨rfl, by simpa using hL.symm⟩
  refine ⟨hi.K, hi.bxlen, fun i b cs hb hc => ?_, hi.bxK, hi.bxnd, by simp [hi.lnlen], fun i L hL => ?_, fun i j L L' a a' hL hL' hc1 hc2 ha ha' he => ?_, hi.kept, hi.ok, hi.nf⟩
  · obtain ⟨cur', T', h1, h2, h3⟩ := hi.bx i b cs hb hc
    exact ⟨cur', T', h1, h2, fun j x hx => (h3 j x hx).mono hle⟩
  · rcases get i L hL with h | ⟨rfl, rfl⟩
    · obtain ⟨h1, h2⟩ := hi.ln i L h
      refine ⟨?_, h2⟩
      show (st.ln ++ _)[i]? = _
      rw [List.getElem?_append_left (List.getElem?_eq_some_iff.1 h1).1]; exact h1
    · refine ⟨?_, .inl ⟨rfl, rfl⟩⟩
      show (st.ln ++ _)[g.ln.length]? = _
      rw [hi.lnlen]; simp
  · rcases get i L hL with h | ⟨_, rfl⟩
    · rcases get j L' hL' with h' | ⟨_, rfl⟩
      · exact hi.lnd i j L L' a a' h h' hc1 hc2 ha ha' he
      · simp at hc2
    · simp at hc1
end Go.Proofs.YtjodibncpbjegaaDoor
