/- Merged: AvmM. -/
import Derived.Test.YtjodibncpbjegaaDoorZ9
import Derived.MapKept
/- Maps: made, looked up, written. No program. -/
set_option linter.unusedVariables false
set_option linter.unusedSimpArgs false
namespace Go.Proofs.YtjodibncpbjegaaDoor
open Go.RowKit

variable {P : Program} {g : Gh} {st : AS} {w : World} {K : AV → AS → Prop}
def EntSim (g : Gh) (p : Value × AV) (e : MapEntry) : Prop := VSim g (AV.ofV p.1) e.key ∧ VSim g p.2 e.val
theorem map_block (hi : Inv g st w) {id b : Nat} {m : List (Value × AV)} (hb : g.bx[id]? = some b) (hc : st.bx[id]? = some (mapBox m)) :
    ∃ es clk, w.heap[b]? = some (.map es clk) ∧ Born es clk ∧ es.size = m.length ∧ ∀ (j : Nat) p, m[j]? = some p → ∃ e, es[j]? = some e ∧ EntSim g p e := by
  obtain ⟨cur, T, ⟨es, clk, h1, rfl, hbn⟩, e2, e3⟩ := hi.bx id b _ hb hc
  refine ⟨es, clk, h1, hbn, ?_⟩
  have h0 := e3 0 _ rfl
  have h0' : VSim g (.tup (m.map fun p => .tup [AV.ofV p.1, p.2])) (mapCell es) := h0
  cases h0' with
  | tup l a hs hh =>
    refine ⟨by simpa using hs, fun j p hp => ?_⟩
    have hj := hh j (.tup [AV.ofV p.1, p.2]) (by simp [hp])
    have hlt : j < es.size := by
      have := (List.getElem?_eq_some_iff.1 hp).1
      simp at hs
      omega
    refine ⟨es[j], by simp [hlt], ?_⟩
    have e : (es.map fun e => Value.tuple #[e.key, e.val]).getD j undef = .tuple #[es[j].key, es[j].val] := by simp [Array.getD, hlt]
    rw [e] at hj
    cases hj with
    | tup l a hs hh => exact ⟨hh 0 _ rfl, hh 1 _ rfl⟩
theorem map_cell {m : List (Value × AV)} {es : Array MapEntry} (hs : es.size = m.length) (h : ∀ (j : Nat) p, m[j]? = some p → ∃ e, es[j]? = some e ∧ EntSim g p e) : CSim g (mapBox m) (#[mapCell es] : Array Value).toList := by
  refine ⟨rfl, fun j x hx => ?_⟩
  cases j with
  | succ j => simp [mapBox] at hx
  | zero =>
    obtain rfl := Option.some.inj hx
    refine .tup _ _ (by simpa using hs) (fun j x hx => ?_)
    rw [List.getElem?_map, Option.map_eq_some_iff] at hx
    obtain ⟨p, hp, rfl⟩ := hx
    obtain ⟨e, he, h1, h2⟩ := h j p hp
    have e1 : (es.map fun e => Value.tuple #[e.key, e.val]).getD j undef = .tuple #[e.key, e.val] := by
      obtain ⟨hlt, rfl⟩ := Array.getElem?_eq_some_iff.1 he
      simp [Array.getD, hlt]
    rw [e1]
    refine .tup _ _ rfl (fun i x hx => ?_)
    match i, hx with
    | 0, hx => obtain rfl := Option.some.inj hx; exact h1
    | 1, hx => obtain rfl := Option.some.inj hx; exact h2
theorem Born.modify {es : Array MapEntry} {clk : Nat} (h : Born es clk) (j : Nat) (f : MapEntry → MapEntry) (hf : ∀ e, (f e).born = e.born) : Born (es.modify j f) clk := by
  refine ⟨fun i e he => ?_, by simp [h.2]⟩
  rw [Array.getElem?_modify] at he
  split at he
  · obtain ⟨e0, h0, rfl⟩ := Option.map_eq_some_iff.1 he
    rw [hf]
    exact h.1 i e0 h0
  · exact h.1 i e he
theorem Born.push {es : Array MapEntry} {clk : Nat} (h : Born es clk) (e0 : MapEntry) (h0 : e0.born = clk) : Born (es.push e0) (clk + 1) := by
  refine ⟨fun i e he => ?_, by simp [h.2]⟩
  rw [Array.getElem?_push] at he
  split at he
  · rename_i hi
    obtain rfl := Option.some.inj he
    rw [h0, h.2, hi]
  · exact h.1 i e he
theorem Born.find {es : Array MapEntry} {clk : Nat} (h : Born es clk) {n : Nat} (hn : n < es.size) : es.findIdx? (fun e => ((e.born : Nat) : Int) == (n : Int)) = some n := by
  rw [Array.findIdx?_eq_some_iff_getElem]
  refine ⟨hn, ?_, fun j hj => ?_⟩
  · rw [h.1 n _ (Array.getElem?_eq_getElem hn)]; simp
  · rw [h.1 j _ (Array.getElem?_eq_getElem (by omega))]
    simp only [Bool.not_eq_true, beq_eq_false_iff_ne, ne_eq, Int.natCast_inj]
    omega
theorem make_run (hi : Inv g st w) (t : TypeId) (h : amake P t st K) : VRun P (Instr.makeMap t none) g w K := by
  obtain ⟨_, hk⟩ := h
  obtain ⟨g', h1, h2, h3⟩ := hi.boxObj (mapBox []) #[mapCell #[]] 0 (.map #[] 0) rfl ⟨#[], 0, rfl, rfl, fun i e h => by simp at h, rfl⟩ (fun j x hx => by rw [arr_getD]; exact (map_cell (g := g) (m := []) (es := #[]) rfl (fun j p hp => by simp at hp)).2 j x hx)
  exact ⟨_, _, g', _, _, rfl, h1, h2, .mp _ _ h3, hk⟩
theorem ent_keys {kt : TypeId} {m : List (Value × AV)} {es : Array MapEntry} (hm : ∀ p ∈ m, KeyOk P kt p.1) (hs : es.size = m.length) (h : ∀ (j : Nat) p, m[j]? = some p → ∃ e, es[j]? = some e ∧ EntSim g p e) :
    (∀ e ∈ es.toList, ∃ l, keyOf P kt e.key = some l) ∧ ∀ (j : Nat) e, es[j]? = some e → ∃ v, m[j]? = some (e.key, v) ∧ VSim g v e.val := by
  have get : ∀ (j : Nat) e, es[j]? = some e → ∃ v, m[j]? = some (e.key, v) ∧ VSim g v e.val := fun j e he => by
    have hlt : j < m.length := by have := (Array.getElem?_eq_some_iff.1 he).1; omega
    have hp := List.getElem?_eq_getElem hlt
    obtain ⟨e', he', h1, h2⟩ := h j _ hp
    rw [he] at he'
    obtain rfl := Option.some.inj he'
    have hk := (hm _ (List.mem_of_getElem? hp)).2
    have := h1.lit hk
    refine ⟨m[j].2, ?_, h2⟩
    rw [hp, this]
  refine ⟨fun e he => ?_, get⟩
  obtain ⟨j, hj⟩ := List.getElem?_of_mem he
  obtain ⟨v, h1, _⟩ := get j e (by simpa using hj)
  exact (hm _ (List.mem_of_getElem? h1)).1
theorem find_run {kt : TypeId} {m : List (Value × AV)} {es : Array MapEntry} {kv : Value} {r : Option (Nat × AV)} (K0 : Maps.Keyed P kt) (hk : KeyOk P kt kv) (hm : ∀ p ∈ m, KeyOk P kt p.1) (hs : es.size = m.length)
    (h : ∀ (j : Nat) p, m[j]? = some p → ∃ e, es[j]? = some e ∧ EntSim g p e) (hr : Finds m kv r) (w : World) :
    match r with
    | some (j, v) => ∃ e, (Instr.findKey kt kv es.toList).run P w = .ok (some (j, e.val)) w ∧ es[j]? = some e ∧ e.key = kv ∧ VSim g v e.val
    | none => (Instr.findKey kt kv es.toList).run P w = .ok none w := by
  obtain ⟨hkeys, get⟩ := ent_keys hm hs h
  obtain ⟨lk, hlk⟩ := hk.1
  rcases K0.find w hlk es.toList hkeys with ⟨h1, h2⟩ | ⟨j, e, h1, h2, h3⟩
  · cases r with
    | none => exact h1
    | some q =>
      obtain ⟨j, v⟩ := q
      obtain ⟨hj, _⟩ := hr
      obtain ⟨e, he, k1, k2⟩ := h j _ hj
      have := k1.lit hk.2
      exact absurd this (h2 e (List.mem_of_getElem? (i := j) (by simpa using he)))
  · obtain ⟨v, hv1, hv2⟩ := get j e (by simpa using h2)
    rw [h3] at hv1
    cases r with
    | none => exact absurd rfl (hr _ (List.mem_of_getElem? hv1))
    | some q =>
      obtain ⟨j', v'⟩ := q
      obtain ⟨hj, hu⟩ := hr
      obtain rfl := hu j v hv1
      rw [hj] at hv1
      obtain rfl := congrArg Prod.snd (Option.some.inj hv1)
      exact ⟨e, h1, by simpa using h2, h3, hv2⟩
theorem withOk_sim {c ok : Bool} {v : AV} {x : Value} (h : VSim g v x) : VSim g (withOk c v ok) (if c = true then .tuple #[x, .bool ok] else x) := by
  cases c with
  | false => exact h
  | true =>
    refine .tup _ _ rfl (fun i y hy => ?_)
    match i, hy with
    | 0, hy => obtain rfl := Option.some.inj hy; exact h
    | 1, hy => obtain rfl := Option.some.inj hy; exact .s _ rfl
theorem lookup_run (hi : Inv g st w) (t : TypeId) {x k : AV} {c : Bool} {xv kv : Value} (hx : VSim g x xv) (hk : VSim g k kv) (h : alookup P t x k c st fun v => K v st) : VRun P (Instr.lookup t xv kv c) g w K := by
  unfold alookup at h
  split at h
  case h_2 => exact h.elim
  rename_i id kv' hkl
  obtain rfl := hk.lit hkl
  cases hx with
  | mp id b hb =>
    obtain ⟨kt, e, m, r, hT, hko, hm, hbx, hr, hK⟩ := h
    obtain ⟨es, clk, hw, hbn, hs, hent⟩ := map_block hi hb hbx
    obtain ⟨lk, hlk⟩ := hko.1
    have hf := find_run hT.keyed hko hm hs hent hr w
    have hc := hT.keyed.check w es.isEmpty hlk
    cases r with
    | some q =>
      obtain ⟨j, v⟩ := q
      obtain ⟨e0, f1, f2, f3, f4⟩ := hf
      refine .same hi ?_ (withOk_sim f4) hK
      simp [Instr.lookup, run_underlying hT.under, MapKept.run_getObj_map hw, hc, f1, Result.andThen]
    | none =>
      obtain ⟨i, ht, hz, hK⟩ := hK
      obtain ⟨z, e1, e2⟩ := ty_zero ht hz
      refine .same hi ?_ (withOk_sim (e1 ▸ VSim.ofV g z : VSim g i.zero z)) hK
      simp [Instr.lookup, run_underlying hT.under, MapKept.run_getObj_map hw, hc, hf, e2, Result.andThen]
theorem update_run (hi : Inv g st w) (t : TypeId) {x k v : AV} {xv kv vv : Value} (hx : VSim g x xv) (hk : VSim g k kv) (hv : VSim g v vv) {K : AS → Prop} (h : aupdate P t x k v st K) :
    ∃ w' st', (Instr.mapUpdate t xv kv vv).run P w = .ok () w' ∧ Inv g st' w' ∧ K st' := by
  unfold aupdate at h
  split at h
  case h_2 => exact h.elim
  rename_i id kv' hkl
  obtain rfl := hk.lit hkl
  cases hx with
  | mp id b hb =>
    obtain ⟨kt, e, m, r, hT, hko, hm, hbx, hr, hK⟩ := h
    obtain ⟨es, clk, hw, hbn, hs, hent⟩ := map_block hi hb hbx
    obtain ⟨lk, hlk⟩ := hko.1
    have hf := find_run hT.keyed hko hm hs hent hr w
    have hc := hT.keyed.check w false hlk
    have hblt := (Array.getElem?_eq_some_iff.1 hw).1
    have hset : ∀ (es' : Array MapEntry) (clk' : Nat) (m' : List (Value × AV)), Born es' clk' → es'.size = m'.length → (∀ (j : Nat) p, m'[j]? = some p → ∃ e, es'[j]? = some e ∧ EntSim g p e) →
        Inv g { st with bx := st.bx.set id (mapBox m') } { w with heap := w.heap.setIfInBounds b (.map es' clk') } := fun es' clk' m' q0 q1 q2 =>
      hi.setObj hb hbx (T := 0) (fun k hk => by simp [Array.getElem?_setIfInBounds_ne (Ne.symm hk)]) (by rw [Array.getElem?_setIfInBounds_self_of_lt hblt]; exact ⟨es', clk', rfl, rfl, q0⟩) (by simp) rfl rfl rfl (map_cell q1 q2)
    cases r with
    | some q =>
      obtain ⟨j, v0⟩ := q
      obtain ⟨e0, f1, f2, f3, f4⟩ := hf
      refine ⟨_, _, ?_, hset (es.modify j fun e' => { e' with key := kv, val := vv }) clk (m.set j (kv, v)) (hbn.modify j _ fun e => rfl) (by simp [hs]) (fun i p hp => ?_), hK⟩
      · simp [Instr.mapUpdate, run_underlying hT.under, MapKept.run_getObj_map hw, hc, f1, f2, f3, hT.keyed.stays w hlk, MapKept.run_setObj_map _ hw, Result.andThen]
      · obtain ⟨hjl, hje⟩ := Array.getElem?_eq_some_iff.1 f2
        by_cases hij : i = j
        · subst hij
          have : p = (kv, v) := by simpa [show i < m.length by omega] using hp.symm
          subst this
          refine ⟨{ e0 with key := kv, val := vv }, ?_, .ofV g kv, hv⟩
          simp [Array.getElem?_modify, f2]
        · rw [List.getElem?_set_ne (Ne.symm hij)] at hp
          obtain ⟨e1, q1, q2⟩ := hent i p hp
          exact ⟨e1, by simpa [Array.getElem?_modify, Ne.symm hij] using q1, q2⟩
    | none =>
      refine ⟨_, _, ?_, hset (es.push ⟨kv, vv, clk⟩) (clk + 1) (m ++ [(kv, v)]) (hbn.push _ rfl) (by simp [hs]) (fun i p hp => ?_), hK⟩
      · simp [Instr.mapUpdate, run_underlying hT.under, MapKept.run_getObj_map hw, hc, hf, MapKept.run_setObj_map _ hw, Result.andThen]
      · rcases Nat.lt_or_ge i m.length with hlt | hge
        · rw [List.getElem?_append_left hlt] at hp
          obtain ⟨e1, q1, q2⟩ := hent i p hp
          refine ⟨e1, ?_, q2⟩
          rw [Array.getElem?_push_lt (by omega)]
          rw [Array.getElem?_eq_getElem (by omega)] at q1
          exact q1
        · have hi' : i = m.length := by
            have := (List.getElem?_eq_some_iff.1 hp).1
            simp at this
            omega
          subst hi'
          have : p = (kv, v) := by simpa using hp.symm
          subst this
          exact ⟨⟨kv, vv, clk⟩, by rw [← hs]; simp, .ofV g kv, hv⟩
theorem map_set (hi : Inv g st w) {id b : Nat} {m : List (Value × AV)} {es : Array MapEntry} {clk : Nat} (hb : g.bx[id]? = some b) (hbx : st.bx[id]? = some (mapBox m)) (hw : w.heap[b]? = some (.map es clk))
    (es' : Array MapEntry) (clk' : Nat) (m' : List (Value × AV)) (q0 : Born es' clk') (q1 : es'.size = m'.length) (q2 : ∀ (j : Nat) p, m'[j]? = some p → ∃ e, es'[j]? = some e ∧ EntSim g p e) :
    Inv g { st with bx := st.bx.set id (mapBox m') } { w with heap := w.heap.setIfInBounds b (.map es' clk') } :=
  hi.setObj hb hbx (T := 0) (fun k hk => by simp [Array.getElem?_setIfInBounds_ne (Ne.symm hk)]) (by rw [Array.getElem?_setIfInBounds_self_of_lt (Array.getElem?_eq_some_iff.1 hw).1]; exact ⟨es', clk', rfl, rfl, q0⟩) (by simp) rfl rfl rfl (map_cell q1 q2)
theorem entry_run (hi : Inv g st w) (t : TypeId) {x k : AV} {xv kv : Value} (hx : VSim g x xv) (hk : VSim g k kv) (h : amapEntry P t x k st K) : VRun P (Instr.mapEntry t xv kv) g w K := by
  unfold amapEntry at h
  split at h
  case h_2 => exact h.elim
  rename_i id kv' hkl
  obtain rfl := hk.lit hkl
  cases hx with
  | mp id b hb =>
    obtain ⟨kt, e, m, r, hT, hko, hm, hbx, hr, hK⟩ := h
    obtain ⟨es, clk, hw, hbn, hs, hent⟩ := map_block hi hb hbx
    obtain ⟨lk, hlk⟩ := hko.1
    have hf := find_run hT.keyed hko hm hs hent hr w
    have hc := hT.keyed.check w false hlk
    cases r with
    | some q =>
      obtain ⟨j, v0⟩ := q
      obtain ⟨e0, f1, f2, f3, f4⟩ := hf
      have hset := map_set hi hb hbx hw (es.modify j fun e' => { e' with key := kv }) clk m (hbn.modify j _ fun e => rfl) (by simp [hs]) (fun i p hp => by
        obtain ⟨e1, q1, q2⟩ := hent i p hp
        by_cases hij : j = i
        · subst hij
          obtain rfl : e0 = e1 := by rw [f2] at q1; exact Option.some.inj q1
          refine ⟨{ e0 with key := kv }, by simp [Array.getElem?_modify, f2], ?_, q2.2⟩
          have := q2.1
          rw [f3] at this
          exact this
        · exact ⟨e1, by simpa [Array.getElem?_modify, hij] using q1, q2⟩)
      have hst : { st with bx := st.bx.set id (mapBox m) } = st := by
        have : st.bx.set id (mapBox m) = st.bx := by
          obtain ⟨hl, he⟩ := List.getElem?_eq_some_iff.1 hbx
          rw [← he]
          exact List.set_getElem_self hl
        rw [this]
      rw [hst] at hset
      refine ⟨.tuple #[e0.val, goInt (j : Nat)], _, g, _, st, ?_, .refl g, hset, ?_, hK⟩
      · simp [Instr.mapEntry, run_underlying hT.under, MapKept.run_getObj_map hw, hc, f1, f2, f3, hT.keyed.stays w hlk, MapKept.run_setObj_map _ hw, Result.andThen, hbn.1 j e0 f2]
      · refine .tup _ _ rfl (fun i y hy => ?_)
        match i, hy with
        | 0, hy => obtain rfl := Option.some.inj hy; exact f4
        | 1, hy => obtain rfl := Option.some.inj hy; exact .s _ rfl
    | none =>
      obtain ⟨ti, ht, hz, hK⟩ := hK
      obtain ⟨z, e1, e2⟩ := ty_zero ht hz
      have hset := map_set hi hb hbx hw (es.push ⟨kv, z, clk⟩) (clk + 1) (m ++ [(kv, ti.zero)]) (hbn.push _ rfl) (by simp [hs]) (fun i p hp => by
        rcases Nat.lt_or_ge i m.length with hlt | hge
        · rw [List.getElem?_append_left hlt] at hp
          obtain ⟨e1, q1, q2⟩ := hent i p hp
          refine ⟨e1, ?_, q2⟩
          rw [Array.getElem?_push_lt (by omega)]
          rw [Array.getElem?_eq_getElem (by omega)] at q1
          exact q1
        · have hi' : i = m.length := by
            have := (List.getElem?_eq_some_iff.1 hp).1
            simp at this
            omega
          subst hi'
          have : p = (kv, ti.zero) := by simpa using hp.symm
          subst this
          exact ⟨⟨kv, z, clk⟩, by rw [← hs]; simp, .ofV g kv, e1 ▸ VSim.ofV g z⟩)
      refine ⟨.tuple #[z, goInt (m.length : Nat)], _, g, _, _, ?_, .refl g, hset, ?_, hK⟩
      · have hcl : clk = m.length := by rw [hbn.2, hs]
        simp [Instr.mapEntry, run_underlying hT.under, MapKept.run_getObj_map hw, hc, hf, e2, MapKept.run_setObj_map _ hw, Result.andThen, hcl]
      · refine .tup _ _ rfl (fun i y hy => ?_)
        match i, hy with
        | 0, hy => obtain rfl := Option.some.inj hy; exact (e1 ▸ VSim.ofV g z : VSim g ti.zero z)
        | 1, hy => obtain rfl := Option.some.inj hy; exact .s _ rfl
theorem entryStore_run (hi : Inv g st w) (t : TypeId) {x s v : AV} {xv sv vv : Value} (hx : VSim g x xv) (hs : VSim g s sv) (hv : VSim g v vv) {K : AS → Prop} (h : aentryStore x s v st K) :
    ∃ w' st', (Instr.entryStore t xv sv vv).run P w = .ok () w' ∧ Inv g st' w' ∧ K st' := by
  unfold aentryStore at h
  split at h
  case h_2 => exact h.elim
  rename_i id n
  obtain ⟨m, p, hbx, hn, hp, hK⟩ := h
  cases hs
  cases hx with
  | mp id b hb =>
    obtain ⟨es, clk, hw, hbn, hsz, hent⟩ := map_block hi hb hbx
    obtain ⟨k, rfl⟩ : ∃ k : Nat, n = k := ⟨n.toNat, by omega⟩
    rw [Int.toNat_natCast] at hp hK
    have hlt : k < es.size := by have := (List.getElem?_eq_some_iff.1 hp).1; omega
    have hset := map_set hi hb hbx hw (es.modify k fun e' => { e' with val := vv }) clk (m.set k (p.1, v)) (hbn.modify k _ fun e => rfl) (by simp [hsz]) (fun i q hq => by
      by_cases hij : k = i
      · subst hij
        have : q = (p.1, v) := by
          have hl := (List.getElem?_eq_some_iff.1 hp).1
          simpa [hl] using hq.symm
        subst this
        obtain ⟨e1, q1, q2⟩ := hent k p hp
        exact ⟨{ e1 with val := vv }, by simp [Array.getElem?_modify, q1], q2.1, hv⟩
      · rw [List.getElem?_set_ne hij] at hq
        obtain ⟨e1, q1, q2⟩ := hent i q hq
        exact ⟨e1, by simpa [Array.getElem?_modify, hij] using q1, q2⟩)
    refine ⟨_, _, ?_, hset, hK⟩
    have hfi := hbn.find hlt
    simp [Instr.entryStore, MapKept.run_getObj_map hw, asInt, asIntOf, hfi, MapKept.run_setObj_map _ hw, Result.andThen]
theorem arrAt_run (hi : Inv g st w) (t : TypeId) {x : AV} {xv : Value} (hx : VSim g x xv) (h : aarrAt (tyOf P t) x fun v => K v st) : VRun P (Instr.arrayAt t xv) g w K := by
  unfold aarrAt at h
  split at h
  case h_2 => exact h.elim
  rename_i s' ag' z' n sz ag own tag es ht
  obtain ⟨d, hd, hdd⟩ := ty_under ht
  obtain ⟨hn, hne, hK⟩ := h
  cases d with
  | array n' e =>
    simp only [tdOf, TD.array.injEq] at hdd
    obtain ⟨rfl, -⟩ := hdd
    cases hx with
    | sl own tag es A cap sz vs hl hc hsz h1 hA hh htag =>
      obtain ⟨b, o, rfl, ho, hKK⟩ := hA hne
      refine .same hi (v := .rp es.flatten) (x := .pointer (some ⟨b, o, none⟩)) ?_ (.rp _ b o vs (fun i x hx => ⟨(h1 i x hx).1, (h1 i x hx).2, hKK i x hx⟩) hh) hK
      simp [Instr.arrayAt, run_underlying hd, Result.andThen, Nat.not_lt.2 hn]
  | _ => simp [tdOf] at hdd
end Go.Proofs.YtjodibncpbjegaaDoor
