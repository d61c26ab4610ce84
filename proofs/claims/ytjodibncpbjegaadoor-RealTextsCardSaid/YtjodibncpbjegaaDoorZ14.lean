/- Merged: AvmD. -/
import Derived.Test.YtjodibncpbjegaaDoorZ13
/- Calls on plain data: a function's body, what it answers, what it leaves. No program. -/
set_option linter.unusedVariables false
set_option linter.unusedSimpArgs false
namespace Go.Proofs.YtjodibncpbjegaaDoor
open Go.RowKit

/-- It speaks of the first n boxes and the first m growing rows at most. -/
inductive InB (n m : Nat) : AV → Prop
  | any : InB n m .any
  | s (v : Value) : InB n m (.s v)
  | agg (l : List AV) (h : ∀ x ∈ l, InB n m x) : InB n m (.agg l)
  | tup (l : List AV) (h : ∀ x ∈ l, InB n m x) : InB n m (.tup l)
  | bp (id off : Nat) (h : id < n) : InB n m (.bp id off)
  | rp (l : List AV) : InB n m (.rp l)
  | sl (own : Bool) (tag : Tag) (es : List (List AV)) (h : ∀ id, tag = .lin id → id < m) : InB n m (.sl own tag es)
  | fn (f : Fn) (caps : List AV) (h : ∀ x ∈ caps, InB n m x) : InB n m (.fn f caps)
  | ifc (t : TypeId) (v : AV) (h : InB n m v) : InB n m (.ifc t v)
  | mp (id : Nat) (h : id < n) : InB n m (.mp id)
section
variable {n m : Nat}
theorem InB_any : InB n m .any ↔ True := ⟨fun _ => trivial, fun _ => .any⟩
theorem InB_s {v : Value} : InB n m (.s v) ↔ True := ⟨fun _ => trivial, fun _ => .s v⟩
theorem InB_rp {l : List AV} : InB n m (.rp l) ↔ True := ⟨fun _ => trivial, fun _ => .rp l⟩
theorem InB_agg {l : List AV} : InB n m (.agg l) ↔ ∀ x ∈ l, InB n m x := ⟨fun h => by cases h; assumption, fun h => .agg l h⟩
theorem InB_tup {l : List AV} : InB n m (.tup l) ↔ ∀ x ∈ l, InB n m x := ⟨fun h => by cases h; assumption, fun h => .tup l h⟩
theorem InB_bp {id off : Nat} : InB n m (.bp id off) ↔ id < n := ⟨fun h => by cases h; assumption, fun h => .bp id off h⟩
theorem InB_none {own : Bool} {es : List (List AV)} : InB n m (.sl own .none es) ↔ True := ⟨fun _ => trivial, fun _ => .sl _ _ _ fun _ h => by cases h⟩
theorem InB_full {own : Bool} {es : List (List AV)} : InB n m (.sl own .full es) ↔ True := ⟨fun _ => trivial, fun _ => .sl _ _ _ fun _ h => by cases h⟩
theorem InB_lin {own : Bool} {id : Nat} {es : List (List AV)} : InB n m (.sl own (.lin id) es) ↔ id < m := ⟨fun h => by cases h; rename_i h; exact h id rfl, fun h => .sl _ _ _ fun _ e => by cases e; exact h⟩
theorem InB_fn {f : Fn} {caps : List AV} : InB n m (.fn f caps) ↔ ∀ x ∈ caps, InB n m x := ⟨fun h => by cases h; assumption, fun h => .fn f caps h⟩
theorem InB_mp {id : Nat} : InB n m (.mp id) ↔ id < n := ⟨fun h => by cases h; assumption, fun h => .mp id h⟩
theorem InB_ifc {t : TypeId} {v : AV} : InB n m (.ifc t v) ↔ InB n m v := ⟨fun h => by cases h; assumption, fun h => .ifc t v h⟩
end
def Gh.cut (g : Gh) (n m : Nat) : Gh := { g with bx := g.bx.take n, ln := g.ln.take m }
def AS.cut (st : AS) (n m : Nat) : AS := { bx := st.bx.take n, ln := st.ln.take m }
theorem VSim.inB {g : Gh} {v : AV} {x : Value} (h : VSim g v x) : InB g.bx.length g.ln.length v := by
  induction h with
  | any x => exact .any
  | s v h => exact .s _
  | agg l a hs h1 _ ih => exact .agg l fun x hx => by obtain ⟨i, hi⟩ := List.getElem?_of_mem hx; exact ih i x hi
  | tup l a hs _ ih => exact .tup l fun x hx => by obtain ⟨i, hi⟩ := List.getElem?_of_mem hx; exact ih i x hi
  | bp id off b hb => exact .bp id off (List.getElem?_eq_some_iff.1 hb).1
  | rp l b o vs h1 _ ih => exact .rp l
  | sl own tag es A cap sz vs hl hc hsz h1 hA _ htag ih =>
    refine .sl own tag es fun id he => ?_
    subst he
    obtain ⟨L, hL, _⟩ := htag
    exact (List.getElem?_eq_some_iff.1 hL).1
  | fn f caps ca hs _ ih => exact .fn f caps fun x hx => by obtain ⟨i, hi⟩ := List.getElem?_of_mem hx; exact ih i x hi
  | ifc t v x _ ih => exact .ifc t v ih
  | mp id b hb => exact .mp id (List.getElem?_eq_some_iff.1 hb).1
theorem VSim.cut {g : Gh} {n m : Nat} {v : AV} {x : Value} (h : VSim g v x) : InB n m v → VSim (g.cut n m) v x := by
  induction h with
  | any x => exact fun _ => .any x
  | s v h => exact fun _ => .s v h
  | agg l a hs h1 _ ih => exact fun hb => .agg l a hs h1 fun i x hx => ih i x hx (InB_agg.1 hb x (List.mem_of_getElem? hx))
  | tup l a hs _ ih => exact fun hb => .tup l a hs fun i x hx => ih i x hx (InB_tup.1 hb x (List.mem_of_getElem? hx))
  | bp id off b hb =>
    intro h
    refine .bp id off b ?_
    show (g.bx.take n)[id]? = some b
    rw [List.getElem?_take, if_pos (InB_bp.1 h)]; exact hb
  | rp l b o vs h1 hh ih =>
    intro _
    exact VSim.dat0 (g := g) (g' := g.cut n m) ⟨rfl, fun _ _ _ h => h⟩ (.rp l b o vs h1 hh) rfl
  | sl own tag es A cap sz vs hl hc hsz h1 hA hh htag ih =>
    intro h
    refine .sl own tag es A cap sz vs hl hc hsz h1 hA (fun j x hx => VSim.dat0 (g := g) (g' := g.cut n m) ⟨rfl, fun _ _ _ h => h⟩ (hh j x hx) (h1 j x hx).2) ?_
    cases tag with
    | none => trivial
    | full => exact htag
    | lin id =>
      obtain ⟨L, k1, k2, k3⟩ := htag
      exact ⟨L, by show (g.ln.take m)[id]? = some L; rw [List.getElem?_take, if_pos (InB_lin.1 h)]; exact k1, k2, k3⟩
  | fn f caps ca hs _ ih => exact fun hb => .fn f caps ca hs fun i x hx => ih i x hx (InB_fn.1 hb x (List.mem_of_getElem? hx))
  | ifc t v x _ ih => exact fun hb => .ifc t v x (ih (InB_ifc.1 hb))
  | mp id b hb =>
    intro h
    refine .mp id b ?_
    show (g.bx.take n)[id]? = some b
    rw [List.getElem?_take, if_pos (InB_mp.1 h)]; exact hb
/-- The boxes that stay speak of what stays. -/
def BoxesOk (st st' : AS) : Prop := ∀ (i : Nat) cs, i < st.bx.length → st'.bx[i]? = some cs → st.bx[i]? = some cs ∨ ∀ x ∈ cs, InB st.bx.length st.ln.length x
theorem Gh.le.len {g g' : Gh} (h : g.le g') : g.bx.length ≤ g'.bx.length ∧ g.ln.length ≤ g'.ln.length := by
  constructor
  · rcases Nat.lt_or_ge g'.bx.length g.bx.length with hlt | hge
    · have h1 : g.bx[g'.bx.length]? = some g.bx[g'.bx.length] := List.getElem?_eq_getElem hlt
      have := (List.getElem?_eq_some_iff.1 (h.bx _ _ h1)).1
      omega
    · exact hge
  · rcases Nat.lt_or_ge g'.ln.length g.ln.length with hlt | hge
    · have h1 : g.ln[g'.ln.length]? = some g.ln[g'.ln.length] := List.getElem?_eq_getElem hlt
      obtain ⟨L', h2, _⟩ := h.ln _ _ h1
      have := (List.getElem?_eq_some_iff.1 h2).1
      omega
    · exact hge
theorem Gh.le.cut {g g' : Gh} (h : g.le g') : g.le (g'.cut g.bx.length g.ln.length) := by
  refine ⟨h.w0, h.K, fun i b hb => ?_, fun i L hL => ?_⟩
  · show (g'.bx.take g.bx.length)[i]? = some b
    rw [List.getElem?_take, if_pos (List.getElem?_eq_some_iff.1 hb).1]; exact h.bx i b hb
  · obtain ⟨L', h1, h2⟩ := h.ln i L hL
    refine ⟨L', ?_, h2⟩
    show (g'.ln.take g.ln.length)[i]? = some L'
    rw [List.getElem?_take, if_pos (List.getElem?_eq_some_iff.1 hL).1]; exact h1
theorem Inv.cut {g g' : Gh} {st st' : AS} {w w' : World} (hi : Inv g st w) (hg : g.le g') (hi' : Inv g' st' w') (hb : BoxesOk st st') : Inv (g'.cut st.bx.length st.ln.length) (st'.cut st.bx.length st.ln.length) w' := by
  have sub : ∀ (i : Nat) L, (g'.ln.take st.ln.length)[i]? = some L → i < st.ln.length ∧ g'.ln[i]? = some L := fun i L h => by
    rw [List.getElem?_take] at h
    split at h
    · rename_i hlt; exact ⟨hlt, h⟩
    · cases h
  refine ⟨hi'.K, by simp [Gh.cut, AS.cut, hi'.bxlen], fun i b cs h1 h2 => ?_, fun b h => hi'.bxK b (List.mem_of_mem_take h), (List.take_sublist _ _).nodup hi'.bxnd, by simp [Gh.cut, AS.cut, hi'.lnlen], fun i L hL => ?_, fun i j L L' a a' h1 h2 => ?_, hi'.kept, hi'.ok, hi'.nf⟩
  · have h1' : (g'.bx.take st.bx.length)[i]? = some b := h1
    have h2' : (st'.bx.take st.bx.length)[i]? = some cs := h2
    rw [List.getElem?_take] at h1' h2'
    split at h1'
    · rename_i hlt
      rw [if_pos hlt] at h2'
      obtain ⟨cur, T, e1, e2, e3⟩ := hi'.bx i b cs h1' h2'
      refine ⟨cur, T, e1, e2, fun j x hx => (e3 j x hx).cut ?_⟩
      rcases hb i cs hlt h2' with h | h
      · have hlt' : i < g.bx.length := by rw [hi.bxlen]; exact hlt
        obtain ⟨cur0, T0, f1, f2, f3⟩ := hi.bx i _ cs (List.getElem?_eq_getElem hlt') h
        have := (f3 j x hx).inB
        rwa [hi.bxlen, hi.lnlen] at this
      · exact h x (List.mem_of_getElem? hx)
    · cases h1'
  · obtain ⟨hlt, h⟩ := sub i L hL
    obtain ⟨e1, e2⟩ := hi'.ln i L h
    refine ⟨by show (st'.ln.take st.ln.length)[i]? = _; rw [List.getElem?_take, if_pos hlt]; exact e1, ?_⟩
    rcases e2 with e2 | ⟨b, cur, f1, f2, f3, f4⟩
    · exact .inl e2
    · exact .inr ⟨b, cur, f1, f2, fun hm => f3 (List.mem_of_mem_take hm), f4⟩
  · exact hi'.lnd i j L L' a a' (sub i L h1).2 (sub j L' h2).2
/-- A growing row behind those that stay. -/
theorem Inv.keep {g : Gh} {st : AS} {w : World} {n m : Nat} (hc : Inv (g.cut n m) (st.cut n m) w) (hi : Inv g st w) (hm : m ≤ g.ln.length) {id : Nat} {L : Lin} (hid : m ≤ id) (hL : g.ln[id]? = some L) :
    Inv { g.cut n m with ln := g.ln.take m ++ [L] } { bx := st.bx.take n, ln := st.ln.take m ++ [(L.n, L.e, L.sz)] } w := by
  have hle : (g.cut n m).le { g.cut n m with ln := g.ln.take m ++ [L] } := ⟨rfl, fun _ _ _ h => h, fun _ _ h => h, fun i L' h => ⟨L', by
    show (g.ln.take m ++ [L])[i]? = some L'
    rw [List.getElem?_append_left (show i < (g.ln.take m).length from (List.getElem?_eq_some_iff.1 h).1)]; exact h, Nat.le_refl _, fun _ => rfl⟩⟩
  have hml : (g.ln.take m).length = m := by simp; omega
  have get : ∀ (i : Nat) L', (g.ln.take m ++ [L])[i]? = some L' → (i < m ∧ (g.ln.take m)[i]? = some L' ∧ g.ln[i]? = some L') ∨ (i = m ∧ L' = L) := fun i L' h => by
    rcases Nat.lt_or_ge i m with hlt | hge
    · left
      rw [List.getElem?_append_left (by omega)] at h
      refine ⟨hlt, h, ?_⟩
      rw [List.getElem?_take, if_pos hlt] at h; exact h
    · have := (List.getElem?_eq_some_iff.1 h).1
      have hi2 : i = m := by simp at this; omega
      subst hi2
      rw [List.getElem?_append_right (by omega), hml] at h
      exact .inr ⟨rfl, by simpa using h.symm⟩
  refine ⟨hc.K, hc.bxlen, fun i b cs h1 h2 => ?_, hc.bxK, hc.bxnd, by simp [hi.lnlen], fun i L' h => ?_, fun i j L1 L2 a a' h1 h2 c1 c2 ha ha' he => ?_, hc.kept, hc.ok, hc.nf⟩
  · obtain ⟨cur, T, e1, e2, e3⟩ := hc.bx i b cs h1 h2
    exact ⟨cur, T, e1, e2, fun j x hx => (e3 j x hx).mono hle⟩
  · rcases get i L' h with ⟨hlt, h1, h2⟩ | ⟨rfl, rfl⟩
    · obtain ⟨e1, e2⟩ := hc.ln i L' h1
      refine ⟨?_, e2⟩
      show (st.ln.take m ++ _)[i]? = _
      rw [List.getElem?_append_left (by simp; have := hi.lnlen; omega)]; exact e1
    · obtain ⟨e1, e2⟩ := hi.ln id _ hL
      refine ⟨?_, ?_⟩
      · show (st.ln.take i ++ _)[i]? = _
        have : (st.ln.take i).length = i := by simp; have := hi.lnlen; omega
        rw [List.getElem?_append_right (by omega), this]; simp
      · rcases e2 with e2 | ⟨b, cur, f1, f2, f3, f4⟩
        · exact .inl e2
        · exact .inr ⟨b, cur, f1, f2, fun hm => f3 (List.mem_of_mem_take hm), f4⟩
  · rcases get i L1 h1 with ⟨q1, q2, q3⟩ | ⟨rfl, rfl⟩ <;> rcases get j L2 h2 with ⟨r1, r2, r3⟩ | ⟨rfl, rfl⟩
    · exact hi.lnd i j L1 L2 a a' q3 r3 c1 c2 ha ha' he
    · have := hi.lnd i id L1 _ a a' q3 hL c1 c2 ha ha' he; omega
    · have := hi.lnd id j _ L2 a a' hL r3 c1 c2 ha ha' he; omega
    · rfl

/-! ### A function -/
theorem forget0_sim' {g : Gh} {v : AV} {x : Value} (h : VSim g v x) : VSim g v.forget0 x := forget0_sim h
theorem one_forget0 {v : AV} (h : v.one = true) : v.forget0.one = true := by cases v <;> first | exact h | rfl
theorem forget1_sim {g : Gh} {v : AV} {x : Value} (h : VSim g v x) : VSim g v.forget1 x := by
  cases v with
  | agg l =>
    cases h with
    | agg l a hs h1 hh =>
      refine .agg _ a (by simpa using hs) (fun i y hy => ?_) (fun i y hy => ?_)
      · rw [List.getElem?_map, Option.map_eq_some_iff] at hy
        obtain ⟨z, hz, rfl⟩ := hy
        exact one_forget0 (h1 i z hz)
      · rw [List.getElem?_map, Option.map_eq_some_iff] at hy
        obtain ⟨z, hz, rfl⟩ := hy
        exact forget0_sim (hh i z hz)
  | _ => exact forget0_sim h
theorem forget_sim {g : Gh} {v : AV} {x : Value} (h : VSim g v x) : VSim g v.forget x := by
  cases v with
  | tup l =>
    cases h with
    | tup l a hs hh =>
      refine .tup _ a (by simpa using hs) (fun i y hy => ?_)
      rw [List.getElem?_map, Option.map_eq_some_iff] at hy
      obtain ⟨z, hz, rfl⟩ := hy
      exact forget1_sim (hh i z hz)
  | _ => exact forget1_sim h
/-- What a function answers, and what it leaves: its own boxes and rows are gone, but for one that it answers. -/
inductive RetForm (st : AS) (v : AV) (st' : AS) (R : AOut → AS → Prop) : Prop
  | forget (h1 : InB st.bx.length st.ln.length v.forget) (h2 : BoxesOk st st') (h : R (.ret v.forget) (st'.cut st.bx.length st.ln.length))
  | keep (h1 : InB st.bx.length st.ln.length v) (h2 : BoxesOk st st') (h : R (.ret v) (st'.cut st.bx.length st.ln.length))
  | fresh (own : Bool) (id : Nat) (es : List (List AV)) (e sz : Nat) (hv : v = .sl own (.lin id) es) (hid : st.ln.length ≤ id) (hl : st'.ln[id]? = some (es.length, e, sz)) (h2 : BoxesOk st st')
      (h : R (.ret (.sl own (.lin st.ln.length) es)) { bx := st'.bx.take st.bx.length, ln := st'.ln.take st.ln.length ++ [(es.length, e, sz)] })
  | asis (h : R (.ret v) st')
def ares1 (P : Program) (fr : AFr) (st : AS) : ResultVar → (AV → Prop) → Prop
  | .tmp t, K => K (look fr.l t)
  | .cell a t, K => aload (tyOf P t) (look fr.l a) st K
def aresL (P : Program) (fr : AFr) (st : AS) : List ResultVar → (List AV → Prop) → Prop
  | [], K => K []
  | r :: rs, K => ares1 P fr st r fun v => aresL P fr st rs fun l => K (v :: l)
def oneOf : List AV → AV
  | [v] => v
  | l => .tup l
def retK (P : Program) (rs : List ResultVar) (st : AS) (R : AOut → AS → Prop) : Post
  | .normal, fr, st' => aresL P fr st' rs fun l => RetForm st (oneOf l) st' R
  | .ret, fr, st' => aresL P fr st' rs fun l => RetForm st (oneOf l) st' R
  | .panic v, _, st' => InB st.bx.length st.ln.length v ∧ BoxesOk st st' ∧ R (.panic v) (st'.cut st.bx.length st.ln.length)
  | .exit _, _, _ => False
theorem retK_free (P : Program) (rs : List ResultVar) (st : AS) (R : AOut → AS → Prop) : PFree (retK P rs st R) := fun _ _ _ _ h => h
def resOne (tmps : Array Value) : ResultVar → Sem Value
  | .tmp t => pure (tmps.getD t undef)
  | .cell a t => do loadVar t (← asAddr (tmps.getD a undef))
theorem ares1_sound {D : FixD} {P : Program} {g : Gh} {fr : AFr} {st : AS} {a : Act} {w : World} (hi : Inv g st w) (hf : FSim D g fr a) (r : ResultVar) (K : AV → Prop) (h : ares1 P fr st r K) : ∃ x v, (resOne a.tmps r).run P w = .ok x w ∧ VSim g v x ∧ K v := by
  cases r with
  | tmp t => exact ⟨_, _, rfl, hf.tmps t, h⟩
  | cell p t =>
    have hp := hf.tmps p
    simp only [ares1] at h
    obtain ⟨x, v, h1, h2, h3⟩ := load_core hi t hp h
    refine ⟨x, v, ?_, h2, h3⟩
    have hnp : ∃ ad, a.tmps.getD p undef = .pointer (some ad) := by
      generalize a.tmps.getD p undef = pv at hp
      unfold aload at h
      split at h
      · split at h
        · rename_i l hl; rw [hl] at hp; cases hp; exact ⟨_, rfl⟩
        · rename_i l hl; rw [hl] at hp; cases hp; exact ⟨_, rfl⟩
        · exact h.elim
      · exact h.elim
    obtain ⟨ad, had⟩ := hnp
    rw [had] at h1
    simp only [resOne, had]
    exact h1
theorem aresL_sound {D : FixD} {P : Program} {g : Gh} {fr : AFr} {st : AS} {a : Act} {w : World} (hi : Inv g st w) (hf : FSim D g fr a) : ∀ (rs : List ResultVar) (K : List AV → Prop), aresL P fr st rs K →
    ∃ (xs : List Value) (l : List AV), (rs.mapM (resOne a.tmps)).run P w = .ok xs w ∧ ASim g l xs ∧ K l
  | [], K, h => ⟨[], [], rfl, .nil, h⟩
  | r :: rs, K, h => by
    obtain ⟨x, v, h1, h2, h3⟩ := ares1_sound hi hf r _ h
    obtain ⟨xs, l, k1, k2, k3⟩ := aresL_sound hi hf rs _ h3
    exact ⟨x :: xs, v :: l, by simp only [List.mapM_cons, Sem.run_bind, h1, Result.andThen_ok, k1, Sem.run_pure], .cons h2 k2, k3⟩
theorem results_run {P : Program} {fn : Func} {tmps : Array Value} {w : World} {xs : List Value} (h : (fn.results.toList.mapM (resOne tmps)).run P w = .ok xs w) : (results fn tmps).run P w = .ok (if h : xs.length = 1 then xs[0] else .tuple xs.toArray) w := by
  have e : (results fn tmps) = (Sem.bind (fn.results.mapM (resOne tmps)) fun vs => pure (if h : vs.size = 1 then vs[0] else .tuple vs)) := rfl
  have e2 : ∀ (s : Sem (List Value)), (List.toArray <$> s : Sem (Array Value)) = s.bind fun l => pure l.toArray := fun s => rfl
  rw [e, Array.mapM_eq_mapM_toList, e2]
  have e3 := Sem.run_bind (P := P) (w := w) (fn.results.toList.mapM (resOne tmps)) (fun l => (pure l.toArray : Sem (Array Value)))
  have e4 := Sem.run_bind (P := P) (w := w) ((fn.results.toList.mapM (resOne tmps)).bind fun l => (pure l.toArray : Sem (Array Value))) (fun vs => (pure (if h : vs.size = 1 then vs[0] else .tuple vs) : Sem Value))
  refine e4.trans ?_
  have e5 : (Sem.run P ((fn.results.toList.mapM (resOne tmps)).bind fun l => (pure l.toArray : Sem (Array Value))) w) = .ok xs.toArray w := by
    refine e3.trans ?_
    rw [h]; rfl
  rw [e5]
  simp
theorem asim_one {g : Gh} {l : List AV} {xs : List Value} (h : ASim g l xs) : VSim g (oneOf l) (if h : xs.length = 1 then xs[0] else .tuple xs.toArray) := by
  obtain ⟨h1, h2⟩ := asim_get h
  have tup : VSim g (.tup l) (.tuple xs.toArray) := .tup l _ (by simpa using h1) fun i x hx => by rw [arr_getD]; exact h2 i x hx
  match l, xs, h with
  | [], [], _ => exact tup
  | [v], [x], .cons hv _ => exact hv
  | v :: v' :: l, x :: x' :: xs, _ => exact tup
/-- A call, by its function's body. -/
theorem DoesCall.enter {P : Program} {f : FuncId} {fn : Func} {c : Code} {args : List AV} {st : AS} {R : AOut → AS → Prop} (hf : P.funcs[f]? = some fn) (hb : fn.body = some c) (hn : args.length ≤ fn.ntmps)
    (h : awp P c (retK P fn.results.toList st R) ⟨fn.ntmps, (List.range args.length).zip args⟩ st) : DoesCall P f args st R := by
  intro g w vs hi ha
  obtain ⟨hl, hget⟩ := asim_get ha
  refine calls_of_wp hf hb ?_
  have hfs : FSim ⟨[], fun _ => none⟩ g ⟨fn.ntmps, (List.range args.length).zip args⟩ { tmps := vs.toArray ++ Array.replicate (fn.ntmps - vs.toArray.size) undef, defers := [] } := by
    refine ⟨rfl, by simp; omega, fun t => ?_, fun t x h => by cases h⟩
    have hlook : ∀ (k : Nat) (l : List AV) (t : Nat), look ((List.range' k l.length).zip l) t = if t < k then .any else (l[t - k]?).getD .any := by
      intro k l
      induction l generalizing k with
      | nil => intro t; simp [look]
      | cons v l ih =>
        intro t
        simp only [List.length_cons, List.range'_succ, List.zip_cons_cons, look]
        by_cases e : k = t
        · subst e; simp
        · rw [if_neg e, ih (k + 1)]
          by_cases h1 : t < k
          · rw [if_pos h1, if_pos (by omega)]
          · rw [if_neg h1, if_neg (by omega)]
            have : t - k = (t - (k + 1)) + 1 := by omega
            rw [this]; simp
    have h0 := hlook 0 args t
    rw [← List.range_eq_range'] at h0
    simp only [Nat.not_lt_zero, if_false, Nat.sub_zero] at h0
    show VSim g (look ((List.range args.length).zip args) t) _
    rw [h0]
    cases hx : args[t]? with
    | none => exact .any _
    | some v =>
      have := hget t v hx
      have hlt := (List.getElem?_eq_some_iff.1 hx).1
      have e : (vs.toArray ++ Array.replicate (fn.ntmps - vs.toArray.size) undef).getD t undef = vs.getD t undef := by
        have hlt' : t < vs.length := by omega
        simp [Array.getD, List.getD_eq_getElem?_getD, hlt', show t < vs.length + (fn.ntmps - vs.length) by omega]
      rw [e]; exact this
  refine wp_mono (awp_sound c _ (retK_free _ _ _ _) _ _ h ⟨[], fun _ => none⟩ (fun _ _ => rfl) g _ w hi hfs) fun e a' w' hq => ?_
  obtain ⟨g', x, fr', st', h1, h2, h3, h4, h5⟩ := hq
  have hlen := h1.len
  have ret : aresL P fr' st' fn.results.toList (fun l => RetForm st (oneOf l) st' R) → a'.defers = [] ∧ ∃ v, (results fn a'.tmps).run P w' = .ok v w' ∧ ∃ g' o st', g.le g' ∧ Inv g' st' w' ∧ OSim g' o (.returned v) ∧ R o st' := by
    intro h5
    obtain ⟨xs, l, k1, k2, k3⟩ := aresL_sound h2 h3 _ _ h5
    have hone := asim_one k2
    refine ⟨h3.defers, _, results_run k1, ?_⟩
    cases k3 with
    | forget q1 q2 q3 =>
      refine ⟨g'.cut st.bx.length st.ln.length, _, _, ?_, hi.cut h1 h2 q2, .ret _ _ ((forget_sim hone).cut q1), q3⟩
      have := h1.cut; rwa [hi.bxlen, hi.lnlen] at this
    | keep q1 q2 q3 =>
      refine ⟨g'.cut st.bx.length st.ln.length, _, _, ?_, hi.cut h1 h2 q2, .ret _ _ (hone.cut q1), q3⟩
      have := h1.cut; rwa [hi.bxlen, hi.lnlen] at this
    | fresh own id es e sz q1 q2 q3 q4 q5 =>
      have hid : id < g'.ln.length := by
        rw [h2.lnlen]; exact (List.getElem?_eq_some_iff.1 q3).1
      obtain ⟨k1', k2'⟩ := h2.ln id g'.ln[id] (List.getElem?_eq_getElem hid)
      rw [q3] at k1'
      have k1'' := Option.some.inj k1'
      simp only [Prod.mk.injEq] at k1''
      obtain ⟨r1, r2, r3⟩ := k1''
      have hcut := hi.cut h1 h2 q4
      have hkeep := hcut.keep (g := g') (st := st') h2 (by rw [← hi.lnlen]; exact hlen.2) q2 (List.getElem?_eq_getElem hid)
      rw [← r1, ← r2, ← r3] at hkeep
      refine ⟨_, _, _, ?_, hkeep, ?_, q5⟩
      · have := h1.cut
        rw [hi.bxlen, hi.lnlen] at this
        refine this.trans ⟨rfl, fun _ _ _ h => h, fun _ _ h => h, fun i L h => ⟨L, ?_, Nat.le_refl _, fun _ => rfl⟩⟩
        show (g'.ln.take st.ln.length ++ _)[i]? = some L
        rw [List.getElem?_append_left (show i < (g'.ln.take st.ln.length).length from (List.getElem?_eq_some_iff.1 h).1)]; exact h
      · rw [q1] at hone
        refine .ret _ _ ?_
        generalize (if h : xs.length = 1 then xs[0] else Value.tuple xs.toArray) = y at hone
        cases hone with
        | sl own tag es A cap sz vs hl hc hsz k1 hA hh htag =>
          refine .sl own _ es A cap sz vs hl hc hsz k1 hA (fun j x hx => ?_) ?_
          · refine VSim.dat0 (g := g') ?_ (hh j x hx) (k1 j x hx).2
            exact ⟨rfl, fun _ _ _ h => h⟩
          obtain ⟨L, m1, m2, m3⟩ := htag
          rw [List.getElem?_eq_getElem hid] at m1
          obtain rfl := Option.some.inj m1
          refine ⟨g'.ln[id], ?_, m2, m3⟩
          show (g'.ln.take st.ln.length ++ [_])[st.ln.length]? = _
          have : (g'.ln.take st.ln.length).length = st.ln.length := by have := hlen.2; rw [hi.lnlen] at this; simp; omega
          rw [List.getElem?_append_right (by omega), this]; simp
    | asis q => exact ⟨g', _, _, h1, h2, .ret _ _ hone, q⟩
  cases h4 with
  | normal => exact ret h5
  | ret => exact ret h5
  | exit id => exact h5.elim
  | panic v z hz =>
    obtain ⟨q1, q2, q3⟩ := h5
    refine ⟨h3.defers, g'.cut st.bx.length st.ln.length, _, _, ?_, hi.cut h1 h2 q2, .panic _ _ (hz.cut q1), q3⟩
    have := h1.cut; rwa [hi.bxlen, hi.lnlen] at this
end Go.Proofs.YtjodibncpbjegaaDoor
