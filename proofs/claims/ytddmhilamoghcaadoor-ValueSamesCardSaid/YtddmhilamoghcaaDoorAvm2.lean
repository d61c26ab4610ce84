/- A world and what is known of it; frames; what a piece of code does to plain data. No program. -/
import Derived.Test.YtddmhilamoghcaaDoorAvm1
import Derived.Test.YtddmhilamoghcaaDoorInit
set_option linter.unusedVariables false
set_option linter.unusedSimpArgs false
namespace Go.Proofs.YtddmhilamoghcaaDoor
open Go.RowKit

/-- A growing row in a world. -/
def LinOk (g : Gh) (L : Lin) (w : World) : Prop :=
  (L.n = 0 ∧ L.cap = 0) ∨
  ∃ b cur, L.A = some ⟨b, 0, none⟩ ∧ g.base ≤ b ∧ b ∉ g.bx ∧ w.heap[b]? = some (.cells cur L.e (0, 0)) ∧ L.n ≤ L.cap ∧ 0 < L.cap ∧ cur.size = L.cap * L.sz ∧
    (∀ o, o < L.n * L.sz → g.K b o = cur[o]?) ∧ (∀ o, L.n * L.sz ≤ o → g.K b o = none)
structure Inv (g : Gh) (st : AS) (w : World) : Prop where
  K : ∀ b o v, g.K b o = some v → w.cell? ⟨b, o, none⟩ = some v ∧ oneV v = true
  bxlen : g.bx.length = st.bx.length
  bx : ∀ (i : Nat) b cs, g.bx[i]? = some b → st.bx[i]? = some cs → ∃ cur T, w.heap[b]? = some (.cells cur T (0, 0)) ∧ cur.size = cs.length ∧ ∀ (j : Nat) x, cs[j]? = some x → VSim g x (cur.getD j undef)
  bxK : ∀ b, b ∈ g.bx → g.base ≤ b ∧ ∀ o, g.K b o = none
  bxnd : g.bx.Nodup
  lnlen : g.ln.length = st.ln.length
  ln : ∀ (i : Nat) L, g.ln[i]? = some L → st.ln[i]? = some (L.n, L.e, L.sz) ∧ LinOk g L w
  lnd : ∀ (i j : Nat) L L' a a', g.ln[i]? = some L → g.ln[j]? = some L' → 0 < L.cap → 0 < L'.cap → L.A = some a → L'.A = some a' → a.block = a'.block → i = j
  kept : Kept g.w0 w
  ok : WorldOk g.w0
theorem Inv.base_le {g : Gh} {st : AS} {w : World} (h : Inv g st w) : g.base ≤ w.heap.size := h.kept.size
theorem Inv.K_lt {g : Gh} {st : AS} {w : World} (h : Inv g st w) {b o : Nat} {v : Value} (hk : g.K b o = some v) : b < w.heap.size := World.block_lt_of_cell? w _ (h.K b o v hk).1

/-- The world goes on, nothing that was there changed: everything stays. -/
theorem Inv.kept_ {g : Gh} {st : AS} {w w' : World} (h : Inv g st w) (hk : Kept w w') : Inv g st w' where
  K b o v hv := ⟨hk.cell (h.K b o v hv).1, (h.K b o v hv).2⟩
  bxlen := h.bxlen
  bx i b cs hb hc := by
    obtain ⟨cur, T, h1, h2, h3⟩ := h.bx i b cs hb hc
    exact ⟨cur, T, (hk.block b (Array.getElem?_eq_some_iff.1 h1).1).trans h1, h2, h3⟩
  bxK := h.bxK
  bxnd := h.bxnd
  lnlen := h.lnlen
  ln i L hL := by
    obtain ⟨h1, h2⟩ := h.ln i L hL
    refine ⟨h1, ?_⟩
    rcases h2 with h2 | ⟨b, cur, e1, e2, e3, e4, e5⟩
    · exact .inl h2
    · exact .inr ⟨b, cur, e1, e2, e3, (hk.block b (Array.getElem?_eq_some_iff.1 e4).1).trans e4, e5⟩
  lnd := h.lnd
  kept := h.kept.trans hk
  ok := h.ok

/-! ### Frames -/
structure AFr where
  n : Nat
  l : List (Nat × AV)
def look : List (Nat × AV) → Nat → AV
  | [], _ => .any
  | (t, v) :: r, u => if t = u then v else look r u
def AFr.put (fr : AFr) (dst : Option Tmp) (v : AV) : AFr :=
  match dst with
  | none => fr
  | some d => { fr with l := (d, if d < fr.n then v else .any) :: fr.l }
def AFr.eval (fr : AFr) : Operand → AV
  | .tmp t => look fr.l t
  | .const v => AV.ofV v
  | .global _ => .any
  | .func f => .fn (.func f) []
structure FSim (g : Gh) (fr : AFr) (a : Act) : Prop where
  defers : a.defers = []
  size : a.tmps.size = fr.n
  tmps : ∀ t, VSim g (look fr.l t) (a.tmps.getD t undef)
theorem FSim.mono {g g' : Gh} {fr : AFr} {a : Act} (h : FSim g fr a) (hg : g.le g') : FSim g' fr a := ⟨h.defers, h.size, fun t => (h.tmps t).mono hg⟩
theorem FSim.put {g : Gh} {fr : AFr} {a : Act} (h : FSim g fr a) {v : AV} {x : Value} (hv : VSim g v x) (dst : Option Tmp) : FSim g (fr.put dst v) (a.put dst x) := by
  cases dst with
  | none => exact h
  | some d =>
    refine ⟨h.defers, by simp [Act.put, AFr.put, h.size], fun t => ?_⟩
    by_cases hd : d = t
    · subst hd
      by_cases hn : d < fr.n
      · have e : ((a.put (some d) x).tmps.getD d undef) = x := by
          have : d < a.tmps.size := by rw [h.size]; exact hn
          simp [Act.put, Array.getD, this]
        rw [e]
        simp only [AFr.put, look, if_pos rfl, if_pos hn]
        exact hv
      · simp only [AFr.put, look, if_pos rfl, if_neg hn]
        exact .any _
    · have e : ((a.put (some d) x).tmps.getD t undef) = a.tmps.getD t undef := by
        simp only [Act.put]
        simp [Array.getElem?_setIfInBounds_ne hd]
      rw [e]
      simp only [AFr.put, look, if_neg hd]
      exact h.tmps t
/-- A frame that says less. -/
def AFr.sub (fr' fr : AFr) : Prop := fr'.n = fr.n ∧ ∀ p ∈ fr'.l, look fr.l p.1 = p.2
theorem look_mem : ∀ (l : List (Nat × AV)) (t : Nat), look l t = .any ∨ (t, look l t) ∈ l
  | [], t => .inl rfl
  | (u, v) :: r, t => by
    unfold look
    split
    · rename_i h; subst h; exact .inr (by simp)
    · rcases look_mem r t with h | h
      · exact .inl h
      · exact .inr (List.mem_cons_of_mem _ h)
theorem FSim.sub {g : Gh} {fr fr' : AFr} {a : Act} (h : FSim g fr a) (hs : fr'.sub fr) : FSim g fr' a :=
  ⟨h.defers, h.size.trans hs.1.symm, fun t => by
    rcases look_mem fr'.l t with e | e
    · rw [e]; exact .any _
    · have e2 : look fr.l t = look fr'.l t := hs.2 _ e
      rw [← e2]
      exact h.tmps t⟩
theorem FSim.eval {g : Gh} {fr : AFr} {a : Act} (h : FSim g fr a) (x : Operand) : VSim g (fr.eval x) (a.eval x) := by
  cases x with
  | tmp t => exact h.tmps t
  | const v => exact .ofV g v
  | global g => exact .any _
  | func f => exact .fn _ [] #[] rfl (fun i x hx => by simp at hx)

/-! ### What a piece of code does -/
inductive AX where
  | normal
  | exit (id : Nat)
  | ret
  | panic (v : AV)
inductive XSim (g : Gh) : AX → Exit → Prop
  | normal : XSim g .normal .normal
  | exit (id : Nat) : XSim g (.exit id) (.exit id)
  | ret : XSim g .ret .ret
  | panic (v : AV) (x : Value) (h : VSim g v x) : XSim g (.panic v) (.panic [{ v := x, recovered := false }])
abbrev Post := AX → AFr → AS → Prop
/-- The code comes to one of Q's ends, from every world that is as the plain data say. -/
def Does (P : Program) (c : Code) (Q : Post) (fr : AFr) (st : AS) : Prop :=
  ∀ g a w, Inv g st w → FSim g fr a → c.wp P (fun e a' w' => ∃ g' x fr' st', g.le g' ∧ Inv g' st' w' ∧ FSim g' fr' a' ∧ XSim g' x e ∧ Q x fr' st') a w
inductive AOut where
  | ret (v : AV)
  | panic (v : AV)
inductive OSim (g : Gh) : AOut → Ending → Prop
  | ret (v : AV) (x : Value) (h : VSim g v x) : OSim g (.ret v) (.returned x)
  | panic (v : AV) (x : Value) (h : VSim g v x) : OSim g (.panic v) (.panicked [{ v := x, recovered := false }])
inductive ASim (g : Gh) : List AV → List Value → Prop
  | nil : ASim g [] []
  | cons {v : AV} {x : Value} {l : List AV} {r : List Value} (h : VSim g v x) (hr : ASim g l r) : ASim g (v :: l) (x :: r)
theorem ASim.mono {g g' : Gh} (hg : g.le g') {l : List AV} {r : List Value} (h : ASim g l r) : ASim g' l r := by
  induction h with
  | nil => exact .nil
  | cons h _ ih => exact .cons (h.mono hg) ih
/-- The call comes to one of R's ends. -/
def DoesCall (P : Program) (f : FuncId) (args : List AV) (st : AS) (R : AOut → AS → Prop) : Prop :=
  ∀ g w vs, Inv g st w → ASim g args vs → Calls P f vs.toArray w fun e w' => ∃ g' o st', g.le g' ∧ Inv g' st' w' ∧ OSim g' o e ∧ R o st'
theorem DoesCall.mono {P : Program} {f : FuncId} {args : List AV} {st : AS} {R R' : AOut → AS → Prop} (h : DoesCall P f args st R) (hr : ∀ o st', R o st' → R' o st') : DoesCall P f args st R' :=
  fun g w vs hi ha => (h g w vs hi ha).mono fun e w' ⟨g', o, st', h1, h2, h3, h4⟩ => ⟨g', o, st', h1, h2, h3, hr _ _ h4⟩
theorem Does.mono {P : Program} {c : Code} {Q Q' : Post} {fr : AFr} {st : AS} (h : Does P c Q fr st) (hq : ∀ x fr st, Q x fr st → Q' x fr st) : Does P c Q' fr st :=
  fun g a w hi hf => wp_mono (h g a w hi hf) fun e a' w' ⟨g', x, fr', st', h1, h2, h3, h4, h5⟩ => ⟨g', x, fr', st', h1, h2, h3, h4, hq _ _ _ h5⟩
theorem Does.sub {P : Program} {c : Code} {Q : Post} {fr fr' : AFr} {st : AS} (hs : fr'.sub fr) (h : Does P c Q fr' st) : Does P c Q fr st :=
  fun g a w hi hf => h g a w hi (hf.sub hs)
end Go.Proofs.YtddmhilamoghcaaDoor
