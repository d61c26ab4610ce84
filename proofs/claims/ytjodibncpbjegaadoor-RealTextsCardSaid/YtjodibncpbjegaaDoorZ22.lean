/- Merged: AvmY, AOut, AvmZ. -/
import Derived.Test.YtjodibncpbjegaaDoorZ21
/- A range over a function whose iterator makes what it hands over and writes into a variable of its caller's when it ends. No program. -/
set_option linter.unusedVariables false
set_option linter.unusedSimpArgs false
namespace Go.Proofs.YtjodibncpbjegaaDoor
open Go.RowKit

/-- The iterator: what it hands over (Gd), and a last step Fin of its own. -/
def SeqY {α : Type} (P : Program) (gf : Nat) (lb : Array Value) (encs : α → Array Value) (Hp : World → Prop) (Gd : List α → α → World → World → Prop) (Fin : List α → World → World → Prop) (N : Nat) (w : World) : Prop :=
  ∀ (l : Nat) (J : List α → World → Prop) (W : World), Kept w W → Hp W →
    (∀ pre x W0 W1, J pre W0 → Kept W0 W1 → pre.length < N → Gd pre x W0 W1 → YieldAt Fence.wide 0 P l (encs x) W1 fun e W' => e = .returned (.bool true) ∧ J (pre ++ [x]) W' ∧ Hp W') →
    J [] W → CallsIn Fence.wide 1 P gf (#[.func (.yield l) #[] #[]] ++ lb) W fun e W' => (∃ v, e = .returned v) ∧ ∃ xs W1 W2, J xs W1 ∧ Kept W1 W2 ∧ Fin xs W2 W'

/-- The two blocks of the loop's book-keeping. -/
structure Book (D : Nat) (r : Obj) (W : World) : Prop where
  lp : W.heap[D + 1]? = some r
  dfr : W.heap[D]? = some (.deferred (some []))
theorem Book.keeps {D B : Nat} {r : Obj} {A C : World} (h : Book D r A) (hk : KeepsFrom B A C) (hB : B ≤ D) (hr : r.isCells = false) : Book D r C :=
  ⟨hk.same _ _ (by omega) h.lp hr, hk.same _ _ hB h.dfr rfl⟩
theorem Book.kept {D : Nat} {r : Obj} {A C : World} (h : Book D r A) (hk : Kept A C) : Book D r C :=
  ⟨(hk.block _ (Array.getElem?_eq_some_iff.1 h.lp).1).trans h.lp, (hk.block _ (Array.getElem?_eq_some_iff.1 h.dfr).1).trans h.dfr⟩
theorem Book.turn {D : Nat} {r : Obj} {A : World} (h : Book D r A) (r' : Obj) : Book D r' (A.putObj (D + 1) r') :=
  ⟨World.putObj_heap_same (Array.getElem?_eq_some_iff.1 h.lp).1, (World.putObj_heap_other (by omega)).trans h.dfr⟩
/-! ### What says nothing of being one's own -/
inductive NoOwn : AV → Prop
  | any : NoOwn .any
  | s (v : Value) : NoOwn (.s v)
  | agg (l : List AV) (h : ∀ x ∈ l, NoOwn x) : NoOwn (.agg l)
  | tup (l : List AV) (h : ∀ x ∈ l, NoOwn x) : NoOwn (.tup l)
  | bp (id off : Nat) : NoOwn (.bp id off)
  | rp (l : List AV) (h : ∀ x ∈ l, NoOwn x) : NoOwn (.rp l)
  | sl (tag : Tag) (es : List (List AV)) (h : ∀ x ∈ es.flatten, NoOwn x) : NoOwn (.sl false tag es)
  | fn (f : Fn) (caps : List AV) (h : ∀ x ∈ caps, NoOwn x) : NoOwn (.fn f caps)
  | ifc (t : TypeId) (v : AV) (h : NoOwn v) : NoOwn (.ifc t v)
  | mp (id : Nat) : NoOwn (.mp id)
theorem VSim.reroot {g : Gh} {r : Root} {v : AV} {x : Value} (hv : VSim g v x) : NoOwn v → VSim (g.root r) v x := by
  induction hv with
  | any x => exact fun _ => .any x
  | s v h1 => exact fun _ => .s v h1
  | agg l a hs h1 _ ih => exact fun h => .agg l a hs h1 fun i x hx => ih i x hx (by cases h with | agg _ h => exact h x (List.mem_of_getElem? hx))
  | tup l a hs _ ih => exact fun h => .tup l a hs fun i x hx => ih i x hx (by cases h with | tup _ h => exact h x (List.mem_of_getElem? hx))
  | bp id off b hb => exact fun _ => .bp id off b hb
  | rp l b o vs h1 _ ih => exact fun h => .rp l b o vs h1 fun i x hx => ih i x hx (by cases h with | rp _ h => exact h x (List.mem_of_getElem? hx))
  | sl own tag es A cap sz vs hl hc hsz h1 hA _ htag ih =>
    intro h
    cases h with
    | sl _ _ h =>
      refine .sl false tag es A cap sz vs hl hc hsz h1 (fun hn => ?_) (fun j x hx => ih j x hx (h x (List.mem_of_getElem? hx))) ?_
      · obtain ⟨b, o, e, _, hK⟩ := hA hn
        exact ⟨b, o, e, (fun hb => by cases hb), hK⟩
      · cases tag with
        | none => trivial
        | full => exact htag
        | lin id => exact htag
  | fn f caps ca hs _ ih => exact fun h => .fn f caps ca hs fun i x hx => ih i x hx (by cases h with | fn _ _ h => exact h x (List.mem_of_getElem? hx))
  | ifc t v x _ ih => exact fun h => .ifc t v x (ih (by cases h; assumption))
  | mp id b hb => exact fun _ => .mp id b hb
/-- A call from a world in which K's cells lie: what lay there stays. -/
def ghR (K : Nat → Nat → Option Value) (W : World) : Gh := ⟨K, [], [], ⟨W, 0, fun _ => none⟩⟩
theorem invR {K : Nat → Nat → Option Value} {W : World} (hK : ∀ b o v, K b o = some v → W.cell? ⟨b, o, none⟩ = some v ∧ oneV v = true) (hT : WorldOk W) : Inv (ghR K W) ⟨[], []⟩ W :=
  ⟨hK, rfl, fun i b cs h => by simp [ghR] at h, fun b h => by simp [ghR] at h, List.nodup_nil, rfl, fun i L h => by simp [ghR] at h, fun i j L L' a a' h => by simp [ghR] at h, ⟨⟨Kept.refl _, Nat.zero_le _⟩, fun b o h => by cases h⟩, hT, fun b o v h hb => absurd (World.block_lt_of_cell? W _ (hK b o v h).1) (Nat.not_lt.2 hb)⟩
theorem Gives.callsR {P : Program} {f : FuncId} {args : List AV} {v : AV} {vs : List Value} {K : Nat → Nat → Option Value} {W : World} (h : Gives P f args v) (hK : ∀ b o v, K b o = some v → W.cell? ⟨b, o, none⟩ = some v ∧ oneV v = true) (hT : WorldOk W) (ha : ASim (ghR K W) args vs) :
    Calls P f vs.toArray W fun e W' => Kept W W' ∧ ∃ x K', e = .returned x ∧ (∀ b o v, K' b o = some v → W'.cell? ⟨b, o, none⟩ = some v ∧ oneV v = true) ∧ (∀ b o v, K' b o = some v → W.heap.size ≤ b → Loose (W'.heap[b]?)) ∧ VSim ⟨K', [], [], ⟨W, 0, fun _ => none⟩⟩ v x := by
  refine (h ⟨[], []⟩ (ghR K W) W vs (invR hK hT) ha).mono ?_
  rintro e w' ⟨g', o, st', h1, h2, h3, rfl, rfl⟩
  have hk := h2.kept
  rw [h1.w0] at hk
  cases h3 with
  | ret _ x hx =>
    have hb : g'.bx = [] := List.eq_nil_of_length_eq_zero h2.bxlen
    have hl : g'.ln = [] := List.eq_nil_of_length_eq_zero h2.lnlen
    obtain ⟨K', bx, ln, w0⟩ := g'
    dsimp only at hb hl
    subst hb hl
    have hw : w0 = ⟨W, 0, fun _ => none⟩ := h1.w0
    subst hw
    exact ⟨hk.1.1, x, K', rfl, h2.K, h2.nf, hx⟩
theorem Has.put {C : Nat → Nat → Option Value} {W : World} (h : Has C W) {l : Nat} {o : Obj} (hl : W.heap[l]? = some o) (hc : o.isCells = false) (o' : Obj) : Has C (W.putObj l o') := fun b o1 v hv =>
  cell_kept (h b o1 v hv) (grownBy_putObj' W l o') (fun r e => by cases e; exact ⟨o, hl, hc⟩)
/-- How a round's body may be left: by going on. -/
def goesOn {α : Type} (B : Nat) (Hp : World → Prop) (I : List α → World → Prop) (xs : List α) (W : World) : Exit → Act → World → Prop
  | .normal, _, W' => KeepsFrom B W W' ∧ Hp W' ∧ I xs W'
  | _, _, _ => False
theorem range_lawY {P : Program} {α : Type} {g : Operand} {ps : Array Tmp} {assign body : Code} {Q : Exit → Act → World → Prop} {a : Act} {w : World} {gf : Nat} {lb : Array Value} (hg : a.eval g = .func (.func gf) #[] lb) (eg : ∀ args w, (callFunc gf args).run P w = .ok (.enter gf args) w)
    {encs : α → Array Value} {Hp : World → Prop} {Gd : List α → α → World → World → Prop} {Fin : List α → World → World → Prop} {N : Nat} (hseq : SeqY P gf lb encs Hp Gd Fin N w) (hC : Hp w)
    (hHK : ∀ A B, Hp A → Kept A B → Hp B) (hHO : ∀ (W : World) (l : Nat) (o o' : Obj), w.heap.size ≤ l → W.heap[l]? = some o → o.isCells = false → Hp W → Hp (W.putObj l o')) (hps : ∀ x, (encs x).size = ps.size)
    (I If : List α → World → Prop) (hI : OwnFrom w.heap.size I) (hIK : ∀ pre A B, I pre A → Kept A B → I pre B) (hIf : OwnFrom w.heap.size If) (h0 : I [] w)
    (hFk : ∀ xs A B, I xs A → Fin xs A B → KeepsFrom w.heap.size A B ∧ If xs B) (a₁ : α → Act)
    (hass : ∀ (l : Nat) (x : α) (W : World) (K : Act → World → Prop), K (a₁ x) W → assign.wpIn (Fence.wide.inRound l) 0 P (Exit.then K (fun _ _ _ => False)) { tmps := (ps.zip (encs x)).foldl (fun t (p, v) => t.setIfInBounds p v) a.tmps, defers := [] } W)
    (hbody : ∀ (l : Nat) (pre : List α) (x : α) (W0 W1 W2 : World), I pre W0 → Kept W0 W1 → pre.length < N → Gd pre x W0 W1 → (∃ r r', W1.heap[l]? = some r ∧ r.isCells = false ∧ w.heap.size ≤ l ∧ W2 = W1.putObj l r') → body.wpIn (Fence.wide.inRound l) 0 P (goesOn w.heap.size Hp I (pre ++ [x]) W2) (a₁ x) W2)
    (hdone : ∀ (D : Nat) (xs : List α) (W : World), w.heap.size ≤ D → If xs W → W.heap[D]? = some (.deferred (some [])) → Q .normal { a with defers := coll D :: a.defers } W) :
    (Code.rangeFunc g ps assign body).wpIn Fence.wide 2 P Q a w := by
  refine wpIn_rangeFunc fun fn hfn => ?_
  obtain ⟨D, hD⟩ : ∃ D, D = w.heap.size := ⟨_, rfl⟩
  obtain ⟨rec, hrec⟩ : ∃ rec : LoopState → Option Code → Loop, rec = fun s p => { state := s, pending := p, fn, tmps := a.tmps, params := ps, assign, body, defers := w.heap.size } := ⟨_, rfl⟩
  obtain ⟨W0, hW0⟩ : ∃ W0, W0 = (w.alloc (.deferred (some []))).alloc (.loop (rec .ready none)) := ⟨_, rfl⟩
  have hbk : Book D (.loop (rec .ready none)) W0 := by
    subst hD
    constructor
    · rw [hW0]
      have := World.alloc_heap_new (w.alloc (.deferred (some []))) (.loop (rec .ready none))
      rwa [World.size_alloc] at this
    · rw [hW0]
      exact (Below.heap_alloc _ _ _ (by simp)).trans (World.alloc_heap_new w _)
  have hbel : Kept w W0 := by
    rw [hW0]
    exact ((Kept.refl w).alloc _).alloc _
  have body1 : ∀ (pre : List α) (x : α) (V W : World), (I pre V ∧ Book D (.loop (rec .ready none)) V) → Kept V W → pre.length < N → Gd pre x V W →
      YieldAt Fence.wide 0 P (D + 1) (encs x) W fun e W' => e = .returned (.bool true) ∧ (I (pre ++ [x]) W' ∧ Book D (.loop (rec .ready none)) W') ∧ Hp W' := by
    rintro pre x V W ⟨hi, hbV⟩ hk hlen hgd
    have hb := hbV.kept hk
    have hy := run_yield (P := P) (args := encs x) hb.lp (by rw [hrec]; exact hps x)
    rw [hrec] at hy
    refine ⟨fn, _, assign, body, hy, roundIn_of_wpIn hfn (hass _ x W _ ?_)⟩
    refine ⟨_, run_beginRound hb.lp (by rw [hrec]), ?_⟩
    have hb2 : Book D (.loop { rec .ready none with state := .busy }) (W.putObj (D + 1) (.loop { rec .ready none with state := .busy })) := hb.turn _
    refine wpIn_mono (hbody _ pre x V W _ hi hk hlen hgd ⟨_, _, hb.lp, rfl, by omega, rfl⟩) fun e a3 W3 hp => ?_
    cases e with
    | normal =>
      obtain ⟨k1, k2, k3⟩ := hp
      have hb3 := hb2.keeps k1 (by omega) rfl
      have hr := run_endRound (P := P) none hb3.lp
      rw [hrec] at hr
      refine ⟨_, _, hr, rfl, ⟨hI.putObj _ k3 (by omega) hb3.lp rfl, ?_⟩, hHO _ _ _ _ (by omega) hb3.lp rfl k2⟩
      have := hb3.turn (.loop (rec .ready none))
      rw [hrec] at this ⊢
      exact this
    | _ => exact hp.elim
  refine ⟨D + 1, [coll D], W0, { target := .fn (.func gf) lb, args := #[.func (.yield (D + 1)) #[] #[]] }, W0, gf, #[.func (.yield (D + 1)) #[] #[]] ++ lb, W0, ?_, ?_, ?_, ?_, (fun _ => by decide), ?_⟩
  · rw [hW0, hrec, hD]; exact run_enterLoop_outer _ _ _ _ _
  · simp only [resolve, hg]
    simp [go_sem]
  · intro f' _; trivial
  · simp [invoke, go_sem, eg]
  · refine (hseq (D + 1) (fun pre W => I pre W ∧ Book D (.loop (rec .ready none)) W) W0 hbel (hHK _ _ hC hbel) body1 ⟨hIK _ _ _ h0 hbel, hbk⟩).mono ?_
    rintro e W2 ⟨⟨v, rfl⟩, xs, V1, V2, ⟨hi, hb⟩, hk, hfin⟩
    obtain ⟨f1, f2⟩ := hFk _ _ _ (hIK _ _ _ hi hk) hfin
    have hb2 := (hb.kept hk).keeps f1 (by omega) rfl
    have hr := run_endLoop (P := P) hb2.lp (by rw [hrec]; simp)
    rw [hrec] at hr
    exact ⟨none, _, hr, hdone D xs _ (by omega) (hIf.putObj _ f2 (by omega) hb2.lp rfl) (hb2.turn _).dfr⟩

/-! ### In plain data -/
/-- What a round's body may end in. -/
def bodyY {α : Type} (n m : Nat) (st : AS) (J : List α → AS → Prop) (xs : List α) : Post
  | .normal, _, st' => BoxesOk st st' ∧ J xs (st'.cut n m)
  | _, _, _ => False
section
variable {α : Type} {n m : Nat} {st st' : AS} {J : List α → AS → Prop} {xs : List α} {fr : AFr}
theorem bodyY_normal : bodyY n m st J xs .normal fr st' = (BoxesOk st st' ∧ J xs (st'.cut n m)) := no_rfl rfl
instance instPF_bodyY : PF (bodyY n m st J xs) := ⟨fun v fr fr' st h => h⟩
end
/-- In a round: what else lies in the world may be turned. -/
theorem Inv.turned {g3 g' : Gh} {st3 st : AS} {w3 W W' : World} (hi : Inv g3 st3 w3) (hl : st.bx.length = st3.bx.length) (hle : g3.le g') (hi' : Inv g' st W) {row : Option Nat} (hgr : W.grownBy W' row) (hr : ∀ r, row = some r → w3.heap.size ≤ r ∧ ∃ o : Obj, W.heap[r]? = some o ∧ o.isCells = false) : Inv g' st W' := by
  refine hi'.other hgr fun k e => ?_
  obtain ⟨h1, h2⟩ := hr k e
  refine ⟨?_, fun hm => ?_, ?_, h2⟩
  · unfold Gh.base; rw [hle.w0]; exact Nat.le_trans hi.base_le h1
  · rw [same_bx hi hl hle hi'] at hm
    have := hi.bx_lt hm
    omega
  · rw [hle.w0]
    cases hz : g3.w0.fz k with
    | none => rfl
    | some o => have := (Array.getElem?_eq_some_iff.1 (hi.kept.2 k o hz).1).1; omega
/-- A round's body in plain data. -/
theorem round_body {P : Program} {body : Code} {α : Type} {g3 g' : Gh} {st3 st : AS} {w3 W : World} {fr : AFr} {a : Act} {J : List α → AS → Prop} {xs : List α} {Hp : World → Prop} (hi : Inv g3 st3 w3) (h2 : g3.le g') (h3 : Inv g' st W) (hf : FSim ⟨[], fun _ => none⟩ g' fr a)
    (hl : st.bx.length = st3.bx.length ∧ st.ln.length = st3.ln.length) (nd : ndC body = true) (hC : ∀ st g' W, J xs st → g3.le g' → Inv g' st W → Hp W) (hbody : awp P body (bodyY st3.bx.length st3.ln.length st J xs) fr st) (l : Nat) :
    body.wpIn (Fence.wide.inRound l) 0 P (goesOn w3.heap.size Hp (fun xs W => ∃ st g', J xs st ∧ g3.le g' ∧ Inv g' st W) xs W) a W := by
  have hbx := same_bx hi hl.1 h2 h3
  have fzlt : ∀ b o, g3.w0.fz b = some o → b < w3.heap.size := fun b o hb => (Array.getElem?_eq_some_iff.1 (hi.kept.2 b o hb).1).1
  obtain ⟨fz, hfz⟩ : ∃ fz : Nat → Option Obj, ∀ k o, fz k = some o ↔ (w3.heap.size ≤ k ∧ W.heap[k]? = some o ∧ isC o = false) ∨ (k < w3.heap.size ∧ g3.w0.fz k = some o) := by
    refine ⟨fun k => if w3.heap.size ≤ k then (W.heap[k]?).bind (fun o => if isC o = false then some o else none) else g3.w0.fz k, fun k o => ?_⟩
    by_cases hk : w3.heap.size ≤ k
    · simp only [if_pos hk]
      constructor
      · intro h
        obtain ⟨o', e1, e2⟩ := Option.bind_eq_some_iff.1 h
        split at e2
        · rename_i hc
          obtain rfl := Option.some.inj e2
          exact .inl ⟨hk, e1, hc⟩
        · cases e2
      · rintro (⟨_, e1, e2⟩ | ⟨e1, _⟩)
        · rw [e1]; simp [e2]
        · omega
    · simp only [if_neg hk]
      constructor
      · intro h; exact .inr ⟨by omega, h⟩
      · rintro (⟨e1, _⟩ | ⟨_, e2⟩)
        · exact absurd e1 hk
        · exact e2
  obtain ⟨rt, hrt⟩ : ∃ rt : Root, rt = ⟨g'.w0.W, W.heap.size, fz⟩ := ⟨_, rfl⟩
  have hrW : rt.W = g'.w0.W := by rw [hrt]
  have hiW : Inv (g'.root rt) st W := h3.root hrW (by
    rw [hrt]
    refine ⟨⟨h3.kept.1.1, Nat.le_refl _⟩, fun b o hb => ?_⟩
    rcases (hfz b o).1 hb with ⟨_, e1, e2⟩ | ⟨_, e2⟩
    · exact ⟨e1, e2⟩
    · have := h3.kept.2 b o
      rw [h2.w0] at this
      exact this e2) (fun b hb => by
    rw [hrt]
    show fz b = none
    cases hz : fz b with
    | none => rfl
    | some o =>
      rw [hbx] at hb
      rcases (hfz b o).1 hz with ⟨e1, _⟩ | ⟨_, e2⟩
      · have := hi.bx_lt hb
        omega
      · rw [(hi.bxK b hb).2.2] at e2
        cases e2)
  have hfW := hf.root hrW
  refine wpIn_mono (awpR_sound body _ (instPF_bodyY (n := st3.bx.length) (m := st3.ln.length) (st := st) (J := J) (xs := xs)).free _ _ hbody (some l) (.inr nd) ⟨[], fun _ => none⟩ (fun _ _ => rfl) (g'.root rt) _ W hiW hfW) fun e a' W' hq => ?_
  obtain ⟨g2, xx, fr', st', k1, k2, k3, k4, k5⟩ := hq
  have hw0 : g2.w0 = rt := k1.w0
  have hsize : W.heap.size ≤ W'.heap.size := by
    have := k2.kept.1.2
    rw [hw0, hrt] at this
    exact this
  have hkf : KeepsFrom w3.heap.size W W' := ⟨hsize, fun k o hk hW hc => by
    have := k2.kept.2 k o
    rw [hw0, hrt] at this
    exact (this ((hfz k o).2 (.inl ⟨hk, hW, by rw [isC_cells]; exact hc⟩))).1⟩
  have back : BoxesOk st st' → ∃ g4, g3.le g4 ∧ Inv g4 (st'.cut st3.bx.length st3.ln.length) W' := fun hb => by
    have hc := hiW.cut k1 k2 hb
    rw [hl.1, hl.2] at hc
    have hcl := k1.cut
    rw [hiW.bxlen, hiW.lnlen, hl.1, hl.2] at hcl
    refine ⟨(g2.cut st3.bx.length st3.ln.length).root g'.w0, ⟨h2.w0, fun b o v hv => hcl.K b o v (h2.K b o v hv), fun i b hb => hcl.bx i b (h2.bx i b hb), fun i L hL => ?_⟩, ?_⟩
    · obtain ⟨L', e1, e2, e3⟩ := h2.ln i L hL
      obtain ⟨L2, f1, f2, f3⟩ := hcl.ln i L' e1
      refine ⟨L2, f1, Nat.le_trans e2 f2, fun he => ?_⟩
      have e4 : L.n = L'.n := by omega
      have e5 : L'.n = L2.n := by omega
      rw [f3 e5, e3 e4]
    · refine hc.root (by show g'.w0.W = g2.w0.W; rw [hw0, hrt]) ⟨⟨?_, ?_⟩, fun b o hb => ?_⟩ (fun b hb => ?_)
      · have := k2.kept.1.1
        rw [hw0, hrt] at this
        exact this
      · exact Nat.le_trans h3.kept.1.2 hsize
      · rw [h2.w0] at hb
        have := k2.kept.2 b o
        rw [hw0, hrt] at this
        exact this ((hfz b o).2 (.inr ⟨fzlt b o hb, hb⟩))
      · have hb' : b ∈ g2.bx := List.mem_of_mem_take hb
        have hz := (k2.bxK b hb').2.2
        rw [hw0, hrt] at hz
        cases hz2 : g'.w0.fz b with
        | none => rfl
        | some o =>
          rw [h2.w0] at hz2
          have := (hfz b o).2 (.inr ⟨fzlt b o hz2, hz2⟩)
          have hz' : fz b = none := hz
          rw [this] at hz'
          cases hz'
  cases k4 with
  | normal =>
    obtain ⟨b1, b2⟩ := k5
    obtain ⟨g4, q1, q2⟩ := back b1
    exact ⟨hkf, hC _ g4 W' b2 q1 q2, _, g4, b2, q1, q2⟩
  | exit id => exact k5.elim
  | ret => exact k5.elim
  | panic v z hz => exact k5.elim

/-! ### A function -/
/-- Pieces of code, one behind the other. -/
def seqL : List Code → Code → Code
  | [], y => y
  | x :: l, y => .seq x (seqL l y)
/-- Going on is K's, all else is the function's end. -/
def preK (P : Program) (rs : List ResultVar) (st : AS) (R : AOut → AS → Prop) (K : AFr → AS → Prop) : Post
  | .normal, fr, s => K fr s
  | x, fr, s => retK P rs st R x fr s
section
variable {P : Program} {rs : List ResultVar} {st s : AS} {R : AOut → AS → Prop} {K : AFr → AS → Prop} {fr : AFr}
theorem preK_normal : preK P rs st R K .normal fr s = K fr s := no_rfl rfl
theorem preK_ret : preK P rs st R K .ret fr s = retK P rs st R .ret fr s := no_rfl rfl
theorem preK_exit {id : Nat} : preK P rs st R K (.exit id) fr s = retK P rs st R (.exit id) fr s := no_rfl rfl
theorem preK_panic {v : AV} : preK P rs st R K (.panic v) fr s = retK P rs st R (.panic v) fr s := no_rfl rfl
instance instPF_pre : PF (preK P rs st R K) := ⟨fun v fr fr' st h => h⟩
end
def awpL (P : Program) (rs : List ResultVar) (st : AS) (R : AOut → AS → Prop) : List Code → (AFr → AS → Prop) → AFr → AS → Prop
  | [], K => K
  | x :: l, K => awp P x (preK P rs st R (awpL P rs st R l K))
theorem awpL_nil {P : Program} {rs : List ResultVar} {st s : AS} {R : AOut → AS → Prop} {K : AFr → AS → Prop} {fr : AFr} : awpL P rs st R [] K fr s = K fr s := no_rfl rfl
theorem awpL_cons {P : Program} {rs : List ResultVar} {st s : AS} {R : AOut → AS → Prop} {K : AFr → AS → Prop} {fr : AFr} {x : Code} {l : List Code} : awpL P rs st R (x :: l) K fr s = awp P x (preK P rs st R (awpL P rs st R l K)) fr s := no_rfl rfl
def BodyEnd (P : Program) (fn : Func) (g : Gh) (R : AOut → AS → Prop) : Exit → Act → World → Prop := bodyPostM Fence.wide 2 P fn fun e w' => ∃ g' o st', g.le g' ∧ Inv g' st' w' ∧ OSim g' o e ∧ R o st'
/-- The function's end ahead of the loop. -/
theorem pre_end {P : Program} {fn : Func} {rs : List ResultVar} {st s : AS} {R : AOut → AS → Prop} {g g1 : Gh} {w w1 : World} {x : AX} {e : Exit} {fr : AFr} {a1 : Act} (hr : fn.results = rs.toArray) (hi : Inv g st w) (hle : g.le g1) (hi1 : Inv g1 s w1) (hf1 : FSim ⟨[], fun _ => none⟩ g1 fr a1)
    (hx : XSim g1 x e) (hn : x ≠ .normal) (h : retK P rs st R x fr s) : BodyEnd P fn g R e a1 w1 := by
  cases hx with
  | normal => exact absurd rfl hn
  | exit id => exact h.elim
  | ret =>
    show LeavesInM _ _ _ _ _ _ a1.defers _ _
    rw [hf1.defers]
    exact ret_sound (fn := fn) hi hle hi1 hf1 (by rw [hr]; exact h)
  | panic v z hz =>
    obtain ⟨q1, q2, q3⟩ := h
    show LeavesInM _ _ _ _ _ _ a1.defers _ _
    rw [hf1.defers]
    refine ⟨g1.cut st.bx.length st.ln.length, _, _, ?_, hi.cut hle hi1 q2, .panic _ _ (hz.cut q1), q3⟩
    have := hle.cut; rwa [hi.bxlen, hi.lnlen] at this
theorem pre_one {P : Program} {fn : Func} {rs : List ResultVar} {st s : AS} {R : AOut → AS → Prop} {K : AFr → AS → Prop} {x : Code} {T : Act → World → Prop} {g g1 : Gh} {w w1 : World} {fr : AFr} {a1 : Act} (hr : fn.results = rs.toArray) (hi : Inv g st w) (hle : g.le g1) (hi1 : Inv g1 s w1) (hf1 : FSim ⟨[], fun _ => none⟩ g1 fr a1)
    (h : awp P x (preK P rs st R K) fr s) (hT : ∀ g2 s2 fr2 a2 w2, g.le g2 → Inv g2 s2 w2 → FSim ⟨[], fun _ => none⟩ g2 fr2 a2 → K fr2 s2 → T a2 w2) : x.wpIn Fence.wide 2 P (Exit.then T (BodyEnd P fn g R)) a1 w1 := by
  refine wpIn_mono (awp_at instPF_pre.free h [] hi1 hf1 2) fun e a2 w2 hq => ?_
  obtain ⟨g2, xx, fr2, s2, k1, k2, k3, k4, k5⟩ := hq
  cases k4 with
  | normal => exact hT g2 s2 fr2 a2 w2 (hle.trans k1) k2 k3 k5
  | exit id => exact pre_end hr hi (hle.trans k1) k2 k3 (.exit id) (by simp) k5
  | ret => exact pre_end hr hi (hle.trans k1) k2 k3 .ret (by simp) k5
  | panic v z hz => exact pre_end hr hi (hle.trans k1) k2 k3 (.panic v z hz) (by simp) k5
theorem pre_list {P : Program} {fn : Func} {rs : List ResultVar} {st : AS} {R : AOut → AS → Prop} {K : AFr → AS → Prop} {y : Code} {g : Gh} {w : World} (hr : fn.results = rs.toArray) (hi : Inv g st w)
    (hy : ∀ g2 s2 fr2 a2 w2, g.le g2 → Inv g2 s2 w2 → FSim ⟨[], fun _ => none⟩ g2 fr2 a2 → K fr2 s2 → y.wpIn Fence.wide 2 P (BodyEnd P fn g R) a2 w2) : ∀ (l : List Code) (g1 : Gh) (s : AS) (fr : AFr) (a1 : Act) (w1 : World), g.le g1 → Inv g1 s w1 → FSim ⟨[], fun _ => none⟩ g1 fr a1 →
    awpL P rs st R l K fr s → (seqL l y).wpIn Fence.wide 2 P (BodyEnd P fn g R) a1 w1
  | [], g1, s, fr, a1, w1, hle, hi1, hf1, h => hy g1 s fr a1 w1 hle hi1 hf1 h
  | x :: l, g1, s, fr, a1, w1, hle, hi1, hf1, h => wpIn_seq (pre_one hr hi hle hi1 hf1 h fun g2 s2 fr2 a2 w2 k1 k2 k3 k4 => pre_list hr hi hy l g2 s2 fr2 a2 w2 k1 k2 k3 k4)
theorem enter_rangeY {P : Program} {f : FuncId} {fn : Func} {pcs : List Code} {cc ce : Code} {bid : Nat} {gop : Operand} {ps : Array Tmp} {assign body : Code} {n : Nat} {rs : List ResultVar} {args : List AV} {st : AS} {R : AOut → AS → Prop} {α : Type}
    (hf : P.funcs[f]? = some fn) (hb : fn.body = some (seqL pcs (.seq (.seq cc (.block bid (.rangeFunc gop ps assign body))) ce))) (hn : fn.ntmps = n) (hr : fn.results = rs.toArray) (hl : args.length ≤ n) (fr3 : AFr) (st2 st3 : AS)
    (hpre : awpL P rs st R pcs (awp P cc (preK P rs st R fun fr' s' => fr3.sub fr' ∧ s' = st2)) ⟨n, (List.range args.length).zip args⟩ st) (hgrow : ∀ g w, Inv g st2 w → ∃ g', g.le g' ∧ Inv g' st3 w)
    {encs : α → Array Value} (frx : α → AFr) (a₁ : Act → α → Act) (gf : Nat) {N : Nat} (J Jf : List α → AS → Prop) (hps : ∀ x, (encs x).size = ps.size)
    (hit : ∀ g3 a3 w3, Inv g3 st3 w3 → FSim ⟨[], fun _ => none⟩ g3 fr3 a3 → ∃ lb Hp Gd Fin, a3.eval gop = .func (.func gf) #[] lb ∧ SeqY P gf lb encs Hp Gd Fin N w3 ∧ (∀ A B, Hp A → Kept A B → Hp B) ∧
      (∀ (W : World) (l : Nat) (o o' : Obj), w3.heap.size ≤ l → W.heap[l]? = some o → o.isCells = false → Hp W → Hp (W.putObj l o')) ∧ (∀ pre st g' W, J pre st → g3.le g' → Inv g' st W → Hp W) ∧
      (∀ pre x st g' W0 W1, J pre st → g3.le g' → Inv g' st W0 → Kept W0 W1 → Gd pre x W0 W1 → ∃ g'', g'.le g'' ∧ Inv g'' st W1 ∧ FSim ⟨[], fun _ => none⟩ g'' (frx x) (a₁ a3 x)) ∧
      (∀ xs st g' A B, J xs st → g3.le g' → Inv g' st A → Fin xs A B → KeepsFrom w3.heap.size A B ∧ ∃ st' g'', Jf xs st' ∧ g3.le g'' ∧ Inv g'' st' B))
    (hgf : hasBody P gf = true) (hJ : ∀ pre st, J pre st → st.bx.length = st3.bx.length ∧ st.ln.length = st3.ln.length) (hJf : ∀ pre st, Jf pre st → st.bx.length = st3.bx.length) (h0 : J [] st3)
    (hass : ∀ (a3 : Act) (l : Nat) (x : α) (W : World) (K : Act → World → Prop), K (a₁ a3 x) W → assign.wpIn (Fence.wide.inRound l) 0 P (Exit.then K (fun _ _ _ => False)) { tmps := (ps.zip (encs x)).foldl (fun t (p, v) => t.setIfInBounds p v) a3.tmps, defers := [] } W)
    (nd : ndC body = true) (hbody : ∀ pre x st, J pre st → pre.length < N → awp P body (bodyY st3.bx.length st3.ln.length st J (pre ++ [x])) (frx x) st)
    (hpost : ∀ xs st4, Jf xs st4 → awp P ce (retK P rs st R) fr3 st4) : DoesCall P f args st R := by
  intro g w vs hi ha
  refine (callsIn_wide (n := 2)).1 (callsIn_of_wp_marks hf hb trivial ?_ rfl)
  rw [hn]
  refine pre_list (R := R) (fn := fn) hr hi ?_ pcs g st _ _ w (.refl g) hi (args_fsim ha hl) hpre
  intro g1 s1 fr1 a1 w1 le1 hi1 hf1 hK1
  refine wpIn_seq (wpIn_seq (wpIn_mono (awp_at instPF_pre.free hK1 [] hi1 hf1 2) fun e a3 w3 hq => ?_))
  obtain ⟨g2, xx, fr3', s2, k1, k2, k3, k4, k5⟩ := hq
  cases k4 with
  | exit id => exact k5.elim
  | ret => exact pre_end (P := P) (R := R) hr hi (le1.trans k1) k2 k3 .ret (by simp) k5
  | panic v z hz => exact pre_end (P := P) (R := R) hr hi (le1.trans k1) k2 k3 (.panic v z hz) (by simp) k5
  | normal =>
  obtain ⟨hsub, rfl⟩ := k5
  obtain ⟨g3, q1, hi3⟩ := hgrow g2 w3 k2
  have hf3 := (k3.sub hsub).mono q1
  have hle3 := (le1.trans k1).trans q1
  obtain ⟨lb, Hp, Gd, Fin, hg, hseq, hHK, hHO, hCk, hx, hfin⟩ := hit g3 a3 w3 hi3 hf3
  refine wpIn_block ?_
  refine range_lawY hg (fun args w => callFunc_enter hgf args w) hseq (hCk _ _ g3 w3 h0 (.refl g3) hi3) hHK hHO hps (fun xs W => ∃ st g', J xs st ∧ g3.le g' ∧ Inv g' st W) (fun xs W => ∃ st g', Jf xs st ∧ g3.le g' ∧ Inv g' st W) ?_ ?_ ?_ ⟨st3, g3, h0, .refl g3, hi3⟩ ?_ (a₁ a3) (hass a3) ?_ ?_
  · rintro xs A B row ⟨s, g', j1, j2, j3⟩ hgr hrow
    exact ⟨s, g', j1, j2, hi3.turned (hJ _ _ j1).1 j2 j3 hgr hrow⟩
  · rintro xs A B ⟨s, g', j1, j2, j3⟩ hk
    exact ⟨s, g', j1, j2, j3.kept_ hk⟩
  · rintro xs A B row ⟨s, g', j1, j2, j3⟩ hgr hrow
    exact ⟨s, g', j1, j2, hi3.turned (hJf _ _ j1) j2 j3 hgr hrow⟩
  · rintro xs A B ⟨s, g', j1, j2, j3⟩ hF
    obtain ⟨f1, s', g'', f2, f3, f4⟩ := hfin xs s g' A B j1 j2 j3 hF
    exact ⟨f1, s', g'', f2, f3, f4⟩
  · rintro l pre x V0 V1 V2 ⟨s, g', j1, j2, j3⟩ hk hlen hgd ⟨r, r', u1, u2, u3, rfl⟩
    obtain ⟨g'', v1, v2, v3⟩ := hx pre x s g' V0 V1 j1 j2 j3 hk hgd
    have v4 := hi3.turned (hJ _ _ j1).1 (j2.trans v1) v2 (grownBy_putObj' V1 l r') (fun k e => by cases e; exact ⟨u3, r, u1, u2⟩)
    exact round_body hi3 (j2.trans v1) v4 v3 (hJ _ _ j1) nd (fun s2 g2 W2 => hCk _ s2 g2 W2) (hbody pre x s j1 hlen) l
  · rintro D xs W hD ⟨s, g', j1, j2, j3⟩ hW
    exact range_fin hr hi hle3 hi3 hf3 (hJf _ _ j1) j2 j3 hD hW (hpost xs s j1)
end Go.Proofs.YtjodibncpbjegaaDoor
/- From plain data to the program: what is said of every world. -/
set_option linter.unusedVariables false
namespace Go.Proofs.YtjodibncpbjegaaDoor
open Go.RowKit
/-- What is known at the beginning: every old cell of one cell. -/
def gh0 (W : World) : Gh := ⟨fun b o => match W.cell? ⟨b, o, none⟩ with | some v => if oneV v = true then some v else none | none => none, [], [], ⟨W, 0, fun _ => none⟩⟩
theorem gh0_K {W : World} {b o : Nat} {v : Value} : (gh0 W).K b o = some v ↔ W.cell? ⟨b, o, none⟩ = some v ∧ oneV v = true := by
  unfold gh0
  dsimp only
  constructor
  · intro h
    split at h
    · rename_i u hu
      split at h
      · rename_i h1
        obtain rfl := Option.some.inj h
        exact ⟨hu, h1⟩
      · cases h
    · cases h
  · rintro ⟨h1, h2⟩
    rw [h1]
    simp [h2]
theorem inv0 {W : World} (hT : WorldOk W) : Inv (gh0 W) ⟨[], []⟩ W where
  K b o v h := gh0_K.1 h
  bxlen := rfl
  bx i b cs h := by simp [gh0] at h
  bxK b h := by simp [gh0] at h
  bxnd := List.nodup_nil
  lnlen := rfl
  ln i L h := by simp [gh0] at h
  lnd i j L L' a a' h := by simp [gh0] at h
  kept := ⟨⟨Kept.refl _, Nat.zero_le _⟩, fun b o h => by cases h⟩
  ok := hT
  nf b o v h hb := absurd (World.block_lt_of_cell? W _ (gh0_K.1 h).1) (Nat.not_lt.2 hb)
theorem Gives.calls {P : Program} {f : FuncId} {args : List AV} {v : Value} {vs : List Value} {W : World} (h : Gives P f args (.s v)) (hT : WorldOk W) (ha : ASim (gh0 W) args vs) :
    Calls P f vs.toArray W fun e w' => e = .returned v ∧ Kept W w' := by
  refine (h ⟨[], []⟩ (gh0 W) W vs (inv0 hT) ha).mono ?_
  rintro e w' ⟨g', o, st', h1, h2, h3, rfl, rfl⟩
  have hk := h2.kept
  rw [h1.w0] at hk
  cases h3 with
  | ret _ x hx => cases hx; exact ⟨rfl, hk.1.1⟩
theorem asim_str {g : Gh} {s : ByteArray} {l : List AV} {vs : List Value} (h : ASim g l vs) : ASim g (.s (.string s) :: l) (.string s :: vs) := .cons (.s _ rfl) h
theorem asim_nil {g : Gh} : ASim g [] [] := .nil
end Go.Proofs.YtjodibncpbjegaaDoor
/- Calls from worlds, one after the other, for what writes over an answer. No program. -/
set_option linter.unusedVariables false
set_option linter.unusedSimpArgs false
namespace Go.Proofs.YtjodibncpbjegaaDoor
open Go.RowKit

theorem gh0_hK {W : World} : ∀ b o v, (gh0 W).K b o = some v → W.cell? ⟨b, o, none⟩ = some v ∧ oneV v = true := fun b o v h => gh0_K.1 h
/-- A call from a world of which all is known. -/
theorem Gives.callsN {P : Program} {f : FuncId} {args : List AV} {v : AV} {vs : List Value} {W : World} (h : Gives P f args v) (hT : WorldOk W) (ha : ASim (gh0 W) args vs) :
    Calls P f vs.toArray W fun e W' => Kept W W' ∧ ∃ x K', e = .returned x ∧ (∀ b o v, K' b o = some v → W'.cell? ⟨b, o, none⟩ = some v ∧ oneV v = true) ∧ (∀ b o v, K' b o = some v → W.heap.size ≤ b → Loose (W'.heap[b]?)) ∧ VSim ⟨K', [], [], ⟨W, 0, fun _ => none⟩⟩ v x := by
  refine (h ⟨[], []⟩ (gh0 W) W vs (inv0 hT) ha).mono ?_
  rintro e w' ⟨g', o, st', h1, h2, h3, rfl, rfl⟩
  have hk := h2.kept
  rw [h1.w0] at hk
  cases h3 with
  | ret _ x hx =>
    have hb : g'.bx = [] := List.eq_nil_of_length_eq_zero h2.bxlen
    have hl : g'.ln = [] := List.eq_nil_of_length_eq_zero h2.lnlen
    obtain ⟨K', bx, ln, w0⟩ := g'
    dsimp only at hb hl
    subst hb hl
    have hw : w0 = ⟨W, 0, fun _ => none⟩ := h1.w0
    subst hw
    exact ⟨hk.1.1, x, K', rfl, h2.K, h2.nf, hx⟩
theorem vsim_two {g : Gh} {a b : AV} {u : Value} (h : VSim g (.tup [a, b]) u) : ∃ p q, u = .tuple #[p, q] ∧ VSim g a p ∧ VSim g b q := by
  cases h with
  | tup l a hs hh =>
    refine ⟨a.getD 0 undef, a.getD 1 undef, ?_, hh 0 _ rfl, hh 1 _ rfl⟩
    congr 1
    refine Array.ext (by simpa using hs) fun i h1 h2 => ?_
    have h2' : i < 2 := h2
    match i, h2' with
    | 0, _ => simp [Array.getD, show 0 < a.size by omega]
    | 1, _ => simp [Array.getD, show 1 < a.size by omega]

/-! ### Bytes -/
theorem add_none (b o i : Nat) : (⟨b, o, none⟩ : Addr).add i = ⟨b, o + i, none⟩ := by
  unfold Addr.add
  by_cases h : i = 0
  · subst h; simp
  · simp [h]
def Bn (W : World) (A : Option Addr) (l : List UInt8) : Prop := 0 < l.length → ∃ b o, A = some ⟨b, o, none⟩ ∧ ∀ i, i < l.length → W.cell? ⟨b, o + i, none⟩ = some (.int .u8 ((l.getD i 0).toNat : Int))
theorem Bn.bs {W : World} {A : Option Addr} {l : List UInt8} (h : Bn W A l) : Bs W A l := ⟨fun hn => by
  obtain ⟨b, o, e, hc⟩ := h hn
  exact ⟨_, e, fun i hi => by rw [add_none]; exact hc i hi⟩⟩
theorem Bn.kept {W W' : World} {A : Option Addr} {l : List UInt8} (h : Bn W A l) (hk : Kept W W') : Bn W' A l := fun hn => by
  obtain ⟨b, o, e, hc⟩ := h hn
  exact ⟨b, o, e, fun i hi => hk.cell (hc i hi)⟩
theorem Bn.own {w : World} {base : Nat} {e : TypeId} {A : Option Addr} {c n : Nat} {l : List UInt8} (h : w.ownsRow base e 1 (.slice A n c) n (cellsB l)) : Bn w A l := fun hn => by
  have hl : l.length = n := by have := h.1; simpa [cellsB] using this
  obtain ⟨g, cap, hv, _, _⟩ := h.form (by omega)
  injection hv with hA _ _
  subst hA
  exact ⟨_, _, rfl, fun i hi => by
    have := h.cells (g := g) rfl i _ (cellsB_get l i hi)
    rw [add_none] at this
    exact this⟩
theorem encB_atZ {l : List UInt8} {j : Nat} {x : AV} (h : (encB l).flatten[j]? = some x) : j < l.length ∧ x = .s (.int .u8 ((l.getD j 0).toNat : Int)) := by
  rw [encB_flat, List.getElem?_map, Option.map_eq_some_iff] at h
  obtain ⟨b, hb, rfl⟩ := h
  refine ⟨(List.getElem?_eq_some_iff.1 hb).1, ?_⟩
  rw [List.getD_eq_getElem?_getD, hb]
  rfl
theorem Bn.sim {W : World} {A : Option Addr} {l : List UInt8} {c : Nat} (h : Bn W A l) (hc : l.length ≤ c) (hm : l.length ≤ 140737488355328) (o : Bool) (ho : o = false) : VSim (gh0 W) (.sl o .none (encB l)) (.slice A l.length c) := by
  have hl : (encB l).length = l.length := by simp [encB]
  have := VSim.sl (g := gh0 W) o .none (encB l) A c 1 (fun j => .int .u8 ((l.getD j 0).toNat : Int)) (by rw [hl]; exact hc) (by rw [hl]; exact hm) (encB_lens l) (fun j x hx => by rw [(encB_atZ hx).2]; exact ⟨rfl, rfl⟩)
    (fun hn => by
      have h0 : 0 < l.length := by
        cases l with
        | nil => exact absurd rfl hn
        | cons a l => simp
      obtain ⟨b, o', e, hcell⟩ := h h0
      exact ⟨b, o', e, (fun hb => by rw [ho] at hb; cases hb), fun j x hx => gh0_K.2 ⟨hcell j (encB_atZ hx).1, rfl⟩⟩)
    (fun j x hx => by rw [(encB_atZ hx).2]; exact .s _ rfl) trivial
  rwa [hl] at this
/-- Bytes that a call answered. -/
structure On (W0 W : World) (A : Option Addr) (l : List UInt8) (c : Nat) : Prop where
  cap : l.length ≤ c
  max : l.length ≤ 140737488355328
  at_ : 0 < l.length → ∃ b o, A = some ⟨b, o, none⟩ ∧ W0.heap.size ≤ b ∧ Loose (W.heap[b]?) ∧ ∀ i, i < l.length → W.cell? ⟨b, o + i, none⟩ = some (.int .u8 ((l.getD i 0).toNat : Int))
theorem On.bn {W0 W : World} {A : Option Addr} {l : List UInt8} {c : Nat} (h : On W0 W A l c) : Bn W A l := fun hn => by
  obtain ⟨b, o, e, _, _, hc⟩ := h.at_ hn
  exact ⟨b, o, e, hc⟩
theorem On.of {V W : World} {K : Nat → Nat → Option Value} {l : List UInt8} {x : Value} (hK : ∀ b o v, K b o = some v → W.cell? ⟨b, o, none⟩ = some v ∧ oneV v = true) (hN : ∀ b o v, K b o = some v → V.heap.size ≤ b → Loose (W.heap[b]?)) (h : VSim ⟨K, [], [], ⟨V, 0, fun _ => none⟩⟩ (.sl true .none (encB l)) x) :
    ∃ A c, x = .slice A l.length c ∧ On V W A l c := by
  have hle : (encB l).length = l.length := by simp [encB]
  cases h with
  | sl own tag es A cap sz vs hl hc hsz h1 hA hh htag =>
    rw [hle] at hl hc
    refine ⟨A, cap, by rw [hle], hl, hc, fun hn => ?_⟩
    obtain ⟨b, o, rfl, ho, hKK⟩ := hA (fun h0 => by
      have := congrArg List.length h0
      rw [encB_flat] at this
      simp at this
      rw [this] at hn; simp at hn)
    have key : ∀ i, i < l.length → K b (o + i) = some (.int .u8 ((l.getD i 0).toNat : Int)) := fun i hi => by
      have hx : (encB l).flatten[i]? = some (.s (.int .u8 ((l.getD i 0).toNat : Int))) := by
        rw [encB_flat]
        simp [List.getD_eq_getElem?_getD, hi]
      have h1 := hKK i _ hx
      rw [(hh i _ hx).lit0 rfl] at h1
      exact h1
    exact ⟨b, o, rfl, ho rfl, hN _ _ _ (key 0 hn) (ho rfl), fun i hi => (hK _ _ _ (key i hi)).1⟩
/-- A cell of a loose block is not frozen. -/
theorem Loose.cell {W : World} {b o : Nat} {v : Value} (h : Loose (W.heap[b]?)) (hc : W.cell? ⟨b, o, none⟩ = some v) : W.frozen? ⟨b, o, none⟩ = false := by
  unfold World.cell? at hc
  unfold World.frozen?
  cases hb : W.heap[b]? with
  | none => rfl
  | some x =>
    cases x with
    | cells C T fr =>
      obtain ⟨lo, hi⟩ := fr
      simp only [hb] at hc ⊢
      have ho : o < C.size := by
        by_cases h' : o < C.size
        · exact h'
        · simp [h'] at hc
      rcases h C T lo hi hb with h1 | h1
      · subst h1
        simp
        try omega
      · simp
        try omega
    | _ => rfl
theorem setCell_block {W : World} {a : Addr} {v : Value} {k : Nat} (h : k ≠ a.block) : (W.setCell a v).heap[k]? = W.heap[k]? := by
  unfold World.setCell
  simp [Array.getElem?_modify, Ne.symm h]
theorem setCell_loose {W : World} {a : Addr} {v : Value} (h : Loose (W.heap[a.block]?)) : Loose ((W.setCell a v).heap[a.block]?) := by
  intro C T lo hi hc
  unfold World.setCell at hc
  simp only [Array.getElem?_modify, if_pos, Option.map_eq_some_iff] at hc
  obtain ⟨x, hx, he⟩ := hc
  cases x with
  | cells C0 T0 fr =>
    obtain ⟨l0, h0⟩ := fr
    simp only [Obj.cells.injEq, Prod.mk.injEq] at he
    obtain ⟨rfl, _, rfl, rfl⟩ := he
    have := h C0 T0 l0 h0 hx
    rcases this with h1 | h1
    · exact .inl h1
    · right
      split
      · exact h1
      · simpa using h1
  | _ => cases he
theorem Bn.setCell {W : World} {A : Option Addr} {l : List UInt8} (h : Bn W A l) {a : Addr} {v : Value} (hne : ∀ b o, A = some ⟨b, o, none⟩ → 0 < l.length → b ≠ a.block) : Bn (W.setCell a v) A l := fun hn => by
  obtain ⟨b, o, e, hc⟩ := h hn
  refine ⟨b, o, e, fun i hi => ?_⟩
  rw [World.cell?_of_block (setCell_block (hne b o e hn))]
  exact hc i hi
end Go.Proofs.YtjodibncpbjegaaDoor
