/- Merged: AvmS, ASpo, ASpoT. -/
import Derived.Test.YtknpaooloambdaaDoorZ42
/- What a call answered, written over. No program. -/
set_option linter.unusedVariables false
set_option linter.unusedSimpArgs false
namespace Go.Proofs.YtknpaooloambdaaDoor
open Go.RowKit

/-- K's cells are W's. -/
abbrev KIn (K : Nat → Nat → Option Value) (W : World) : Prop := ∀ b o v, K b o = some v → W.cell? ⟨b, o, none⟩ = some v ∧ oneV v = true
/-- What may stand where v stood. -/
inductive Like : Value → Value → Prop
  | same (v : Value) : Like v v
  | int (k : IntKind) (a b : Int) : Like (.int k a) (.int k b)
  | float (k : FloatKind) (a b : Nat) : Like (.float k a) (.float k b)
  | str (a b : ByteArray) : Like (.string a) (.string b)
  | bool (a b : Bool) : Like (.bool a) (.bool b)
  | nil (A : Option Addr) (n c : Nat) : Like (.slice A n c) (.slice none 0 0)
theorem Like.int_ {k : IntKind} {a : Int} {u : Value} (h : Like (.int k a) u) : ∃ b, u = .int k b := by cases h <;> exact ⟨_, rfl⟩
theorem Like.float_ {k : FloatKind} {a : Nat} {u : Value} (h : Like (.float k a) u) : ∃ b, u = .float k b := by cases h <;> exact ⟨_, rfl⟩
theorem Like.str_ {a : ByteArray} {u : Value} (h : Like (.string a) u) : ∃ b, u = .string b := by cases h <;> exact ⟨_, rfl⟩
theorem Like.bool_ {a : Bool} {u : Value} (h : Like (.bool a) u) : ∃ b, u = .bool b := by cases h <;> exact ⟨_, rfl⟩
theorem Like.sl_ {A : Option Addr} {n c : Nat} {u : Value} (h : Like (.slice A n c) u) : u = .slice A n c ∨ u = .slice none 0 0 := by
  cases h
  · exact .inl rfl
  · exact .inr rfl
/-- The cells K, from lo on, may have been written over. -/
def Spo (K : Nat → Nat → Option Value) (lo : Nat) (W : World) : Prop := ∀ b o v, K b o = some v → lo ≤ b → Loose (W.heap[b]?) ∧ ∃ u, W.cell? ⟨b, o, none⟩ = some u ∧ Like v u
theorem Spo.kept {K : Nat → Nat → Option Value} {lo : Nat} {W W' : World} (h : Spo K lo W) (hk : Kept W W') : Spo K lo W' := fun b o v hv hb => by
  obtain ⟨h1, u, h2, h3⟩ := h b o v hv hb
  exact ⟨by rw [hk.block b (World.block_lt_of_cell? W _ h2)]; exact h1, u, hk.cell h2, h3⟩
theorem Spo.start {K : Nat → Nat → Option Value} {lo : Nat} {W : World} (hK : KIn K W) (hN : ∀ b o v, K b o = some v → lo ≤ b → Loose (W.heap[b]?)) : Spo K lo W := fun b o v hv hb =>
  ⟨hN b o v hv hb, v, (hK b o v hv).1, .same v⟩
theorem Spo.free {K : Nat → Nat → Option Value} {lo : Nat} {W : World} (h : Spo K lo W) {b o : Nat} {v : Value} (hv : K b o = some v) (hb : lo ≤ b) : W.frozen? ⟨b, o, none⟩ = false := by
  obtain ⟨h1, u, h2, _⟩ := h b o v hv hb
  exact h1.cell h2
theorem sset_frozen {w : World} {a c : Addr} {v : Value} : (w.setCell a v).frozen? c = w.frozen? c := World.frozen?_setCell _ _ _ _
theorem Spo.store {K : Nat → Nat → Option Value} {lo : Nat} {W : World} (h : Spo K lo W) {b o : Nat} {v : Value} (hv : K b o = some v) (hb : lo ≤ b) {u : Value} (hu : Like v u) : Spo K lo (W.setCell ⟨b, o, none⟩ u) := fun b' o' v' hv' hb' => by
  obtain ⟨h1, x, h2, h3⟩ := h b' o' v' hv' hb'
  constructor
  · by_cases e : b' = b
    · subst e; exact setCell_loose (a := ⟨b', o, none⟩) h1
    · rw [setCell_block (a := ⟨b, o, none⟩) e]; exact h1
  · by_cases e : (⟨b', o', none⟩ : Addr) = ⟨b, o, none⟩
    · obtain ⟨rfl, rfl⟩ : b' = b ∧ o' = o := by simpa using e
      rw [hv] at hv'
      obtain rfl := Option.some.inj hv'
      exact ⟨u, World.cell?_setCell_same _ _ _ h2, hu⟩
    · exact ⟨x, (World.cell?_setCell_other _ _ _ _ (fun e' => e e'.symm)).trans h2, h3⟩
/-- Beside the blocks from lo to hi nothing is changed. -/
structure Beside (lo hi : Nat) (W W' : World) : Prop where
  size : W.heap.size ≤ W'.heap.size
  block : ∀ b, hi ≤ b → b < W.heap.size → W'.heap[b]? = W.heap[b]?
  kept : ∀ V : World, V.heap.size ≤ lo → Kept V W → Kept V W'
theorem Beside.refl (lo hi : Nat) (W : World) : Beside lo hi W W := ⟨Nat.le_refl _, fun _ _ _ => rfl, fun _ _ h => h⟩
theorem Beside.trans {lo hi : Nat} {A B C : World} (h : Beside lo hi A B) (k : Beside lo hi B C) : Beside lo hi A C :=
  ⟨Nat.le_trans h.size k.size, fun b h1 h2 => (k.block b h1 (Nat.lt_of_lt_of_le h2 h.size)).trans (h.block b h1 h2), fun V h1 h2 => k.kept V h1 (h.kept V h1 h2)⟩
theorem Beside.of {lo hi : Nat} {A B : World} (h : Kept A B) : Beside lo hi A B := ⟨h.size, fun b _ h2 => h.block b h2, fun V _ h2 => h2.trans h⟩
theorem setCell_size (w : World) (a : Addr) (v : Value) : (w.setCell a v).heap.size = w.heap.size := by
  unfold World.setCell
  simp
theorem Beside.setCell {lo hi : Nat} {A B : World} (h : Beside lo hi A B) {a : Addr} (h1 : lo ≤ a.block) (h2 : a.block < hi) (v : Value) : Beside lo hi A (B.setCell a v) :=
  ⟨by rw [setCell_size]; exact h.size, fun b hb hs => (setCell_block (by omega)).trans (h.block b hb hs), fun V hV hk => (h.kept V hV hk).setCell (Nat.le_trans hV h1) v⟩
/-- K's cells lie below hi. -/
def Under (K : Nat → Nat → Option Value) (hi : Nat) : Prop := ∀ b o v, K b o = some v → b < hi
theorem Under.of {K : Nat → Nat → Option Value} {W : World} (hK : KIn K W) : Under K W.heap.size := fun b o v h => World.block_lt_of_cell? W _ (hK b o v h).1
/-- The same, below a world: nothing there was changed. -/
theorem Beside.keptAt {lo hi : Nat} {W W' V : World} (h : Beside lo hi W W') (hV : V.heap.size ≤ lo) (hk : Kept V W) : Kept V W' := h.kept V hV hk

theorem cells_cell {w : World} {g : Nat} {cs : Array Value} {T : TypeId} {f : Nat × Nat} (h : w.heap[g]? = some (.cells cs T f)) (i : Nat) : w.cell? ⟨g, i, none⟩ = cs[i]? := by
  simp [World.cell?, h]
theorem box1 {w : World} {b : Nat} {T : TypeId} {f : Nat × Nat} {x : Value} (h : w.heap[b]? = some (.cells #[x] T f)) : w.cell? ⟨b, 0, none⟩ = some x := cells_cell h 0
theorem run_store_fl (P : Program) (w : World) (a : Addr) (m : Mode) (k : FloatKind) (b : Nat) : (store a (.float k b) m).run P w = stored P w a (.float k b) m := run_store P w a _ m rfl
/-- Cells side by side: to store into one leaves the next ones. -/
theorem next_cell {w : World} {b p q : Nat} {u x : Value} (h : p ≠ q) (hx : w.cell? ⟨b, q, none⟩ = some x) : (w.setCell ⟨b, p, none⟩ u).cell? ⟨b, q, none⟩ = some x := by
  rw [World.cell?_setCell_other _ _ _ _ (fun e => h (congrArg Addr.off e))]
  exact hx
theorem next_head {w : World} {a : Addr} {q : Nat} {u x : Value} (h : a.off ≠ q) (hx : w.cell? ⟨a.block, q, none⟩ = some x) : (w.setCell a u).cell? ⟨a.block, q, none⟩ = some x := by
  rw [World.cell?_setCell_other _ _ _ _ (fun e => h (by rw [e]))]
  exact hx
theorem five_cells {w : World} {a : Addr} {x1 x2 x3 x4 : Value} (c1 : w.cell? ⟨a.block, a.off + 1, none⟩ = some x1) (c2 : w.cell? ⟨a.block, a.off + 2, none⟩ = some x2) (c3 : w.cell? ⟨a.block, a.off + 3, none⟩ = some x3) (c4 : w.cell? ⟨a.block, a.off + 4, none⟩ = some x4) :
    (∀ v0, (w.setCell a v0).cell? ⟨a.block, a.off + 1, none⟩ = some x1) ∧
    (∀ v0 v1, ((w.setCell a v0).setCell ⟨a.block, a.off + 1, none⟩ v1).cell? ⟨a.block, a.off + 2, none⟩ = some x2) ∧
    (∀ v0 v1 v2, (((w.setCell a v0).setCell ⟨a.block, a.off + 1, none⟩ v1).setCell ⟨a.block, a.off + 2, none⟩ v2).cell? ⟨a.block, a.off + 3, none⟩ = some x3) ∧
    (∀ v0 v1 v2 v3, ((((w.setCell a v0).setCell ⟨a.block, a.off + 1, none⟩ v1).setCell ⟨a.block, a.off + 2, none⟩ v2).setCell ⟨a.block, a.off + 3, none⟩ v3).cell? ⟨a.block, a.off + 4, none⟩ = some x4) := by
  refine ⟨fun v0 => next_head (by omega) c1, fun v0 v1 => next_cell (by omega) (next_head (by omega) c2), fun v0 v1 v2 => next_cell (by omega) (next_cell (by omega) (next_head (by omega) c3)), fun v0 v1 v2 v3 => next_cell (by omega) (next_cell (by omega) (next_cell (by omega) (next_head (by omega) c4)))⟩
/-! ### The cells of one element -/
theorem flatten_at : ∀ (es : List (List AV)) (sz : Nat) (j i : Nat) (e : List AV) (y : AV), (∀ e ∈ es, e.length = sz) → es[j]? = some e → e[i]? = some y → es.flatten[j * sz + i]? = some y
  | [], _, _, _, _, _, _, h, _ => by simp at h
  | x :: es, sz, 0, i, e, y, hs, h, hy => by
    obtain rfl : x = e := by simpa using h
    rw [List.flatten_cons, Nat.zero_mul, Nat.zero_add, List.getElem?_append_left (List.getElem?_eq_some_iff.1 hy).1]
    exact hy
  | x :: es, sz, j + 1, i, e, y, hs, h, hy => by
    have hx : x.length = sz := hs x (List.mem_cons_self ..)
    rw [List.flatten_cons, List.getElem?_append_right (by rw [hx, Nat.succ_mul]; omega), hx, show (j + 1) * sz + i - sz = j * sz + i by rw [Nat.succ_mul]; omega]
    exact flatten_at es sz j i e y (fun e he => hs e (List.mem_cons_of_mem _ he)) (by simpa using h) hy
theorem VSim.elem {g : Gh} {own : Bool} {tag : Tag} {es : List (List AV)} {x : Value} (h : VSim g (.sl own tag es) x) {n : Nat} (hn : ∀ e ∈ es, e.length = n) (h0 : 0 < n) : ∃ A c, x = .slice A es.length c ∧ es.length ≤ c ∧ es.length ≤ 140737488355328 ∧
    ∀ (j : Nat) e, es[j]? = some e → ∃ b o, A = some ⟨b, o, none⟩ ∧ (own = true → g.base ≤ b) ∧ ∀ (i : Nat) y, e[i]? = some y → ∃ v, g.K b (o + j * n + i) = some v ∧ VSim g y v := by
  cases h with
  | sl own tag es A cap sz vs hl hc hsz h1 hA hh htag =>
    refine ⟨A, cap, rfl, hl, hc, fun j e he => ?_⟩
    have hel := hn e (List.mem_of_getElem? he)
    obtain ⟨b, o, rfl, hb, hK⟩ := hA (fun h => by
      have hm := List.mem_of_getElem? he
      rw [List.flatten_eq_nil_iff] at h
      have := h e hm
      subst this
      simp at hel; omega)
    exact ⟨b, o, rfl, hb, fun i y hy => by
      have := flatten_at es n j i e y hn he hy
      refine ⟨vs (j * n + i), ?_, hh _ _ this⟩
      have := hK _ _ this
      rwa [← Nat.add_assoc] at this⟩
/-! ### From world to world -/
/-- What is known of a world that stays. -/
theorem VSim.free {K : Nat → Nat → Option Value} {r : Root} {W : World} (hK : KIn K W) {v : AV} {x : Value} (hv : VSim ⟨K, [], [], r⟩ v x) (hn : NoOwn v) : VSim (gh0 W) v x := by
  have h1 := hv.reroot (r := ⟨W, 0, fun _ => none⟩) hn
  have hle : (Gh.root ⟨K, [], [], r⟩ ⟨W, 0, fun _ => none⟩).le (gh0 W) := ⟨rfl, fun b o v (h : K b o = some v) => gh0_K.2 (hK b o v h), fun i b h => h, fun i L h => ⟨L, h, Nat.le_refl _, fun _ => rfl⟩⟩
  exact h1.mono hle
theorem VSim.kept0 {W W' : World} {v : AV} {x : Value} (hv : VSim (gh0 W) v x) (hn : NoOwn v) (hk : Kept W W') : VSim (gh0 W') v x := by
  exact VSim.free (K := (gh0 W).K) (r := ⟨W, 0, fun _ => none⟩) (fun b o v h => ⟨hk.cell (gh0_K.1 h).1, (gh0_K.1 h).2⟩) hv hn
/-- All slices in it are the call's own. -/
inductive AllOwn : AV → Prop
  | any : AllOwn .any
  | s (v : Value) : AllOwn (.s v)
  | agg (l : List AV) (h : ∀ x ∈ l, AllOwn x) : AllOwn (.agg l)
  | tup (l : List AV) (h : ∀ x ∈ l, AllOwn x) : AllOwn (.tup l)
  | sl (tag : Tag) (es : List (List AV)) (h : ∀ x ∈ es.flatten, AllOwn x) : AllOwn (.sl true tag es)
/-- What is one's own lies behind the base: the cells ahead of it needn't be known. -/
theorem VSim.cutOwn {K : Nat → Nat → Option Value} {bx : List Nat} {ln : List Lin} {r : Root} {v : AV} {x : Value} (hv : VSim ⟨K, bx, ln, r⟩ v x) : AllOwn v → VSim ⟨fun b o => if r.W.heap.size ≤ b then K b o else none, bx, ln, r⟩ v x := by
  induction hv with
  | any x => exact fun _ => .any x
  | s v h1 => exact fun _ => .s v h1
  | agg l a hs h1 _ ih => exact fun h => .agg l a hs h1 fun i x hx => ih i x hx (by cases h with | agg _ h => exact h x (List.mem_of_getElem? hx))
  | tup l a hs _ ih => exact fun h => .tup l a hs fun i x hx => ih i x hx (by cases h with | tup _ h => exact h x (List.mem_of_getElem? hx))
  | sl own tag es A cap sz vs hl hc hsz h1 hA _ htag ih =>
    intro h
    cases h with
    | sl _ _ h =>
      refine .sl true tag es A cap sz vs hl hc hsz h1 (fun hn => ?_) (fun j x hx => ih j x hx (h x (List.mem_of_getElem? hx))) ?_
      · obtain ⟨b, o, e, hb, hK⟩ := hA hn
        refine ⟨b, o, e, hb, fun j x hx => ?_⟩
        have : r.W.heap.size ≤ b := hb rfl
        simp only [this, if_true]
        exact hK j x hx
      · cases tag with
        | none => trivial
        | full => exact htag
        | lin id => exact htag
  | bp id off b hb => intro h; cases h
  | rp l b o vs h1 _ ih => intro h; cases h
  | fn f caps ca hs _ ih => intro h; cases h
  | ifc t v x _ ih => intro h; cases h
  | mp id b hb => intro h; cases h
/-- What a call answered stays known where its own blocks stay. -/
theorem VSim.own0 {K : Nat → Nat → Option Value} {V W W' : World} (hK : KIn K W) {v v' : AV} {x : Value} (hv : VSim ⟨K, [], [], ⟨V, 0, fun _ => none⟩⟩ v x) (hd : AllOwn v) (hw : Wk v v') (hn : NoOwn v')
    (hb : ∀ b, V.heap.size ≤ b → b < W.heap.size → W'.heap[b]? = W.heap[b]?) : VSim (gh0 W') v' x := by
  have h1 := hw _ _ (hv.cutOwn hd)
  refine h1.free (fun b o u h => ?_) hn
  split at h
  · rename_i hle
    obtain ⟨h2, h3⟩ := hK b o u h
    have hlt : b < W.heap.size := World.block_lt_of_cell? W _ h2
    exact ⟨(World.cell?_of_block (hb b hle hlt)).trans h2, h3⟩
  · cases h
/-- What a call from V to W answered. -/
structure Ans (V W : World) (v : AV) (x : Value) (K : Nat → Nat → Option Value) : Prop where
  hK : KIn K W
  hN : ∀ b o v, K b o = some v → V.heap.size ≤ b → Loose (W.heap[b]?)
  sim : VSim ⟨K, [], [], ⟨V, 0, fun _ => none⟩⟩ v x
theorem Gives.callsA {P : Program} {f : FuncId} {args : List AV} {v : AV} {vs : List Value} {W : World} (h : Gives P f args v) (hT : WorldOk W) (ha : ASim (gh0 W) args vs) :
    Calls P f vs.toArray W fun e W' => Kept W W' ∧ ∃ x K, e = .returned x ∧ Ans W W' v x K := by
  refine (h.callsN hT ha).mono ?_
  rintro e W' ⟨h1, x, K, h2, h3, h4, h5⟩
  exact ⟨h1, x, K, h2, h3, h4, h5⟩
theorem Ans.kept {V W W' : World} {v v' : AV} {x : Value} {K : Nat → Nat → Option Value} (h : Ans V W v x K) (hw : Wk v v') (hn : NoOwn v') (hk : Kept W W') : VSim (gh0 W') v' x :=
  (hw _ _ h.sim).free (fun b o u hu => ⟨hk.cell (h.hK b o u hu).1, (h.hK b o u hu).2⟩) hn
theorem Ans.own {V W W' : World} {v v' : AV} {x : Value} {K : Nat → Nat → Option Value} (h : Ans V W v x K) (hd : AllOwn v) (hw : Wk v v') (hn : NoOwn v') (hb : ∀ b, V.heap.size ≤ b → b < W.heap.size → W'.heap[b]? = W.heap[b]?) : VSim (gh0 W') v' x :=
  h.sim.own0 h.hK hd hw hn hb
theorem Ans.two {V W : World} {a b : AV} {u : Value} {K : Nat → Nat → Option Value} (h : Ans V W (.tup [a, b]) u K) : ∃ p q, u = .tuple #[p, q] ∧ Ans V W a p K ∧ Ans V W b q K := by
  obtain ⟨p, q, e, h1, h2⟩ := vsim_two h.sim
  exact ⟨p, q, e, ⟨h.hK, h.hN, h1⟩, ⟨h.hK, h.hN, h2⟩⟩
theorem Ans.weak {V W : World} {v v' : AV} {x : Value} {K : Nat → Nat → Option Value} (h : Ans V W v x K) (hw : Wk v v') : Ans V W v' x K := ⟨h.hK, h.hN, hw _ _ h.sim⟩
theorem VSim.one_ {g : Gh} {v : AV} {x : Value} (h : VSim g (.agg [v]) x) : ∃ y, x = .agg #[y] ∧ VSim g v y := by
  cases h with
  | agg l a hs h1 hh =>
    refine ⟨a.getD 0 undef, ?_, hh 0 _ rfl⟩
    congr 1
    refine Array.ext (by simpa using hs) fun i h1 h2 => ?_
    have h2' : i < 1 := h2
    match i, h2' with
    | 0, _ => simp [Array.getD, show 0 < a.size by omega]
theorem VSim.mk1 {g : Gh} {v : AV} {y : Value} (h : VSim g v y) (h1 : v.one = true) : VSim g (.agg [v]) (.agg #[y]) := by
  refine .agg [v] #[y] rfl (fun i x hx => ?_) (fun i x hx => ?_)
  · match i, hx with
    | 0, hx => obtain rfl : v = x := by simpa using hx
               exact h1
  · match i, hx with
    | 0, hx => obtain rfl : v = x := by simpa using hx
               exact h
theorem Ans.one_ {V W : World} {v : AV} {x : Value} {K : Nat → Nat → Option Value} (h : Ans V W (.agg [v]) x K) : ∃ y, x = .agg #[y] ∧ Ans V W v y K := by
  obtain ⟨y, e, h1⟩ := h.sim.one_
  exact ⟨y, e, h.hK, h.hN, h1⟩
theorem Ans.three {V W : World} {a b c : AV} {u : Value} {K : Nat → Nat → Option Value} (h : Ans V W (.tup [a, b, c]) u K) : ∃ p q r, u = .tuple #[p, q, r] ∧ Ans V W a p K ∧ Ans V W b q K ∧ Ans V W c r K := by
  obtain ⟨hK, hN, h⟩ := h
  cases h with
  | tup l a hs hh =>
    refine ⟨a.getD 0 undef, a.getD 1 undef, a.getD 2 undef, ?_, ⟨hK, hN, hh 0 _ rfl⟩, ⟨hK, hN, hh 1 _ rfl⟩, ⟨hK, hN, hh 2 _ rfl⟩⟩
    congr 1
    refine Array.ext (by simpa using hs) fun i h1 h2 => ?_
    have h2' : i < 3 := h2
    match i, h2' with
    | 0, _ => simp [Array.getD, show 0 < a.size by omega]
    | 1, _ => simp [Array.getD, show 1 < a.size by omega]
    | 2, _ => simp [Array.getD, show 2 < a.size by omega]
theorem Ans.lit {V W : World} {v x : Value} {K : Nat → Nat → Option Value} (h : Ans V W (.s v) x K) : x = v := by
  have := h.sim
  cases this
  rfl
theorem Wks.tup : ∀ {l m : List AV}, l.length = m.length → (∀ (i : Nat) x y, l[i]? = some x → m[i]? = some y → Wk x y) → Wk (.tup l) (.tup m) := by
  intro l m hl hw g x hx
  cases hx with
  | tup _ a hs hh =>
    exact .tup m a (by rw [hs, hl]) (fun i y hy => by
      have hi : i < l.length := by rw [hl]; exact (List.getElem?_eq_some_iff.1 hy).1
      exact hw i l[i] y (List.getElem?_eq_getElem hi) hy _ _ (hh i _ (List.getElem?_eq_getElem hi)))
theorem Beside.hi_ {lo hi : Nat} {W W' : World} (h : Beside lo hi W W') {b : Nat} {o : Obj} (hb : hi ≤ b) (hx : W.heap[b]? = some o) : W'.heap[b]? = some o := (h.block b hb (Array.getElem?_eq_some_iff.1 hx).1).trans hx
theorem Beside.lo_ {lo hi : Nat} {W W' V : World} (h : Beside lo hi W W') (hV : V.heap.size ≤ lo) (hk : Kept V W) {b : Nat} {o : Obj} (hx : V.heap[b]? = some o) : W'.heap[b]? = some o :=
  ((h.kept V hV hk).block b (Array.getElem?_eq_some_iff.1 hx).1).trans hx
theorem Bn.from0 {W : World} {o : Bool} {t : Tag} {A : Option Addr} {n c : Nat} {l : List UInt8} (h : VSim (gh0 W) (.sl o t (encB l)) (.slice A n c)) : n = l.length ∧ Bn W A l ∧ l.length ≤ c := by
  have hle : (encB l).length = l.length := by simp [encB]
  cases h with
  | sl own tag es A cap sz vs hl hc hsz h1 hA hh htag =>
    rw [hle] at hl
    refine ⟨hle, fun hn => ?_, hl⟩
    obtain ⟨b, o', rfl, _, hKK⟩ := hA (fun h0 => by
      have := congrArg List.length h0
      rw [encB_flat] at this
      simp at this
      rw [this] at hn; simp at hn)
    refine ⟨b, o', rfl, fun i hi => ?_⟩
    have hx : (encB l).flatten[i]? = some (.s (.int .u8 ((l.getD i 0).toNat : Int))) := by
      rw [encB_flat]
      simp [List.getD_eq_getElem?_getD, hi]
    have h2 := (gh0_K.1 (hKK i _ hx)).1
    rw [(hh i _ hx).lit0 rfl] at h2
    exact h2
end Go.Proofs.YtknpaooloambdaaDoor
/- Values that a call answered, written over: their cells. -/
set_option linter.unusedVariables false
set_option linter.unusedSimpArgs false
namespace Go.Proofs.YtknpaooloambdaaDoor
open Go.RowKit

theorem noOwn_sl {o : Bool} {t : Tag} {es : List (List AV)} (ho : o = false) (h : ∀ x ∈ es.flatten, NoOwn x) : NoOwn (.sl o t es) := by subst ho; exact .sl t es h
mutual
theorem noOwn_encV : ∀ (v : V), ∀ x ∈ encV false v, NoOwn x
  | .mk k i f t l => by
    intro x hx
    rw [encV] at hx
    simp only [List.mem_cons, List.not_mem_nil, or_false] at hx
    rcases hx with rfl | rfl | rfl | rfl | rfl
    · exact .s _
    · exact .s _
    · exact .s _
    · exact .s _
    · exact .sl _ _ (noOwn_encL l)
theorem noOwn_encL : ∀ (l : List V), ∀ x ∈ (encL false l).flatten, NoOwn x
  | [] => by rw [encL]; intro x hx; cases hx
  | v :: l => by
    rw [encL, List.flatten_cons]
    intro x hx
    rcases List.mem_append.1 hx with h | h
    · exact noOwn_encV v x h
    · exact noOwn_encL l x h
end
mutual
theorem allOwn_encV : ∀ (v : V), ∀ x ∈ encV true v, AllOwn x
  | .mk k i f t l => by
    intro x hx
    rw [encV] at hx
    simp only [List.mem_cons, List.not_mem_nil, or_false] at hx
    rcases hx with rfl | rfl | rfl | rfl | rfl
    · exact .s _
    · exact .s _
    · exact .s _
    · exact .s _
    · exact .sl _ _ (allOwn_encL l)
theorem allOwn_encL : ∀ (l : List V), ∀ x ∈ (encL true l).flatten, AllOwn x
  | [] => by rw [encL]; intro x hx; cases hx
  | v :: l => by
    rw [encL, List.flatten_cons]
    intro x hx
    rcases List.mem_append.1 hx with h | h
    · exact allOwn_encV v x h
    · exact allOwn_encL l x h
end
mutual
theorem wks_freeV : ∀ (v : V), Wks (encV true v) (encV false v)
  | .mk k i f t l => by
    rw [encV, encV]
    exact ⟨⟨.refl _, rfl, rfl⟩, ⟨.refl _, rfl, rfl⟩, ⟨.refl _, rfl, rfl⟩, ⟨.refl _, rfl, rfl⟩, ⟨Wk.sl (fun h => by cases h) (wkss_freeL l), rfl, rfl⟩, trivial⟩
theorem wkss_freeL : ∀ (l : List V), Wkss (encL true l) (encL false l)
  | [] => by rw [encL, encL]; exact trivial
  | v :: l => by rw [encL, encL]; exact ⟨wks_freeV v, wkss_freeL l⟩
end
theorem wk_freeV (v : V) : Wk (.agg (encV true v)) (.agg (encV false v)) := Wk.agg (wks_freeV v)
theorem wk_freeL (l : List V) : Wk (.sl true .none (encL true l)) (.sl false .none (encL false l)) := Wk.sl (fun h => by cases h) (wkss_freeL l)
theorem noOwnV (v : V) : NoOwn (.agg (encV false v)) := .agg _ (noOwn_encV v)
theorem allOwn_V (v : V) : AllOwn (.agg (encV true v)) := .agg _ (allOwn_encV v)
theorem noOwnL (l : List V) : NoOwn (.sl false .none (encL false l)) := .sl _ _ (noOwn_encL l)
theorem allOwn_L (l : List V) : AllOwn (.sl true .none (encL true l)) := .sl _ _ (allOwn_encL l)

theorem VSim.int_ {g : Gh} {k : IntKind} {n : Int} {x : Value} (h : VSim g (.s (.int k n)) x) : x = .int k n := by cases h; rfl
theorem VSim.float_ {g : Gh} {k : FloatKind} {n : Nat} {x : Value} (h : VSim g (.s (.float k n)) x) : x = .float k n := by cases h; rfl
theorem VSim.str_ {g : Gh} {n : ByteArray} {x : Value} (h : VSim g (.s (.string n)) x) : x = .string n := by cases h; rfl
/-- A variable that holds a value: its cells. -/
theorem box_cells {w : World} {b : Nat} {T : TypeId} {f : Nat × Nat} {x0 x1 x2 x3 x4 : Value} (h : w.heap[b]? = some (.cells #[x0, x1, x2, x3, x4] T f)) :
    w.cell? ⟨b, 0, none⟩ = some x0 ∧ w.cell? ⟨b, 1, none⟩ = some x1 ∧ w.cell? ⟨b, 2, none⟩ = some x2 ∧ w.cell? ⟨b, 3, none⟩ = some x3 ∧ w.cell? ⟨b, 4, none⟩ = some x4 :=
  ⟨cells_cell h 0, cells_cell h 1, cells_cell h 2, cells_cell h 3, cells_cell h 4⟩
theorem kept_box {w w' : World} {b : Nat} {o : Obj} (h : w.heap[b]? = some o) (hk : Kept w w') : w'.heap[b]? = some o := (hk.block b (Array.getElem?_eq_some_iff.1 h).1).trans h
/-- The five cells of a value. -/
theorem VSim.val_ {g : Gh} {o : Bool} {v : V} {x : Value} (h : VSim g (.agg (encV o v)) x) : ∃ B d, x = .agg #[.int .i64 v.kind, .int .i64 v.int, .float .f64 v.float, .string v.text, .slice B v.items.length d] ∧ v.items.length ≤ d ∧ VSim g (.sl o .none (encL o v.items)) (.slice B v.items.length d) := by
  rw [encV_eq] at h
  cases h with
  | agg l a hs h1 hh =>
    have e0 := (hh 0 _ rfl).int_
    have e1 := (hh 1 _ rfl).int_
    have e2 := (hh 2 _ rfl).float_
    have e3 := (hh 3 _ rfl).str_
    have e4 := hh 4 _ rfl
    obtain ⟨B, d, h4, h5, _⟩ := VSim.elem (n := 5) e4 (encL_lens o _) (by omega)
    rw [encL_len] at h4 h5
    refine ⟨B, d, ?_, h5, by rw [h4] at e4; exact e4⟩
    congr 1
    refine Array.ext (by simpa using hs) fun i h1 h2 => ?_
    have h2' : i < 5 := h2
    match i, h2' with
    | 0, _ => simpa [Array.getD, show 0 < a.size by omega] using e0
    | 1, _ => simpa [Array.getD, show 1 < a.size by omega] using e1
    | 2, _ => simpa [Array.getD, show 2 < a.size by omega] using e2
    | 3, _ => simpa [Array.getD, show 3 < a.size by omega] using e3
    | 4, _ => simpa [Array.getD, show 4 < a.size by omega] using h4
/-- What a slice of values, or what came in its place, is: n elements. -/
def Cur (g : Gh) (l : List V) (A : Option Addr) (n c : Nat) : Prop := VSim g (.sl true .none (encL true l)) (.slice A n c) ∨ (A = none ∧ n = 0 ∧ c = 0)
theorem Cur.first {g : Gh} {l : List V} {A : Option Addr} {n c : Nat} (h : VSim g (.sl true .none (encL true l)) (.slice A n c)) : Cur g l A n c := .inl h
theorem Cur.of {g : Gh} {l : List V} {A B : Option Addr} {n c m d : Nat} (h : VSim g (.sl true .none (encL true l)) (.slice A n c)) (hl : Like (.slice A n c) (.slice B m d)) : Cur g l B m d := by
  rcases hl.sl_ with h1 | h1
  · injection h1 with h1 h2 h3; subst h1 h2 h3; exact .inl h
  · injection h1 with h1 h2 h3; exact .inr ⟨h1, h2, h3⟩
theorem Cur.len {g : Gh} {l : List V} {A : Option Addr} {n c : Nat} (h : Cur g l A n c) : n ≤ l.length ∧ n ≤ 140737488355328 ∧ n ≤ c := by
  rcases h with h | ⟨_, rfl, rfl⟩
  · obtain ⟨A', c', e, h1, h2, _⟩ := VSim.elem (n := 5) h (encL_lens true _) (by omega)
    obtain ⟨e1, e2, e3⟩ := Value.slice.inj e
    rw [encL_len] at e2 h1 h2
    subst e2 e3
    exact ⟨Nat.le_refl _, h2, h1⟩
  · omega
/-- One of them: its cells now. -/
theorem Cur.at_ {g : Gh} {l : List V} {A : Option Addr} {n c : Nat} {W : World} (h : Cur g l A n c) (hs : Spo g.K g.base W) {j : Nat} (hj : j < n) :
    ∃ (ad : Addr) (x : V) (k i : Int) (f : Nat) (t : ByteArray) (B : Option Addr) (m d : Nat), A = some ad ∧ l[j]? = some x ∧ g.base ≤ ad.block ∧
      W.cell? (ad.add (j * 5)) = some (.int .i64 k) ∧ W.cell? ⟨(ad.add (j * 5)).block, (ad.add (j * 5)).off + 1, none⟩ = some (.int .i64 i) ∧ W.cell? ⟨(ad.add (j * 5)).block, (ad.add (j * 5)).off + 2, none⟩ = some (.float .f64 f) ∧
      W.cell? ⟨(ad.add (j * 5)).block, (ad.add (j * 5)).off + 3, none⟩ = some (.string t) ∧ W.cell? ⟨(ad.add (j * 5)).block, (ad.add (j * 5)).off + 4, none⟩ = some (.slice B m d) ∧
      Cur g x.items B m d ∧ (∃ v, g.K ad.block (ad.add (j * 5)).off = some v) := by
  have hle := h.len
  rcases h with h | ⟨_, rfl, _⟩
  rotate_left
  · omega
  have hx : l[j]? = some (l[j]'(by omega)) := List.getElem?_eq_getElem (by omega)
  obtain ⟨x, hxe⟩ : ∃ x, x = l[j]'(by omega) := ⟨_, rfl⟩
  rw [← hxe] at hx
  obtain ⟨A', c', e, h1, h2, h3⟩ := VSim.elem (n := 5) h (encL_lens true _) (by omega)
  obtain ⟨e1, e2, e3⟩ := Value.slice.inj e
  subst e1
  obtain ⟨b, o, rfl, hb, hc⟩ := h3 j _ (encL_get true hx)
  rw [encV_eq] at hc
  have hb := hb rfl
  obtain ⟨v0, k0, s0⟩ := hc 0 _ rfl
  obtain ⟨v1, k1, s1⟩ := hc 1 _ rfl
  obtain ⟨v2, k2, s2⟩ := hc 2 _ rfl
  obtain ⟨v3, k3, s3⟩ := hc 3 _ rfl
  obtain ⟨v4, k4, s4⟩ := hc 4 _ rfl
  obtain rfl := s0.int_
  obtain rfl := s1.int_
  obtain rfl := s2.float_
  obtain rfl := s3.str_
  obtain ⟨B, d, rfl, _⟩ := VSim.elem (n := 5) s4 (encL_lens true _) (by omega)
  obtain ⟨_, u0, w0, y0⟩ := hs _ _ _ k0 hb
  obtain ⟨_, u1, w1, y1⟩ := hs _ _ _ k1 hb
  obtain ⟨_, u2, w2, y2⟩ := hs _ _ _ k2 hb
  obtain ⟨_, u3, w3, y3⟩ := hs _ _ _ k3 hb
  obtain ⟨_, u4, w4, y4⟩ := hs _ _ _ k4 hb
  obtain ⟨k, rfl⟩ := y0.int_
  obtain ⟨i, rfl⟩ := y1.int_
  obtain ⟨f, rfl⟩ := y2.float_
  obtain ⟨t, rfl⟩ := y3.str_
  have : ∃ B m d, u4 = .slice B m d := by rcases y4.sl_ with rfl | rfl <;> exact ⟨_, _, _, rfl⟩
  obtain ⟨B', m', d', rfl⟩ := this
  refine ⟨⟨b, o, none⟩, x, k, i, f, t, B', m', d', rfl, hx, hb, ?_⟩
  rw [add_none]
  exact ⟨w0, w1, w2, w3, w4, Cur.of s4 y4, _, k0⟩
/-- The five cells at a, written over. -/
def putFive (W : World) (a : Addr) (u0 u1 u2 u3 u4 : Value) : World := ((((W.setCell a u0).setCell (Addr.mk a.block (a.off + 1) none) u1).setCell (Addr.mk a.block (a.off + 2) none) u2).setCell (Addr.mk a.block (a.off + 3) none) u3).setCell (Addr.mk a.block (a.off + 4) none) u4
theorem five_block {W : World} {a : Addr} {u0 u1 u2 u3 u4 : Value} {k : Nat} (h : k ≠ a.block) : (putFive W a u0 u1 u2 u3 u4).heap[k]? = W.heap[k]? := by
  unfold putFive
  exact (setCell_block (a := ⟨a.block, a.off + 4, none⟩) h).trans ((setCell_block (a := ⟨a.block, a.off + 3, none⟩) h).trans ((setCell_block (a := ⟨a.block, a.off + 2, none⟩) h).trans ((setCell_block (a := ⟨a.block, a.off + 1, none⟩) h).trans (setCell_block (a := a) h))))
/-- One of them is written over. -/
theorem Cur.five {g : Gh} {l : List V} {A : Option Addr} {n c : Nat} {W : World} (h : Cur g l A n c) (hs : Spo g.K g.base W) {j : Nat} (hj : j < n) {ad : Addr} (e : A = some ad) (k i : Int) (f : Nat) (t : ByteArray) :
    Spo g.K g.base (putFive W (ad.add (j * 5)) (.int .i64 k) (.int .i64 i) (.float .f64 f) (.string t) (.slice none 0 0)) := by
  subst e
  have hle := h.len
  rcases h with h | ⟨_, rfl, _⟩
  rotate_left
  · omega
  have hx : l[j]? = some (l[j]'(by omega)) := List.getElem?_eq_getElem (by omega)
  obtain ⟨x, hxe⟩ : ∃ x, x = l[j]'(by omega) := ⟨_, rfl⟩
  rw [← hxe] at hx
  obtain ⟨A', c', e1, h1, h2, h3⟩ := VSim.elem (n := 5) h (encL_lens true _) (by omega)
  obtain ⟨e1, e2, e3⟩ := Value.slice.inj e1
  obtain ⟨b, o, e4, hb, hc⟩ := h3 j _ (encL_get true hx)
  rw [← e1] at e4
  have e4 := Option.some.inj e4
  subst e4
  rw [encV_eq] at hc
  have hb := hb rfl
  obtain ⟨v0, k0, s0⟩ := hc 0 _ rfl
  obtain ⟨v1, k1, s1⟩ := hc 1 _ rfl
  obtain ⟨v2, k2, s2⟩ := hc 2 _ rfl
  obtain ⟨v3, k3, s3⟩ := hc 3 _ rfl
  obtain ⟨v4, k4, s4⟩ := hc 4 _ rfl
  obtain rfl := s0.int_
  obtain rfl := s1.int_
  obtain rfl := s2.float_
  obtain rfl := s3.str_
  obtain ⟨B, d, rfl, _⟩ := VSim.elem (n := 5) s4 (encL_lens true _) (by omega)
  rw [add_none]
  generalize o + j * 5 = q at *
  have r0 := hs.store k0 hb (Like.int .i64 _ k)
  have r1 := r0.store k1 hb (Like.int .i64 _ i)
  have r2 := r1.store k2 hb (Like.float .f64 _ f)
  have r3 := r2.store k3 hb (Like.str _ t)
  have r4 := r3.store k4 hb (Like.nil _ _ _)
  dsimp only [putFive]
  exact r4
/-- None of its cells is frozen. -/
theorem Cur.thaw {g : Gh} {l : List V} {A : Option Addr} {n c : Nat} {W : World} (h : Cur g l A n c) (hs : Spo g.K g.base W) {j : Nat} (hj : j < n) {ad : Addr} (e : A = some ad) :
    W.frozen? (ad.add (j * 5)) = false ∧ W.frozen? ⟨(ad.add (j * 5)).block, (ad.add (j * 5)).off + 1, none⟩ = false ∧ W.frozen? ⟨(ad.add (j * 5)).block, (ad.add (j * 5)).off + 2, none⟩ = false ∧ W.frozen? ⟨(ad.add (j * 5)).block, (ad.add (j * 5)).off + 3, none⟩ = false ∧ W.frozen? ⟨(ad.add (j * 5)).block, (ad.add (j * 5)).off + 4, none⟩ = false := by
  subst e
  have hle := h.len
  rcases h with h | ⟨_, rfl, _⟩
  rotate_left
  · omega
  have hx : l[j]? = some (l[j]'(by omega)) := List.getElem?_eq_getElem (by omega)
  obtain ⟨A', c', e1, h1, h2, h3⟩ := VSim.elem (n := 5) h (encL_lens true _) (by omega)
  obtain ⟨e1, e2, e3⟩ := Value.slice.inj e1
  obtain ⟨b, o, e4, hb, hc⟩ := h3 j _ (encL_get true hx)
  rw [← e1] at e4
  have e4 := Option.some.inj e4
  subst e4
  rw [encV_eq] at hc
  have hb := hb rfl
  obtain ⟨v0, k0, s0⟩ := hc 0 _ rfl
  obtain ⟨v1, k1, s1⟩ := hc 1 _ rfl
  obtain ⟨v2, k2, s2⟩ := hc 2 _ rfl
  obtain ⟨v3, k3, s3⟩ := hc 3 _ rfl
  obtain ⟨v4, k4, s4⟩ := hc 4 _ rfl
  rw [add_none]
  exact ⟨hs.free k0 hb, hs.free k1 hb, hs.free k2 hb, hs.free k3 hb, hs.free k4 hb⟩
theorem Beside.five {lo hi : Nat} {A B : World} (h : Beside lo hi A B) {a : Addr} (h1 : lo ≤ a.block) (h2 : a.block < hi) (u0 u1 u2 u3 u4 : Value) : Beside lo hi A (putFive B a u0 u1 u2 u3 u4) := by
  have s0 := h.setCell (a := a) h1 h2 u0
  have s1 := s0.setCell (a := ⟨a.block, a.off + 1, none⟩) h1 h2 u1
  have s2 := s1.setCell (a := ⟨a.block, a.off + 2, none⟩) h1 h2 u2
  have s3 := s2.setCell (a := ⟨a.block, a.off + 3, none⟩) h1 h2 u3
  have s4 := s3.setCell (a := ⟨a.block, a.off + 4, none⟩) h1 h2 u4
  unfold putFive
  exact s4
end Go.Proofs.YtknpaooloambdaaDoor
/- Types and columns that a call answered, written over: what is whose. -/
set_option linter.unusedVariables false
set_option linter.unusedSimpArgs false
namespace Go.Proofs.YtknpaooloambdaaDoor
open Go.RowKit
mutual
theorem noOwn_encT : ∀ (v : T), ∀ x ∈ encT false v, NoOwn x
  | .mk k l => by
    intro x hx
    rw [encT] at hx
    simp only [List.mem_cons, List.not_mem_nil, or_false] at hx
    rcases hx with rfl | rfl
    · exact .s _
    · exact .sl _ _ (noOwn_encTL l)
theorem noOwn_encTL : ∀ (l : List T), ∀ x ∈ (encTL false l).flatten, NoOwn x
  | [] => by rw [encTL]; intro x hx; cases hx
  | v :: l => by
    rw [encTL, List.flatten_cons]
    intro x hx
    rcases List.mem_append.1 hx with h | h
    · exact noOwn_encT v x h
    · exact noOwn_encTL l x h
end
mutual
theorem allOwn_encT : ∀ (v : T), ∀ x ∈ encT true v, AllOwn x
  | .mk k l => by
    intro x hx
    rw [encT] at hx
    simp only [List.mem_cons, List.not_mem_nil, or_false] at hx
    rcases hx with rfl | rfl
    · exact .s _
    · exact .sl _ _ (allOwn_encTL l)
theorem allOwn_encTL : ∀ (l : List T), ∀ x ∈ (encTL true l).flatten, AllOwn x
  | [] => by rw [encTL]; intro x hx; cases hx
  | v :: l => by
    rw [encTL, List.flatten_cons]
    intro x hx
    rcases List.mem_append.1 hx with h | h
    · exact allOwn_encT v x h
    · exact allOwn_encTL l x h
end
mutual
theorem wks_freeT : ∀ (v : T), Wks (encT true v) (encT false v)
  | .mk k l => by
    rw [encT, encT]
    exact ⟨⟨.refl _, rfl, rfl⟩, ⟨Wk.sl (fun h => by cases h) (wkss_freeTL l), rfl, rfl⟩, trivial⟩
theorem wkss_freeTL : ∀ (l : List T), Wkss (encTL true l) (encTL false l)
  | [] => by rw [encTL, encTL]; exact trivial
  | v :: l => by rw [encTL, encTL]; exact ⟨wks_freeT v, wkss_freeTL l⟩
end
theorem noOwn_encC (v : C) : ∀ x ∈ encC false v, NoOwn x := by
  intro x hx
  rw [encC_eq] at hx
  simp only [List.mem_cons, List.not_mem_nil, or_false] at hx
  rcases hx with rfl | rfl | rfl | rfl | rfl | rfl | rfl | rfl | rfl
  · exact .s _
  · exact .s _
  · exact .sl _ _ (noOwn_encTL _)
  · exact .s _
  · exact .s _
  · exact .s _
  · exact .s _
  · exact .s _
  · exact .sl _ _ (noOwn_encL _)
theorem allOwn_encC (v : C) : ∀ x ∈ encC true v, AllOwn x := by
  intro x hx
  rw [encC_eq] at hx
  simp only [List.mem_cons, List.not_mem_nil, or_false] at hx
  rcases hx with rfl | rfl | rfl | rfl | rfl | rfl | rfl | rfl | rfl
  · exact .s _
  · exact .s _
  · exact .sl _ _ (allOwn_encTL _)
  · exact .s _
  · exact .s _
  · exact .s _
  · exact .s _
  · exact .s _
  · exact .sl _ _ (allOwn_encL _)
theorem noOwn_encCL (l : List C) : ∀ x ∈ (encCL false l).flatten, NoOwn x := by
  intro x hx
  obtain ⟨c, hc, hx⟩ := List.mem_flatten.1 hx
  rw [encCL] at hc
  obtain ⟨y, _, rfl⟩ := List.mem_map.1 hc
  exact noOwn_encC y x hx
theorem allOwn_encCL (l : List C) : ∀ x ∈ (encCL true l).flatten, AllOwn x := by
  intro x hx
  obtain ⟨c, hc, hx⟩ := List.mem_flatten.1 hx
  rw [encCL] at hc
  obtain ⟨y, _, rfl⟩ := List.mem_map.1 hc
  exact allOwn_encC y x hx
theorem wks_freeC (v : C) : Wks (encC true v) (encC false v) :=
  ⟨⟨.refl _, rfl, rfl⟩, ⟨.refl _, rfl, rfl⟩, ⟨Wk.sl (fun h => by cases h) (wkss_freeTL _), rfl, rfl⟩, ⟨.refl _, rfl, rfl⟩, ⟨.refl _, rfl, rfl⟩, ⟨.refl _, rfl, rfl⟩, ⟨.refl _, rfl, rfl⟩, ⟨.refl _, rfl, rfl⟩, ⟨Wk.sl (fun h => by cases h) (wkss_freeL _), rfl, rfl⟩, trivial⟩
theorem wkss_freeCL : ∀ (l : List C), Wkss (encCL true l) (encCL false l)
  | [] => trivial
  | v :: l => ⟨wks_freeC v, wkss_freeCL l⟩
theorem wk_freeCL (l : List C) : Wk (.sl true .none (encCL true l)) (.sl false .none (encCL false l)) := Wk.sl (fun h => by cases h) (wkss_freeCL l)
theorem noOwnCL (l : List C) : NoOwn (.sl false .none (encCL false l)) := .sl _ _ (noOwn_encCL l)
theorem allOwn_CL (l : List C) : AllOwn (.sl true .none (encCL true l)) := .sl _ _ (allOwn_encCL l)
end Go.Proofs.YtknpaooloambdaaDoor
