/- Merged: AvmS, AHex. -/
import Derived.Test.YtjodibncpbjegaaDoorZ22
import Derived.Laws.BitsLemmas
import Derived.Lib.EndianBits
import Derived.Laws.IdiomStrings
/- What a call answered, written over. No program. -/
set_option linter.unusedVariables false
set_option linter.unusedSimpArgs false
namespace Go.Proofs.YtjodibncpbjegaaDoor
open Go.RowKit

/-- K's cells are W's. -/
abbrev KIn (K : Nat → Nat → Option Value) (W : World) : Prop := ∀ b o v, K b o = some v → W.cell? ⟨b, o, none⟩ = some v ∧ oneV v = true
/-- What may stand where v stood. -/
inductive Like : Value → Value → Prop
  | same (v : Value) : Like v v
  | int (k : IntKind) (a b : Int) : Like (.int k a) (.int k b)
  | float (k : FloatKind) (a b : Nat) : Like (.float k a) (.float k b)
  | str (a b : ByteArray) : Like (.string a) (.string b)
  | bool (a b : Bool) : Like (.bool a) (.bool b)
  | nil (A : Option Addr) (n c : Nat) : Like (.slice A n c) (.slice none 0 0)
theorem Like.int_ {k : IntKind} {a : Int} {u : Value} (h : Like (.int k a) u) : ∃ b, u = .int k b := by cases h <;> exact ⟨_, rfl⟩
theorem Like.float_ {k : FloatKind} {a : Nat} {u : Value} (h : Like (.float k a) u) : ∃ b, u = .float k b := by cases h <;> exact ⟨_, rfl⟩
theorem Like.str_ {a : ByteArray} {u : Value} (h : Like (.string a) u) : ∃ b, u = .string b := by cases h <;> exact ⟨_, rfl⟩
theorem Like.bool_ {a : Bool} {u : Value} (h : Like (.bool a) u) : ∃ b, u = .bool b := by cases h <;> exact ⟨_, rfl⟩
theorem Like.sl_ {A : Option Addr} {n c : Nat} {u : Value} (h : Like (.slice A n c) u) : u = .slice A n c ∨ u = .slice none 0 0 := by
  cases h
  · exact .inl rfl
  · exact .inr rfl
/-- The cells K, from lo on, may have been written over. -/
def Spo (K : Nat → Nat → Option Value) (lo : Nat) (W : World) : Prop := ∀ b o v, K b o = some v → lo ≤ b → Loose (W.heap[b]?) ∧ ∃ u, W.cell? ⟨b, o, none⟩ = some u ∧ Like v u
theorem Spo.kept {K : Nat → Nat → Option Value} {lo : Nat} {W W' : World} (h : Spo K lo W) (hk : Kept W W') : Spo K lo W' := fun b o v hv hb => by
  obtain ⟨h1, u, h2, h3⟩ := h b o v hv hb
  exact ⟨by rw [hk.block b (World.block_lt_of_cell? W _ h2)]; exact h1, u, hk.cell h2, h3⟩
theorem Spo.start {K : Nat → Nat → Option Value} {lo : Nat} {W : World} (hK : KIn K W) (hN : ∀ b o v, K b o = some v → lo ≤ b → Loose (W.heap[b]?)) : Spo K lo W := fun b o v hv hb =>
  ⟨hN b o v hv hb, v, (hK b o v hv).1, .same v⟩
theorem Spo.free {K : Nat → Nat → Option Value} {lo : Nat} {W : World} (h : Spo K lo W) {b o : Nat} {v : Value} (hv : K b o = some v) (hb : lo ≤ b) : W.frozen? ⟨b, o, none⟩ = false := by
  obtain ⟨h1, u, h2, _⟩ := h b o v hv hb
  exact h1.cell h2
theorem sset_frozen {w : World} {a c : Addr} {v : Value} : (w.setCell a v).frozen? c = w.frozen? c := World.frozen?_setCell _ _ _ _
theorem Spo.store {K : Nat → Nat → Option Value} {lo : Nat} {W : World} (h : Spo K lo W) {b o : Nat} {v : Value} (hv : K b o = some v) (hb : lo ≤ b) {u : Value} (hu : Like v u) : Spo K lo (W.setCell ⟨b, o, none⟩ u) := fun b' o' v' hv' hb' => by
  obtain ⟨h1, x, h2, h3⟩ := h b' o' v' hv' hb'
  constructor
  · by_cases e : b' = b
    · subst e; exact setCell_loose (a := ⟨b', o, none⟩) h1
    · rw [setCell_block (a := ⟨b, o, none⟩) e]; exact h1
  · by_cases e : (⟨b', o', none⟩ : Addr) = ⟨b, o, none⟩
    · obtain ⟨rfl, rfl⟩ : b' = b ∧ o' = o := by simpa using e
      rw [hv] at hv'
      obtain rfl := Option.some.inj hv'
      exact ⟨u, World.cell?_setCell_same _ _ _ h2, hu⟩
    · exact ⟨x, (World.cell?_setCell_other _ _ _ _ (fun e' => e e'.symm)).trans h2, h3⟩
/-- Beside the blocks from lo to hi nothing is changed. -/
structure Beside (lo hi : Nat) (W W' : World) : Prop where
  size : W.heap.size ≤ W'.heap.size
  block : ∀ b, hi ≤ b → b < W.heap.size → W'.heap[b]? = W.heap[b]?
  kept : ∀ V : World, V.heap.size ≤ lo → Kept V W → Kept V W'
theorem Beside.refl (lo hi : Nat) (W : World) : Beside lo hi W W := ⟨Nat.le_refl _, fun _ _ _ => rfl, fun _ _ h => h⟩
theorem Beside.trans {lo hi : Nat} {A B C : World} (h : Beside lo hi A B) (k : Beside lo hi B C) : Beside lo hi A C :=
  ⟨Nat.le_trans h.size k.size, fun b h1 h2 => (k.block b h1 (Nat.lt_of_lt_of_le h2 h.size)).trans (h.block b h1 h2), fun V h1 h2 => k.kept V h1 (h.kept V h1 h2)⟩
theorem Beside.of {lo hi : Nat} {A B : World} (h : Kept A B) : Beside lo hi A B := ⟨h.size, fun b _ h2 => h.block b h2, fun V _ h2 => h2.trans h⟩
theorem setCell_size (w : World) (a : Addr) (v : Value) : (w.setCell a v).heap.size = w.heap.size := by
  unfold World.setCell
  simp
theorem Beside.setCell {lo hi : Nat} {A B : World} (h : Beside lo hi A B) {a : Addr} (h1 : lo ≤ a.block) (h2 : a.block < hi) (v : Value) : Beside lo hi A (B.setCell a v) :=
  ⟨by rw [setCell_size]; exact h.size, fun b hb hs => (setCell_block (by omega)).trans (h.block b hb hs), fun V hV hk => (h.kept V hV hk).setCell (Nat.le_trans hV h1) v⟩
/-- K's cells lie below hi. -/
def Under (K : Nat → Nat → Option Value) (hi : Nat) : Prop := ∀ b o v, K b o = some v → b < hi
theorem Under.of {K : Nat → Nat → Option Value} {W : World} (hK : KIn K W) : Under K W.heap.size := fun b o v h => World.block_lt_of_cell? W _ (hK b o v h).1
/-- The same, below a world: nothing there was changed. -/
theorem Beside.keptAt {lo hi : Nat} {W W' V : World} (h : Beside lo hi W W') (hV : V.heap.size ≤ lo) (hk : Kept V W) : Kept V W' := h.kept V hV hk

theorem cells_cell {w : World} {g : Nat} {cs : Array Value} {T : TypeId} {f : Nat × Nat} (h : w.heap[g]? = some (.cells cs T f)) (i : Nat) : w.cell? ⟨g, i, none⟩ = cs[i]? := by
  simp [World.cell?, h]
theorem box1 {w : World} {b : Nat} {T : TypeId} {f : Nat × Nat} {x : Value} (h : w.heap[b]? = some (.cells #[x] T f)) : w.cell? ⟨b, 0, none⟩ = some x := cells_cell h 0
theorem run_store_fl (P : Program) (w : World) (a : Addr) (m : Mode) (k : FloatKind) (b : Nat) : (store a (.float k b) m).run P w = stored P w a (.float k b) m := run_store P w a _ m rfl
/-- Cells side by side: to store into one leaves the next ones. -/
theorem next_cell {w : World} {b p q : Nat} {u x : Value} (h : p ≠ q) (hx : w.cell? ⟨b, q, none⟩ = some x) : (w.setCell ⟨b, p, none⟩ u).cell? ⟨b, q, none⟩ = some x := by
  rw [World.cell?_setCell_other _ _ _ _ (fun e => h (congrArg Addr.off e))]
  exact hx
theorem next_head {w : World} {a : Addr} {q : Nat} {u x : Value} (h : a.off ≠ q) (hx : w.cell? ⟨a.block, q, none⟩ = some x) : (w.setCell a u).cell? ⟨a.block, q, none⟩ = some x := by
  rw [World.cell?_setCell_other _ _ _ _ (fun e => h (by rw [e]))]
  exact hx
theorem five_cells {w : World} {a : Addr} {x1 x2 x3 x4 : Value} (c1 : w.cell? ⟨a.block, a.off + 1, none⟩ = some x1) (c2 : w.cell? ⟨a.block, a.off + 2, none⟩ = some x2) (c3 : w.cell? ⟨a.block, a.off + 3, none⟩ = some x3) (c4 : w.cell? ⟨a.block, a.off + 4, none⟩ = some x4) :
    (∀ v0, (w.setCell a v0).cell? ⟨a.block, a.off + 1, none⟩ = some x1) ∧
    (∀ v0 v1, ((w.setCell a v0).setCell ⟨a.block, a.off + 1, none⟩ v1).cell? ⟨a.block, a.off + 2, none⟩ = some x2) ∧
    (∀ v0 v1 v2, (((w.setCell a v0).setCell ⟨a.block, a.off + 1, none⟩ v1).setCell ⟨a.block, a.off + 2, none⟩ v2).cell? ⟨a.block, a.off + 3, none⟩ = some x3) ∧
    (∀ v0 v1 v2 v3, ((((w.setCell a v0).setCell ⟨a.block, a.off + 1, none⟩ v1).setCell ⟨a.block, a.off + 2, none⟩ v2).setCell ⟨a.block, a.off + 3, none⟩ v3).cell? ⟨a.block, a.off + 4, none⟩ = some x4) := by
  refine ⟨fun v0 => next_head (by omega) c1, fun v0 v1 => next_cell (by omega) (next_head (by omega) c2), fun v0 v1 v2 => next_cell (by omega) (next_cell (by omega) (next_head (by omega) c3)), fun v0 v1 v2 v3 => next_cell (by omega) (next_cell (by omega) (next_cell (by omega) (next_head (by omega) c4)))⟩
/-! ### The cells of one element -/
theorem flatten_at : ∀ (es : List (List AV)) (sz : Nat) (j i : Nat) (e : List AV) (y : AV), (∀ e ∈ es, e.length = sz) → es[j]? = some e → e[i]? = some y → es.flatten[j * sz + i]? = some y
  | [], _, _, _, _, _, _, h, _ => by simp at h
  | x :: es, sz, 0, i, e, y, hs, h, hy => by
    obtain rfl : x = e := by simpa using h
    rw [List.flatten_cons, Nat.zero_mul, Nat.zero_add, List.getElem?_append_left (List.getElem?_eq_some_iff.1 hy).1]
    exact hy
  | x :: es, sz, j + 1, i, e, y, hs, h, hy => by
    have hx : x.length = sz := hs x (List.mem_cons_self ..)
    rw [List.flatten_cons, List.getElem?_append_right (by rw [hx, Nat.succ_mul]; omega), hx, show (j + 1) * sz + i - sz = j * sz + i by rw [Nat.succ_mul]; omega]
    exact flatten_at es sz j i e y (fun e he => hs e (List.mem_cons_of_mem _ he)) (by simpa using h) hy
theorem VSim.elem {g : Gh} {own : Bool} {tag : Tag} {es : List (List AV)} {x : Value} (h : VSim g (.sl own tag es) x) {n : Nat} (hn : ∀ e ∈ es, e.length = n) (h0 : 0 < n) : ∃ A c, x = .slice A es.length c ∧ es.length ≤ c ∧ es.length ≤ 140737488355328 ∧
    ∀ (j : Nat) e, es[j]? = some e → ∃ b o, A = some ⟨b, o, none⟩ ∧ (own = true → g.base ≤ b) ∧ ∀ (i : Nat) y, e[i]? = some y → ∃ v, g.K b (o + j * n + i) = some v ∧ VSim g y v := by
  cases h with
  | sl own tag es A cap sz vs hl hc hsz h1 hA hh htag =>
    refine ⟨A, cap, rfl, hl, hc, fun j e he => ?_⟩
    have hel := hn e (List.mem_of_getElem? he)
    obtain ⟨b, o, rfl, hb, hK⟩ := hA (fun h => by
      have hm := List.mem_of_getElem? he
      rw [List.flatten_eq_nil_iff] at h
      have := h e hm
      subst this
      simp at hel; omega)
    exact ⟨b, o, rfl, hb, fun i y hy => by
      have := flatten_at es n j i e y hn he hy
      refine ⟨vs (j * n + i), ?_, hh _ _ this⟩
      have := hK _ _ this
      rwa [← Nat.add_assoc] at this⟩
/-! ### From world to world -/
/-- What is known of a world that stays. -/
theorem VSim.free {K : Nat → Nat → Option Value} {r : Root} {W : World} (hK : KIn K W) {v : AV} {x : Value} (hv : VSim ⟨K, [], [], r⟩ v x) (hn : NoOwn v) : VSim (gh0 W) v x := by
  have h1 := hv.reroot (r := ⟨W, 0, fun _ => none⟩) hn
  have hle : (Gh.root ⟨K, [], [], r⟩ ⟨W, 0, fun _ => none⟩).le (gh0 W) := ⟨rfl, fun b o v (h : K b o = some v) => gh0_K.2 (hK b o v h), fun i b h => h, fun i L h => ⟨L, h, Nat.le_refl _, fun _ => rfl⟩⟩
  exact h1.mono hle
theorem VSim.kept0 {W W' : World} {v : AV} {x : Value} (hv : VSim (gh0 W) v x) (hn : NoOwn v) (hk : Kept W W') : VSim (gh0 W') v x := by
  exact VSim.free (K := (gh0 W).K) (r := ⟨W, 0, fun _ => none⟩) (fun b o v h => ⟨hk.cell (gh0_K.1 h).1, (gh0_K.1 h).2⟩) hv hn
/-- All slices in it are the call's own. -/
inductive AllOwn : AV → Prop
  | any : AllOwn .any
  | s (v : Value) : AllOwn (.s v)
  | agg (l : List AV) (h : ∀ x ∈ l, AllOwn x) : AllOwn (.agg l)
  | tup (l : List AV) (h : ∀ x ∈ l, AllOwn x) : AllOwn (.tup l)
  | sl (tag : Tag) (es : List (List AV)) (h : ∀ x ∈ es.flatten, AllOwn x) : AllOwn (.sl true tag es)
/-- What is one's own lies behind the base: the cells ahead of it needn't be known. -/
theorem VSim.cutOwn {K : Nat → Nat → Option Value} {bx : List Nat} {ln : List Lin} {r : Root} {v : AV} {x : Value} (hv : VSim ⟨K, bx, ln, r⟩ v x) : AllOwn v → VSim ⟨fun b o => if r.W.heap.size ≤ b then K b o else none, bx, ln, r⟩ v x := by
  induction hv with
  | any x => exact fun _ => .any x
  | s v h1 => exact fun _ => .s v h1
  | agg l a hs h1 _ ih => exact fun h => .agg l a hs h1 fun i x hx => ih i x hx (by cases h with | agg _ h => exact h x (List.mem_of_getElem? hx))
  | tup l a hs _ ih => exact fun h => .tup l a hs fun i x hx => ih i x hx (by cases h with | tup _ h => exact h x (List.mem_of_getElem? hx))
  | sl own tag es A cap sz vs hl hc hsz h1 hA _ htag ih =>
    intro h
    cases h with
    | sl _ _ h =>
      refine .sl true tag es A cap sz vs hl hc hsz h1 (fun hn => ?_) (fun j x hx => ih j x hx (h x (List.mem_of_getElem? hx))) ?_
      · obtain ⟨b, o, e, hb, hK⟩ := hA hn
        refine ⟨b, o, e, hb, fun j x hx => ?_⟩
        have : r.W.heap.size ≤ b := hb rfl
        simp only [this, if_true]
        exact hK j x hx
      · cases tag with
        | none => trivial
        | full => exact htag
        | lin id => exact htag
  | bp id off b hb => intro h; cases h
  | rp l b o vs h1 _ ih => intro h; cases h
  | fn f caps ca hs _ ih => intro h; cases h
  | ifc t v x _ ih => intro h; cases h
  | mp id b hb => intro h; cases h
/-- What a call answered stays known where its own blocks stay. -/
theorem VSim.own0 {K : Nat → Nat → Option Value} {V W W' : World} (hK : KIn K W) {v v' : AV} {x : Value} (hv : VSim ⟨K, [], [], ⟨V, 0, fun _ => none⟩⟩ v x) (hd : AllOwn v) (hw : Wk v v') (hn : NoOwn v')
    (hb : ∀ b, V.heap.size ≤ b → b < W.heap.size → W'.heap[b]? = W.heap[b]?) : VSim (gh0 W') v' x := by
  have h1 := hw _ _ (hv.cutOwn hd)
  refine h1.free (fun b o u h => ?_) hn
  split at h
  · rename_i hle
    obtain ⟨h2, h3⟩ := hK b o u h
    have hlt : b < W.heap.size := World.block_lt_of_cell? W _ h2
    exact ⟨(World.cell?_of_block (hb b hle hlt)).trans h2, h3⟩
  · cases h
/-- What a call from V to W answered. -/
structure Ans (V W : World) (v : AV) (x : Value) (K : Nat → Nat → Option Value) : Prop where
  hK : KIn K W
  hN : ∀ b o v, K b o = some v → V.heap.size ≤ b → Loose (W.heap[b]?)
  sim : VSim ⟨K, [], [], ⟨V, 0, fun _ => none⟩⟩ v x
theorem Gives.callsA {P : Program} {f : FuncId} {args : List AV} {v : AV} {vs : List Value} {W : World} (h : Gives P f args v) (hT : WorldOk W) (ha : ASim (gh0 W) args vs) :
    Calls P f vs.toArray W fun e W' => Kept W W' ∧ ∃ x K, e = .returned x ∧ Ans W W' v x K := by
  refine (h.callsN hT ha).mono ?_
  rintro e W' ⟨h1, x, K, h2, h3, h4, h5⟩
  exact ⟨h1, x, K, h2, h3, h4, h5⟩
theorem Ans.kept {V W W' : World} {v v' : AV} {x : Value} {K : Nat → Nat → Option Value} (h : Ans V W v x K) (hw : Wk v v') (hn : NoOwn v') (hk : Kept W W') : VSim (gh0 W') v' x :=
  (hw _ _ h.sim).free (fun b o u hu => ⟨hk.cell (h.hK b o u hu).1, (h.hK b o u hu).2⟩) hn
theorem Ans.own {V W W' : World} {v v' : AV} {x : Value} {K : Nat → Nat → Option Value} (h : Ans V W v x K) (hd : AllOwn v) (hw : Wk v v') (hn : NoOwn v') (hb : ∀ b, V.heap.size ≤ b → b < W.heap.size → W'.heap[b]? = W.heap[b]?) : VSim (gh0 W') v' x :=
  h.sim.own0 h.hK hd hw hn hb
theorem Ans.two {V W : World} {a b : AV} {u : Value} {K : Nat → Nat → Option Value} (h : Ans V W (.tup [a, b]) u K) : ∃ p q, u = .tuple #[p, q] ∧ Ans V W a p K ∧ Ans V W b q K := by
  obtain ⟨p, q, e, h1, h2⟩ := vsim_two h.sim
  exact ⟨p, q, e, ⟨h.hK, h.hN, h1⟩, ⟨h.hK, h.hN, h2⟩⟩
theorem Ans.weak {V W : World} {v v' : AV} {x : Value} {K : Nat → Nat → Option Value} (h : Ans V W v x K) (hw : Wk v v') : Ans V W v' x K := ⟨h.hK, h.hN, hw _ _ h.sim⟩
theorem VSim.one_ {g : Gh} {v : AV} {x : Value} (h : VSim g (.agg [v]) x) : ∃ y, x = .agg #[y] ∧ VSim g v y := by
  cases h with
  | agg l a hs h1 hh =>
    refine ⟨a.getD 0 undef, ?_, hh 0 _ rfl⟩
    congr 1
    refine Array.ext (by simpa using hs) fun i h1 h2 => ?_
    have h2' : i < 1 := h2
    match i, h2' with
    | 0, _ => simp [Array.getD, show 0 < a.size by omega]
theorem VSim.mk1 {g : Gh} {v : AV} {y : Value} (h : VSim g v y) (h1 : v.one = true) : VSim g (.agg [v]) (.agg #[y]) := by
  refine .agg [v] #[y] rfl (fun i x hx => ?_) (fun i x hx => ?_)
  · match i, hx with
    | 0, hx => obtain rfl : v = x := by simpa using hx
               exact h1
  · match i, hx with
    | 0, hx => obtain rfl : v = x := by simpa using hx
               exact h
theorem Ans.one_ {V W : World} {v : AV} {x : Value} {K : Nat → Nat → Option Value} (h : Ans V W (.agg [v]) x K) : ∃ y, x = .agg #[y] ∧ Ans V W v y K := by
  obtain ⟨y, e, h1⟩ := h.sim.one_
  exact ⟨y, e, h.hK, h.hN, h1⟩
theorem Ans.three {V W : World} {a b c : AV} {u : Value} {K : Nat → Nat → Option Value} (h : Ans V W (.tup [a, b, c]) u K) : ∃ p q r, u = .tuple #[p, q, r] ∧ Ans V W a p K ∧ Ans V W b q K ∧ Ans V W c r K := by
  obtain ⟨hK, hN, h⟩ := h
  cases h with
  | tup l a hs hh =>
    refine ⟨a.getD 0 undef, a.getD 1 undef, a.getD 2 undef, ?_, ⟨hK, hN, hh 0 _ rfl⟩, ⟨hK, hN, hh 1 _ rfl⟩, ⟨hK, hN, hh 2 _ rfl⟩⟩
    congr 1
    refine Array.ext (by simpa using hs) fun i h1 h2 => ?_
    have h2' : i < 3 := h2
    match i, h2' with
    | 0, _ => simp [Array.getD, show 0 < a.size by omega]
    | 1, _ => simp [Array.getD, show 1 < a.size by omega]
    | 2, _ => simp [Array.getD, show 2 < a.size by omega]
theorem Ans.lit {V W : World} {v x : Value} {K : Nat → Nat → Option Value} (h : Ans V W (.s v) x K) : x = v := by
  have := h.sim
  cases this
  rfl
theorem Wks.tup : ∀ {l m : List AV}, l.length = m.length → (∀ (i : Nat) x y, l[i]? = some x → m[i]? = some y → Wk x y) → Wk (.tup l) (.tup m) := by
  intro l m hl hw g x hx
  cases hx with
  | tup _ a hs hh =>
    exact .tup m a (by rw [hs, hl]) (fun i y hy => by
      have hi : i < l.length := by rw [hl]; exact (List.getElem?_eq_some_iff.1 hy).1
      exact hw i l[i] y (List.getElem?_eq_getElem hi) hy _ _ (hh i _ (List.getElem?_eq_getElem hi)))
theorem Beside.hi_ {lo hi : Nat} {W W' : World} (h : Beside lo hi W W') {b : Nat} {o : Obj} (hb : hi ≤ b) (hx : W.heap[b]? = some o) : W'.heap[b]? = some o := (h.block b hb (Array.getElem?_eq_some_iff.1 hx).1).trans hx
theorem Beside.lo_ {lo hi : Nat} {W W' V : World} (h : Beside lo hi W W') (hV : V.heap.size ≤ lo) (hk : Kept V W) {b : Nat} {o : Obj} (hx : V.heap[b]? = some o) : W'.heap[b]? = some o :=
  ((h.kept V hV hk).block b (Array.getElem?_eq_some_iff.1 hx).1).trans hx
theorem Bn.from0 {W : World} {o : Bool} {t : Tag} {A : Option Addr} {n c : Nat} {l : List UInt8} (h : VSim (gh0 W) (.sl o t (encB l)) (.slice A n c)) : n = l.length ∧ Bn W A l ∧ l.length ≤ c := by
  have hle : (encB l).length = l.length := by simp [encB]
  cases h with
  | sl own tag es A cap sz vs hl hc hsz h1 hA hh htag =>
    rw [hle] at hl
    refine ⟨hle, fun hn => ?_, hl⟩
    obtain ⟨b, o', rfl, _, hKK⟩ := hA (fun h0 => by
      have := congrArg List.length h0
      rw [encB_flat] at this
      simp at this
      rw [this] at hn; simp at hn)
    refine ⟨b, o', rfl, fun i hi => ?_⟩
    have hx : (encB l).flatten[i]? = some (.s (.int .u8 ((l.getD i 0).toNat : Int))) := by
      rw [encB_flat]
      simp [List.getD_eq_getElem?_getD, hi]
    have h2 := (gh0_K.1 (hKK i _ hx)).1
    rw [(hh i _ hx).lit0 rfl] at h2
    exact h2
end Go.Proofs.YtjodibncpbjegaaDoor
/- strconv.FormatUint at base 16. -/
set_option linter.unusedVariables false
set_option linter.unusedSimpArgs false
namespace Go.Proofs.YtjodibncpbjegaaDoor
open Go.RowKit
theorem and15 (v : Nat) (h : v < 18446744073709551616) : bits .and .u64 (v : Int) 15 = ((v % 16 : Nat) : Int) := by
  have := bits_mask .u64 64 (by decide) wraps_u64 4 (by decide) (v : Int) (by omega) (by omega)
  simp at this
  rw [this]
  omega
def hexd (d : Nat) : UInt8 := UInt8.ofNat (if d < 10 then 48 + d else 87 + d)
theorem dig_at {d : Nat} (h : d < 16) : ∀ h', (⟨#[48, 49, 50, 51, 52, 53, 54, 55, 56, 57, 97, 98, 99, 100, 101, 102, 103, 104, 105, 106, 107, 108, 109, 110, 111, 112, 113, 114, 115, 116, 117, 118, 119, 120, 121, 122]⟩ : ByteArray)[d]'h' = hexd d := by
  intro h'
  rcases (by omega : d = 0 ∨ d = 1 ∨ d = 2 ∨ d = 3 ∨ d = 4 ∨ d = 5 ∨ d = 6 ∨ d = 7 ∨ d = 8 ∨ d = 9 ∨ d = 10 ∨ d = 11 ∨ d = 12 ∨ d = 13 ∨ d = 14 ∨ d = 15) with rfl | rfl | rfl | rfl | rfl | rfl | rfl | rfl | rfl | rfl | rfl | rfl | rfl | rfl | rfl | rfl
  all_goals rfl
/-- The digits to base 16, no zeros ahead. -/
def hexMin (u : Nat) : List UInt8 := if h : u < 16 then [hexd u] else hexMin (u / 16) ++ [hexd (u % 16)]
termination_by u
decreasing_by omega
theorem hexMin_lt {u : Nat} (h : u < 16) : hexMin u = [hexd u] := by rw [hexMin, dif_pos h]
theorem hexMin_ge {u : Nat} (h : 16 ≤ u) : hexMin u = hexMin (u / 16) ++ [hexd (u % 16)] := by rw [hexMin, dif_neg (by omega)]
set_option maxRecDepth 20000 in
set_option maxHeartbeats 4000000 in
theorem u_TZ64 (w : World) (hc : w.cell? ⟨6, 15, none⟩ = some (.int .u8 4)) : Calls Tryd.prog 88 #[.int .u64 16] w fun e w' => e = .returned (.int .i64 4) ∧ w' = w := by
  have f1 : IntKind.u64.wrap (-16) = 18446744073709551600 := by decide
  have f2 : bits BinOp.and IntKind.u64 16 18446744073709551600 = 16 := by decide +kernel
  have f3 : IntKind.u64.wrap (16 * 285870213051353865) = 4573923408821661840 := by decide
  go_enter Tryd.func88, Tryd.ntmps88
  go_wp2_with fail
  go_ret
  exact ⟨rfl, rfl⟩
set_option maxRecDepth 20000 in
theorem u_TZ (w : World) (hc : w.cell? ⟨6, 15, none⟩ = some (.int .u8 4)) : Calls Tryd.prog 78 #[.int .u64 16] w fun e w' => e = .returned (.int .i64 4) ∧ w' = w := by
  go_enter Tryd.func78, Tryd.ntmps78
  go_wp2_with fail
  refine (u_TZ64 w hc).mono ?_
  rintro e w' ⟨rfl, rfl⟩
  go_wp2_with fail
  go_ret
  exact ⟨rfl, rfl⟩
theorem u_Pow (w : World) : Calls Tryd.prog 77 #[.int .i64 16] w fun e w' => e = .returned (.bool true) ∧ w' = w := by
  go_enter Tryd.func77, Tryd.ntmps77
  go_wp2_with fail
  go_ret
  exact ⟨rfl, rfl⟩
/-- The row of 65 bytes: zeros, then what is written. -/
structure Row65 (w0 w : World) (i : Nat) (l : List UInt8) : Prop where
  len : i + l.length = 65
  cell : ∀ j, j < 65 → ∃ v, w.cell? ⟨w0.heap.size, j, none⟩ = some v
  digs : ∀ j (hj : j < l.length), w.cell? ⟨w0.heap.size, i + j, none⟩ = some (.int .u8 (l[j].toNat : Int))
  free : ∀ j, w.frozen? ⟨w0.heap.size, j, none⟩ = false
  kept : Kept w0 w
theorem Row65.put {w0 w : World} {i : Nat} {l : List UInt8} (h : Row65 w0 w (i + 1) l) (d : UInt8) : Row65 w0 (w.setCell ⟨w0.heap.size, i, none⟩ (.int .u8 (d.toNat : Int))) i (d :: l) := by
  obtain ⟨h1, h2, h3, h4, h5⟩ := h
  refine ⟨by simp; omega, fun j hj => ?_, fun j hj => ?_, fun j => (World.frozen?_setCell _ _ _ _).trans (h4 j), h5.setCell (Nat.le_refl _) _⟩
  · by_cases e : j = i
    · subst e
      obtain ⟨v, hv⟩ := h2 j hj
      exact ⟨_, World.cell?_setCell_same _ _ _ hv⟩
    · obtain ⟨v, hv⟩ := h2 j hj
      exact ⟨v, (World.cell?_setCell_other _ _ _ _ (fun e' => e (by have := congrArg Addr.off e'; exact this.symm))).trans hv⟩
  · cases j with
    | zero =>
      obtain ⟨v, hv⟩ := h2 i (by omega)
      exact World.cell?_setCell_same _ _ _ hv
    | succ j =>
      have hj' : j < l.length := by simpa using hj
      rw [World.cell?_setCell_other _ _ _ _ (fun e' => by have := congrArg Addr.off e'; dsimp only at this; omega)]
      have := h3 j hj'
      rw [show i + 1 + j = i + (j + 1) by omega] at this
      exact this
theorem Row65.start (w : World) (Z : Array Value) (T : TypeId) (hz : Z.size = 65) : Row65 w (w.alloc (.cells Z T)) 65 [] := by
  have hb := heap_alloc_new w (.cells Z T)
  refine ⟨rfl, fun j hj => ⟨Z[j]'(by omega), ?_⟩, fun j hj => absurd hj (Nat.not_lt_zero _), fun j => by unfold World.frozen?; rw [hb]; simp, (Kept.refl w).alloc _⟩
  rw [cells_cell hb j]
  exact Array.getElem?_eq_getElem (by omega)
theorem pow_lt {v n u : Nat} (h : v * 16 ^ n ≤ u) (hv : 16 ≤ v) (hu : u < 18446744073709551616) : n < 15 := by
  rcases Nat.lt_or_ge n 15 with h1 | h1
  · exact h1
  · have h2 : 16 ^ 15 ≤ 16 ^ n := Nat.pow_le_pow_right (by decide) h1
    have h3 : 16 * 16 ^ 15 ≤ v * 16 ^ n := Nat.mul_le_mul hv h2
    have h4 : 16 * 16 ^ 15 = 18446744073709551616 := by decide
    omega
theorem pow_lt2 {v n u : Nat} (h : v * 16 ^ n ≤ u) (hv : 1 ≤ v) (hu : u < 18446744073709551616) : n < 16 := by
  rcases Nat.lt_or_ge n 16 with h1 | h1
  · exact h1
  · have h2 : 16 ^ 16 ≤ 16 ^ n := Nat.pow_le_pow_right (by decide) h1
    have h3 : 1 * 16 ^ 16 ≤ v * 16 ^ n := Nat.mul_le_mul hv h2
    have h4 : 1 * 16 ^ 16 = 18446744073709551616 := by decide
    omega
/-- What the loop keeps. -/
structure HexI (u v : Nat) (l : List UInt8) : Prop where
  eq : hexMin u = hexMin v ++ l
  le : v * 16 ^ l.length ≤ u
  small : l.length ≤ 15
theorem HexI.next {u v : Nat} {l : List UInt8} (h : HexI u v l) (hv : 16 ≤ v) (hu : u < 18446744073709551616) : HexI u (v / 16) (hexd (v % 16) :: l) := by
  have h1 := pow_lt h.le hv hu
  refine ⟨by rw [h.eq, hexMin_ge hv, List.append_assoc]; rfl, ?_, by simp; omega⟩
  have h2 : v / 16 * 16 ≤ v := Nat.div_mul_le_self v 16
  have h3 : v / 16 * 16 * 16 ^ l.length ≤ v * 16 ^ l.length := Nat.mul_le_mul_right _ h2
  have h4 : v / 16 * 16 ^ (hexd (v % 16) :: l).length = v / 16 * 16 * 16 ^ l.length := by
    rw [List.length_cons, Nat.pow_succ, Nat.mul_assoc, Nat.mul_comm (16 ^ l.length) 16]
  have := h.le
  omega
set_option maxRecDepth 20000 in
set_option maxHeartbeats 4000000 in
theorem u_Bits16 (u : Nat) (hu : u < 18446744073709551616) (w : World) (hc : w.cell? ⟨6, 15, none⟩ = some (.int .u8 4)) :
    Calls Tryd.prog 62 #[.slice none 0 0, .int .u64 u, .int .i64 16, .bool false, .bool false] w fun e w' => e = .returned (.tuple #[.slice none 0 0, .string ⟨(hexMin u).toArray⟩]) ∧ Kept w w' := by
  go_enter Tryd.func62, Tryd.ntmps62
  go_wp2_with fail
  refine (u_Pow _).mono ?_
  rintro e w1 ⟨rfl, rfl⟩
  go_wp2_with fail
  refine (u_TZ _ (((Kept.refl w).alloc _).cell hc)).mono ?_
  rintro e w1 ⟨rfl, rfl⟩
  go_wp2_with fail
  go_loopw [1, 13] (fun vu vi wr => ∃ (v i : Nat) (l : List UInt8), vu = .int .u64 v ∧ vi = .int .i64 i ∧ Row65 w wr i l ∧ Hid (HexI u v l)) (fun vu _ _ => (intOf vu).toNat)
  case atStart => exact ⟨u, 65, [], rfl, rfl, Row65.start w _ _ (by rfl), Lib.hid ⟨by simp, by simp, by simp⟩⟩
  case round =>
    obtain ⟨v, i, l, rfl, rfl, R, HI⟩ := hrel
    have hv64 : v < 18446744073709551616 := by
      have h1 := HI.out.le
      have h2 : 1 ≤ 16 ^ l.length := Nat.pow_pos (by decide)
      have h3 : v * 1 ≤ v * 16 ^ l.length := Nat.mul_le_mul_left _ h2
      omega
    have hlen := R.len
    have hsm := HI.out.small
    obtain ⟨k, rfl⟩ : ∃ k, i = k + 1 := ⟨i - 1, by omega⟩
    obtain ⟨c, hcell⟩ := R.cell k (by omega)
    have hfree := R.free k
    have wk : IntKind.i64.wrap (((k + 1 : Nat) : Int) - 1) = (k : Int) := by rw [IntWalk.i64_in _ (by omega)]; omega
    have i0 : (0 : Int) ≤ (k : Int) := by omega
    have i1 : (k : Int) < 65 := by omega
    have ha := and15 v hv64
    by_cases hv : 16 ≤ v
    · have hv' : (16 : Int) ≤ (v : Int) := by omega
      have hdig := dig_at (d := v % 16) (by omega)
      go_wp2_with fail
      go_roundw
      case rel => exact ⟨v / 16, k, hexd (v % 16) :: l, congrArg (Value.int .u64) (by omega), rfl, R.put _, Lib.hid (HI.out.next hv hu)⟩
      case measure => simp [intOf]; omega
    · have hv' : ¬ (16 : Int) ≤ (v : Int) := by omega
      have hdig := dig_at (d := v) (by omega)
      have hx : hexMin u = hexd v :: l := by rw [HI.out.eq, hexMin_lt (by omega)]; rfl
      have R2 := R.put (hexd v)
      have hxl : (hexMin u).length = 65 - k := by rw [hx, List.length_cons]; omega
      have hal : Tryd.prog.arrayLen 90 = 65 := by kernel_rfl
      have hsl : ∀ W, (Instr.sliceAt 90 (.pointer (some ⟨w.heap.size, 0, none⟩)) (some (.int .i64 (k : Int))) none none).run Tryd.prog W = .ok (.slice (some ⟨w.heap.size, k, none⟩) (65 - k) (65 - k)) W := fun W => by
        rw [run_sliceAt_array_l W 90 ⟨w.heap.size, 0, none⟩ (by simp [Program.arrayLen, Program.elem, Tryd.underlying90]) .i64 (k : Int) (by omega) (by rw [hal]; omega)]
        go_simp
        omega
      have hcv : (convert 53 9 (.slice (some ⟨w.heap.size, k, none⟩) (65 - k) (65 - k))).run Tryd.prog (wr.setCell ⟨w.heap.size, k, none⟩ (.int .u8 ((hexd v).toNat : Int))) = .ok (.string ⟨(hexMin u).toArray⟩) (wr.setCell ⟨w.heap.size, k, none⟩ (.int .u8 ((hexd v).toNat : Int))) := by
        have h := run_convert_bytes_back (P := Tryd.prog) (wr.setCell ⟨w.heap.size, k, none⟩ (.int .u8 ((hexd v).toNat : Int))) 53 9 5 ⟨w.heap.size, k, none⟩ (65 - k) (hexMin u) Tryd.underlying53 Tryd.underlying5 Tryd.underlying9 (fun j hj => by
          have hj' : j < (hexd v :: l).length := by rw [← hx]; exact hj
          have e : (hexMin u)[j] = (hexd v :: l)[j] := by simp only [hx]
          rw [add_none, e]
          exact R2.digs j hj')
        rw [hxl] at h
        exact h
      have hk2 := R2.kept
      go_wp2_with fail
      refine bodyPost_ret (results_tmp2 rfl _ _ _) rfl ⟨by first | rfl | (rw [hx]; rfl), hk2⟩
end Go.Proofs.YtjodibncpbjegaaDoor
