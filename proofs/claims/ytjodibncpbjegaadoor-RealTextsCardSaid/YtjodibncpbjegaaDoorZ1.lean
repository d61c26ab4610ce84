/- Merged: Base, Base2, Row. -/
import Derived.WalkKit
import Derived.Lib.Hide
import Derived.Deep.Draws
import Derived.Deep.QuietTactic
import Derived.BigQuiet
import Derived.Laws.OwnMore
import Derived.Maps.AppendAt
import Derived.Deep.AppendLies
import Derived.Lib.AppendStr
import Derived.Deep.LoopGhost
import Derived.Deep.DeepCutAuto
import Derived.WalkLawsBesides
import Derived.WalkSpells
import Derived.ProofKit
import Derived.OpenShut
import Derived.ShutString
import Derived.ChangeOld
import Derived.SizedLaws
/- Words for memory and for lists of bytes, of no program: a slice that reads as a list of bytes; a row of the call's own; what a call leaves as it was. -/
set_option linter.unusedVariables false
set_option linter.unusedSimpArgs false
namespace Go.Proofs.YtjodibncpbjegaaDoor
open Go.RowKit

/-! ### Addresses -/
theorem add_block (a : Addr) (n : Nat) : (a.add n).block = a.block := by unfold Addr.add; split <;> rfl
theorem add_add (a : Addr) (i j : Nat) : (a.add i).add j = a.add (i + j) := by
  unfold Addr.add
  by_cases hi : i = 0 <;> by_cases hj : j = 0 <;> simp [hi, hj, Nat.add_assoc]
theorem add_lit (g j : Nat) : (⟨g, 0, none⟩ : Addr).add j = ⟨g, j, none⟩ := by unfold Addr.add; split <;> simp_all

/-! ### What a call leaves as it was -/
/-- Nothing that was there has changed. -/
def Kept (w w' : World) : Prop := Below w.heap.size w w'
theorem Kept.refl (w : World) : Kept w w := Below.refl _ _
theorem Kept.trans {a b c : World} (h : Kept a b) (k : Kept b c) : Kept a c :=
  Below.trans h (Below.mono k h.size)
theorem Kept.alloc {a w : World} (h : Kept a w) (o : Obj) : Kept a (w.alloc o) := Below.alloc h h.size o
theorem Kept.drew {a w : World} (h : Kept a w) : Kept a w.drew := Below.drew h
theorem Kept.drewN {a w : World} (h : Kept a w) (n : Nat) : Kept a (w.drewN n) := ⟨h.os, h.tape, h.output, h.size, h.block⟩
theorem Kept.setCell {a w : World} (h : Kept a w) {p : Addr} (hp : a.heap.size ≤ p.block) (u : Value) : Kept a (w.setCell p u) := Below.setCell h hp u
theorem Kept.grown {a w w' : World} {row : Option Nat} (h : Kept a w) (hg : w.grownBy w' row) (hr : ∀ k, row = some k → a.heap.size ≤ k) : Kept a w' := Below.grown h hg h.size hr
theorem Kept.cell {w w' : World} (h : Kept w w') {a : Addr} {v : Value} (hc : w.cell? a = some v) : w'.cell? a = some v := (Below.cell h (World.block_lt_of_cell? w a hc)).trans hc
theorem Kept.size {w w' : World} (h : Kept w w') : w.heap.size ≤ w'.heap.size := Below.size h
theorem Kept.below {w w' : World} (h : Kept w w') : Below w.heap.size w w' := h

/-- What a row of the call's own is: its block lies above all that was there. -/
theorem own_base {w : World} {base : Nat} {e : TypeId} {size n : Nat} {v : Value} {xs : List Value} (h : w.ownsRow base e size v n xs) (k : Nat) (hk : v.ownBlock = some k) : base ≤ k := by
  rcases h.2 with ⟨rfl, _⟩ | ⟨g, cap, cur, rfl, hb, _⟩
  · simp [Value.ownBlock] at hk
  · have : g = k := by simpa [Value.ownBlock] using hk
    omega
theorem own_lt {w : World} {base : Nat} {e : TypeId} {size n : Nat} {v : Value} {xs : List Value} (h : w.ownsRow base e size v n xs) (k : Nat) (hk : v.ownBlock = some k) : k < w.heap.size := by
  rcases h.2 with ⟨rfl, _⟩ | ⟨g, cap, cur, rfl, hb, hh, _⟩
  · simp [Value.ownBlock] at hk
  · have : g = k := by simpa [Value.ownBlock] using hk
    subst this
    exact (Array.getElem?_eq_some_iff.1 hh).1
theorem own_nil (W : World) (base : Nat) (e : TypeId) (size : Nat) : W.ownsRow base e size (.slice none 0 0) 0 [] := ⟨by simp, .inl ⟨rfl, rfl⟩⟩
theorem own_kept {w w1 : World} {base : Nat} {e : TypeId} {size n : Nat} {v : Value} {xs : List Value} (h : w.ownsRow base e size v n xs) (hb : Kept w w1) : w1.ownsRow base e size v n xs :=
  h.kept (row := none) ⟨hb.os, hb.tape, hb.output, hb.size, fun i hi _ => hb.block i hi⟩ (by cases v.ownBlock <;> simp)
theorem own_slice {w : World} {base n : Nat} {e : TypeId} {size : Nat} {v : Value} {xs : List Value} (h : w.ownsRow base e size v n xs) : ∃ A c, v = .slice A n c := by
  rcases h.2 with ⟨rfl, rfl⟩ | ⟨g, cap, cur, rfl, _⟩
  · exact ⟨none, 0, rfl⟩
  · exact ⟨_, cap, rfl⟩
theorem own_raise {w : World} {base base' n : Nat} {e : TypeId} {size : Nat} {v : Value} {xs : List Value} (h : w.ownsRow base e size v n xs) (hb : base' ≤ base) : w.ownsRow base' e size v n xs := by
  refine ⟨h.1, ?_⟩
  rcases h.2 with h | ⟨g, cap, cur, rfl, hb', rest⟩
  · exact .inl h
  · exact .inr ⟨g, cap, cur, rfl, by omega, rest⟩

/-- a row that the call has just laid down, full -/
theorem own_new (w : World) (e : TypeId) (size n : Nat) (cs : Array Value) (h : cs.size = n * size) (hn : n ≤ maxLen) : (w.alloc (.cells cs e)).ownsRow w.heap.size e size (.slice (some ⟨w.heap.size, 0, none⟩) n n) n cs.toList := by
  refine ⟨by rw [Array.length_toList]; exact h, .inr ⟨w.heap.size, n, cs, rfl, Nat.le_refl _, heap_alloc_new w _, Nat.le_refl _, hn, h, ?_⟩⟩
  rw [← h, ← Array.length_toList, List.take_length]
theorem Kept.app {a w w' : World} {base : Nat} {e : TypeId} {size n : Nat} {v : Value} {xs : List Value} (h : Kept a w) (hown : w.ownsRow base e size v n xs) (hb : a.heap.size ≤ base) (hg : w.grownBy w' v.ownBlock) : Kept a w' :=
  h.grown hg fun k hk => Nat.le_trans hb (own_base hown k hk)

/-! ### Lists of bytes -/
/-- The cells of a list of bytes. -/
def cellsB (l : List UInt8) : List Value := l.map fun c => .int .u8 (c.toNat : Int)
theorem cellsB_length (l : List UInt8) : (cellsB l).length = l.length := by simp [cellsB]
theorem cellsB_append (l m : List UInt8) : cellsB (l ++ m) = cellsB l ++ cellsB m := by simp [cellsB]
theorem cellsB_get (l : List UInt8) (i : Nat) (h : i < l.length) : (cellsB l)[i]? = some (.int .u8 ((l.getD i 0).toNat : Int)) := by
  simp [cellsB, h]
theorem cellsB_one (l : List UInt8) : ∀ u ∈ cellsB l, u.oneCell' = true := by
  intro u hu
  obtain ⟨_, _, rfl⟩ := List.mem_map.1 hu
  rfl

/-- The slice at A, of l's length, reads as l. -/
structure Bs (w : World) (A : Option Addr) (l : List UInt8) : Prop where
  at_ : 0 < l.length → ∃ ad, A = some ad ∧ ∀ i, i < l.length → w.cell? (ad.add i) = some (.int .u8 ((l.getD i 0).toNat : Int))

theorem Bs.get {w : World} {A : Option Addr} {l : List UInt8} (h : Bs w A l) (i : Int) (h0 : 0 ≤ i) (h1 : i < (l.length : Int)) :
    ∃ ad, A = some ad ∧ w.cell? (ad.add i.toNat) = some (.int .u8 ((l.getD i.toNat 0).toNat : Int)) := by
  obtain ⟨ad, e, hc⟩ := h.at_ (by omega)
  exact ⟨ad, e, hc _ (by omega)⟩
theorem Bs.getN {w : World} {A : Option Addr} {l : List UInt8} (h : Bs w A l) (i : Nat) (h1 : i < l.length) :
    ∃ ad, A = some ad ∧ w.cell? (ad.add i) = some (.int .u8 ((l.getD i 0).toNat : Int)) := by
  obtain ⟨ad, e, hc⟩ := h.at_ (by omega)
  exact ⟨ad, e, hc _ h1⟩
/-- one byte of it, under a name of its own -/
theorem Bs.byte {w : World} {A : Option Addr} {l : List UInt8} (h : Bs w A l) (i : Nat) (h1 : i < l.length) :
    ∃ (ad : Addr) (b : UInt8), A = some ad ∧ w.cell? (ad.add i) = some (.int .u8 (b.toNat : Int)) ∧ Hid (l[i]? = some b) ∧ b.toNat < 256 := by
  obtain ⟨ad, e, hc⟩ := h.at_ (by omega)
  have e2 : l.getD i 0 = l[i] := by simp [List.getD_eq_getElem?_getD, h1]
  exact ⟨ad, l[i], e, by rw [← e2]; exact hc _ h1, Lib.hid (List.getElem?_eq_getElem h1), (l[i]).toNat_lt⟩
theorem Bs.nil (w : World) (A : Option Addr) : Bs w A [] := ⟨fun h => absurd h (by simp)⟩
theorem Bs.kept {w w' : World} {A : Option Addr} {l : List UInt8} (h : Bs w A l) (hk : Kept w w') : Bs w' A l :=
  ⟨fun hn => by
    obtain ⟨ad, e, hc⟩ := h.at_ hn
    exact ⟨ad, e, fun i hi => hk.cell (hc i hi)⟩⟩
/-- a list that the call has just laid down -/
theorem Bs.new (w : World) (l : List UInt8) (e : TypeId) (fr : Nat × Nat) (cs : Array Value) (h : cs.toList = cellsB l) : Bs (w.alloc (.cells cs e fr)) (some ⟨w.heap.size, 0, none⟩) l := by
  refine ⟨fun hn => ⟨_, rfl, fun i hi => ?_⟩⟩
  have h1 := cellsB_get l i hi
  rw [← h] at h1
  rw [add_lit, cell_of_row (w.alloc (.cells cs e fr)) w.heap.size i cs e fr (heap_alloc_new w _)]
  simpa using h1
theorem Bs.own {w : World} {base : Nat} {e : TypeId} {A : Option Addr} {c n : Nat} {l : List UInt8} (h : w.ownsRow base e 1 (.slice A n c) n (cellsB l)) : Bs w A l := by
  refine ⟨fun hn => ?_⟩
  have hl : l.length = n := by have := h.1; simpa [cellsB] using this
  obtain ⟨g, cap, hv, _, _⟩ := h.form (by omega)
  injection hv with hA _ _
  subst hA
  exact ⟨_, rfl, fun i hi => h.cells (g := g) rfl i _ (cellsB_get l i hi)⟩
theorem own_len {w : World} {base : Nat} {e : TypeId} {v : Value} {n : Nat} {l : List UInt8} (h : w.ownsRow base e 1 v n (cellsB l)) : l.length = n := by have := h.1; simpa [cellsB] using this
/-- a cut of it -/
theorem Bs.cut {w : World} {A : Option Addr} {l : List UInt8} (h : Bs w A l) {k m cap : Nat} (hk : k + m ≤ l.length) (hc : l.length ≤ cap) :
    Bs w (if cap = k then A else A.map (·.add k)) ((l.drop k).take m) := by
  refine ⟨fun hn => ?_⟩
  have hm : 0 < m := by simp at hn; omega
  obtain ⟨ad, rfl, hcell⟩ := h.at_ (by omega)
  rw [if_neg (by omega)]
  refine ⟨ad.add k, rfl, fun i hi => ?_⟩
  have hi' : i < m := by simp at hi; omega
  rw [add_add, hcell _ (by omega)]
  simp [List.getD_eq_getElem?_getD, List.getElem?_take, hi', List.getElem?_drop]

/-! ### append onto a row of the call's own -/
/-- Of a slice type: its elements, their cells and bytes. -/
structure RowT (P : Program) (t e : TypeId) (size bytes : Nat) : Prop where
  under : P.underlying t = some (.slice e)
  row : ∃ i z, P.info? e = some i ∧ i.zero = some z ∧ i.size = size ∧ i.bytes = bytes ∧ z.cells.size = size ∧ 0 < size
theorem RowT.of {P : Program} {t e : TypeId} {z : Value} {size bytes : Nat} (h1 : P.underlying t = some (.slice e)) (h2 : (P.info? e).map (fun i => (i.zero, i.size, i.bytes)) = some (some z, size, bytes)) (h3 : z.cells.size = size) (h4 : 0 < size) : RowT P t e size bytes := by
  obtain ⟨i, a, b, c, d⟩ := info_parts h2
  exact ⟨h1, i, z, a, b, c, d, h3, h4⟩

/-- The slice at B, of m elements, holds the cells 'news'. -/
structure Src (w : World) (size : Nat) (B : Option Addr) (m : Nat) (news : List Value) : Prop where
  len : news.length = m * size
  one : ∀ u ∈ news, u.oneCell' = true
  at_ : 0 < m → ∃ ad, B = some ad ∧ ∀ j u, news[j]? = some u → w.cell? (ad.add j) = some u
theorem Src.bytes {w : World} {B : Option Addr} {l : List UInt8} (h : Bs w B l) : Src w 1 B l.length (cellsB l) := by
  refine ⟨by simp [cellsB], cellsB_one l, fun hn => ?_⟩
  obtain ⟨ad, e, hc⟩ := h.at_ hn
  refine ⟨ad, e, fun j u hu => ?_⟩
  have hj : j < l.length := by have := (List.getElem?_eq_some_iff.1 hu).1; simpa [cellsB] using this
  rw [cellsB_get l j hj] at hu
  rw [hc j hj, hu]
theorem Src.new1 (w : World) (e : TypeId) (u : Value) (h1 : u.oneCell' = true) : Src (w.alloc (.cells #[u] e)) 1 (some ⟨w.heap.size, 0, none⟩) 1 [u] := by
  refine ⟨rfl, by simpa using h1, fun _ => ⟨_, rfl, fun j v hv => ?_⟩⟩
  have hj : j = 0 := by have := (List.getElem?_eq_some_iff.1 hv).1; simpa using this
  subst hj
  have : u = v := by simpa using hv
  subst this
  exact cell_one_new _ _ _ 0 _ (by simp)

theorem run_app {P : Program} (w : World) {t ty e : TypeId} {size bytes : Nat} (R : RowT P t e size bytes) (base : Nat) {A : Option Addr} {n c : Nat} {xs : List Value}
    (hown : w.ownsRow base e size (.slice A n c) n xs) {B : Option Addr} {m d : Nat} {news : List Value} (hr : Src w size B m news)
    (h63 : n + m ≤ maxLen) (hbytes : (n + m) * bytes ≤ 140737488355328) (hbase : base ≤ w.heap.size) :
    ∃ A' c' w', (Builtin.append_ #[t, t] ty #[.slice A n c, .slice B m d]).run P w = .ok (.slice A' (n + m) c') w' ∧ w'.ownsRow base e size (.slice A' (n + m) c') (n + m) (xs ++ news) ∧
      w.grownBy w' (Value.slice A n c).ownBlock ∧ ((Value.slice A' (n + m) c').ownBlock = (Value.slice A n c).ownBlock ∨ (Value.slice A' (n + m) c').ownBlock = some w.heap.size) := by
  obtain ⟨ht, i, z, hi, hz, hsize, hby, hzs, hsz⟩ := R
  rcases B with _ | ad
  · have hm : m = 0 := by
      rcases Nat.eq_zero_or_pos m with h0 | h0
      · exact h0
      · obtain ⟨ad, h, _⟩ := hr.at_ h0
        cases h
    subst hm
    have hn : news = [] := List.eq_nil_of_length_eq_zero (by simpa using hr.len)
    subst hn
    refine ⟨A, c, w, ?_, by simpa using hown, World.grownBy.refl w _, .inl rfl⟩
    rcases hown.2 with ⟨hv, rfl⟩ | ⟨g, cap, cur, hv, _, _, hnc, _⟩
    · injection hv with h1 h2 h3
      subst h1 h3
      simp [Builtin.append_, run_underlying ht, sizeOf, typeInfo, hi, Builtin.lenOf, Builtin.firstCells]
    · injection hv with h1 h2 h3
      subst h1 h3
      simp [Builtin.append_, run_underlying ht, sizeOf, typeInfo, hi, Builtin.lenOf, Builtin.firstCells, hnc, storeCells]
  · have hcells : ∀ j u, news[j]? = some u → w.cell? (ad.add j) = some u := by
      intro j u hu
      rcases Nat.eq_zero_or_pos m with h0 | h0
      · subst h0
        have hn : news = [] := List.eq_nil_of_length_eq_zero (by simpa using hr.len)
        subst hn
        simp at hu
      · obtain ⟨ad', h, hc⟩ := hr.at_ h0
        injection h with h
        subst h
        exact hc j u hu
    obtain ⟨v', w', hrun, h2, h3, _, h5⟩ := run_append_own_at (P := P) w base t ty e i z size bytes ht hi hz hsize hby hzs hsz _ n xs hown ad m d news hr.len hcells hr.one h63 hbytes hbase
    obtain ⟨A', c', rfl⟩ := own_slice h2
    exact ⟨A', c', w', hrun, h2, h3, h5⟩

/-- append at the operation: onto a row of the call's own, from wherever. -/
theorem wpList_app {P : Program} {w : World} {ops : Array Oper} {rest : List Oper} {o : Oper} {a : Act} {Q : Exit → Act → World → Prop} (hgd : o.guard = none) (s x : Operand) (t : TypeId)
    (ho : o.op = .call { callee := .builtin .append, args := #[s, x], argTypes := #[t, t] })
    {e : TypeId} {size bytes : Nat} (R : RowT P t e size bytes) (base : Nat) {A : Option Addr} {n c : Nat} (xs : List Value)
    (hs : a.eval s = .slice A n c) (hown : w.ownsRow base e size (.slice A n c) n xs) {B : Option Addr} {m d : Nat} (news : List Value) (hx : a.eval x = .slice B m d) (hr : Src w size B m news)
    (h63 : n + m ≤ maxLen) (hbytes : (n + m) * bytes ≤ 140737488355328) (hbase : base ≤ w.heap.size)
    (h : ∀ A' c' w', w'.ownsRow base e size (.slice A' (n + m) c') (n + m) (xs ++ news) → w.grownBy w' (Value.slice A n c).ownBlock →
      ((Value.slice A' (n + m) c').ownBlock = (Value.slice A n c).ownBlock ∨ (Value.slice A' (n + m) c').ownBlock = some w.heap.size) → wpList P ops Q rest (a.put o.dst (.slice A' (n + m) c')) w') : wpList P ops Q (o :: rest) a w := by
  refine wpList_plain hgd fun K hK => ?_
  obtain ⟨A', c', w', hrun, h2, h3, h4⟩ := run_app (P := P) w (ty := o.type) R base hown hr h63 hbytes hbase (d := d)
  unfold Oper.wp execOp
  simp only [ho, resolve, invoke, builtin, Sem.run_bind, Sem.run_pure, Result.andThen_ok, List.map_toArray, List.map_cons, List.map_nil, hs, hx, hrun]
  exact hK _ _ (h A' c' w' h2 h3 h4)

end Go.Proofs.YtjodibncpbjegaaDoor
/- More words for memory. -/
set_option linter.unusedVariables false
set_option linter.unusedSimpArgs false
namespace Go.Proofs.YtjodibncpbjegaaDoor
open Go.RowKit

theorem Bs.new' (w : World) (l : List UInt8) (e : TypeId) (fr : Nat × Nat) (cs : Array Value) (g : Nat) (h : cs.toList = cellsB l) (hg : g = w.heap.size) : Bs (w.alloc (.cells cs e fr)) (some ⟨g, 0, none⟩) l := by
  subst hg
  exact Bs.new w l e fr cs h

theorem own_cap {w : World} {base n c : Nat} {e : TypeId} {size : Nat} {A : Option Addr} {xs : List Value} (h : w.ownsRow base e size (.slice A n c) n xs) : n ≤ c := by
  rcases h.2 with ⟨h1, h2⟩ | ⟨g, cap, cur, h1, _, _, h2, _⟩
  · injection h1; omega
  · injection h1; omega

/-- append onto an empty row of the call's own. -/
theorem wpList_app0 {P : Program} {w : World} {ops : Array Oper} {rest : List Oper} {o : Oper} {a : Act} {Q : Exit → Act → World → Prop} (hgd : o.guard = none) (s x : Operand) (t : TypeId)
    (ho : o.op = .call { callee := .builtin .append, args := #[s, x], argTypes := #[t, t] })
    {e : TypeId} {size bytes : Nat} (R : RowT P t e size bytes) (base : Nat) {A : Option Addr} {c : Nat}
    (hs : a.eval s = .slice A 0 c) (hown : w.ownsRow base e size (.slice A 0 c) 0 []) {B : Option Addr} {m d : Nat} (news : List Value) (hx : a.eval x = .slice B m d) (hr : Src w size B m news)
    (h63 : m ≤ maxLen) (hbytes : m * bytes ≤ 140737488355328) (hbase : base ≤ w.heap.size)
    (h : ∀ A' c' w', w'.ownsRow base e size (.slice A' m c') m news → w.grownBy w' (Value.slice A 0 c).ownBlock →
      ((Value.slice A' m c').ownBlock = (Value.slice A 0 c).ownBlock ∨ (Value.slice A' m c').ownBlock = some w.heap.size) → wpList P ops Q rest (a.put o.dst (.slice A' m c')) w') : wpList P ops Q (o :: rest) a w := by
  refine wpList_app hgd s x t ho R base [] hs hown news hx hr (by omega) (by rw [Nat.zero_add]; exact hbytes) hbase ?_
  intro A' c' w' h1 h2 h3
  simp only [Nat.zero_add, List.nil_append] at h1 h2 h3 ⊢
  exact h A' c' w' h1 h2 h3

/-- What another row's growth leaves. -/
theorem Bs.grown {w w' : World} {A : Option Addr} {l : List UInt8} {row : Option Nat} (h : Bs w A l) (hg : w.grownBy w' row) (hne : ∀ ad, A = some ad → row ≠ some ad.block) : Bs w' A l :=
  ⟨fun hn => by
    obtain ⟨ad, e, hc⟩ := h.at_ hn
    refine ⟨ad, e, fun i hi => ?_⟩
    have h1 := hc i hi
    have hlt := World.block_lt_of_cell? w _ h1
    rw [World.cell?_of_block (hg.block (ad.add i).block hlt (fun he => hne ad e (by rw [← he, add_block])))]
    exact h1⟩
theorem Bs.pre {w : World} {A : Option Addr} {l : List UInt8} (h : Bs w A l) (k : Nat) : Bs w A (l.take k) := by
  refine ⟨fun hn => ?_⟩
  have hl : (l.take k).length = min k l.length := by simp
  obtain ⟨ad, e, hc⟩ := h.at_ (by omega)
  refine ⟨ad, e, fun i hi => ?_⟩
  rw [hc i (by omega)]
  simp [List.getD_eq_getElem?_getD, show i < k by omega]
end Go.Proofs.YtjodibncpbjegaaDoor
/- From a law's walk to its row: arguments opened. -/
set_option linter.unusedVariables false
set_option linter.unusedSimpArgs false
namespace Go.Proofs.YtjodibncpbjegaaDoor
open Go.ChangeShapes Go.WideShapes Go.ChangeAt Go.RowKit
open Go.ChangeMaps (open_string shut_string)

section
variable {H : Type} {enc : TypeId × Value → H} {P : Program} {W : World}

theorem getD_bytes (zs : List Int) (hw : ∀ n ∈ zs, (Lit.int .u8 n).wf = true) (len i : Nat) (hi : i < len) (hl : len ≤ zs.length) :
    ((((zs.take len).map fun z => UInt8.ofNat z.toNat).getD i 0).toNat : Int) = zs.getD i 0 := by
  have h1 : i < zs.length := by omega
  have h2 := hw _ (List.getElem_mem h1)
  have h3 : 0 ≤ zs[i] ∧ zs[i] < 256 := by
    simp [Lit.wf, IntKind.min, IntKind.max, IntKind.bits, IntKind.signed] at h2
    omega
  simp [List.getD_eq_getElem?_getD, List.getElem?_take, hi, h1]
  omega

/-- A slice of bytes that came in: a list of bytes, at most so many as the form lets in. -/
theorem open_bytes {t e : TypeId} {a : Option Addr} {len cap : Nat} {d : DataW H} {p : List MemPlace} (ht : P.underlying t = some (.slice e)) (he : P.underlying e = some (.int .u8)) (hc : P.cellsOf e = 1)
    (h : DataW.Trod enc P W 0 (fun _ => true) true t (.slice a len cap) d p) :
    ∃ l : List UInt8, l.length = len ∧ len ≤ cap ∧ Bs W a l ∧ (cap = 0 ∨ ∃ elems spare : List (DataW H), d = .slice elems spare ∧ elems.length + spare.length = cap) := by
  obtain ⟨fuel, hf⟩ := h
  rcases open_ints ht he hc hf with ⟨hcs, _⟩ | ⟨x, l, c, zs, hcs, _, hl, hm, hz, hx, hcell, hwz⟩
  · simp [Value.cells] at hcs
    obtain ⟨rfl, rfl, rfl⟩ := hcs
    exact ⟨[], rfl, Nat.le_refl _, Bs.nil _ _, .inl rfl⟩
  · simp [Value.cells] at hcs
    obtain ⟨rfl, rfl, rfl⟩ := hcs
    simp only [if_true] at hz
    simp only [Prod.mk.injEq] at hx
    refine ⟨(zs.take len).map fun z => UInt8.ofNat z.toNat, by simp; omega, hl, ⟨fun _ => ⟨x, rfl, fun i hi => ?_⟩⟩, .inr ⟨_, _, hx.1, by simp [lits]; omega⟩⟩
    have hi' : i < len := by simp at hi; omega
    rw [getD_bytes zs hwz len i hi' (by omega)]
    exact hcell i (by omega)
/-- The same of a cell. -/
theorem open_bytes_cell {t e : TypeId} {fuel : Nat} {v : Value} {y : DataW H × List MemPlace} (ht : P.underlying t = some (.slice e)) (he : P.underlying e = some (.int .u8)) (hc : P.cellsOf e = 1)
    (hf : DataW.trod enc P W 0 (fun _ => true) true fuel t [v] = some y) :
    ∃ (a : Option Addr) (cap : Nat) (l : List UInt8), v = .slice a l.length cap ∧ l.length ≤ cap ∧ Bs W a l ∧ (cap = 0 ∨ ∃ elems spare : List (DataW H), y.1 = .slice elems spare ∧ elems.length + spare.length = cap) := by
  rcases open_ints ht he hc hf with ⟨hcs, _⟩ | ⟨x, len, c, zs, hcs, _, hl, hm, hz, hx, hcell, hwz⟩
  · simp at hcs
    subst hcs
    exact ⟨none, 0, [], rfl, Nat.le_refl _, Bs.nil _ _, .inl rfl⟩
  · simp at hcs
    subst hcs
    simp only [if_true] at hz
    have hll : ((zs.take len).map fun z => UInt8.ofNat z.toNat).length = len := by simp; omega
    refine ⟨some x, c, (zs.take len).map fun z => UInt8.ofNat z.toNat, by rw [hll], by omega, ⟨fun _ => ⟨x, rfl, fun i hi => ?_⟩⟩, .inr ⟨lits .u8 (zs.take len), lits .u8 (zs.drop len), by rw [hx], by simp [lits]; omega⟩⟩
    rw [getD_bytes zs hwz len i (by omega) (by omega)]
    exact hcell i (by omega)
theorem cap_le {j : Nat} {ts : List TypeId} {ds : List (DataW H)} {t e : TypeId} {d : DataW H} {cap : Nat} (hs : (DataW.weightsEach P ts ds).all (· ≤ reachBytes) = true) (ht : ts[j]? = some t) (hd : ds[j]? = some d)
    (hu : P.underlying t = some (.slice e)) (hb : P.bytesOf e = 1) (h : cap = 0 ∨ ∃ elems spare : List (DataW H), d = .slice elems spare ∧ elems.length + spare.length = cap) : cap ≤ 140737488351232 := by
  rcases h with rfl | ⟨elems, spare, rfl, h⟩
  · omega
  · have := sized_slice hs ht hd hu
    rw [hb, Nat.mul_one, h] at this
    exact this
theorem u64_of_wf {a : Int} (h : (Lit.int .u64 a).wf = true) : ∃ n : Nat, a = (n : Int) ∧ n < 18446744073709551616 := by
  simp [Lit.wf, IntKind.min, IntKind.max, IntKind.bits, IntKind.signed] at h
  exact ⟨a.toNat, by omega, by omega⟩
theorem i64_of_wf {a : Int} (h : (Lit.int .i64 a).wf = true) : -9223372036854775808 ≤ a ∧ a ≤ 9223372036854775807 := by
  simp [Lit.wf, IntKind.min, IntKind.max, IntKind.bits, IntKind.signed] at h
  omega
end
end Go.Proofs.YtjodibncpbjegaaDoor
