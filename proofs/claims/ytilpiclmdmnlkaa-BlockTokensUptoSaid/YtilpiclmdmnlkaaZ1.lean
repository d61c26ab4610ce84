/- Merged: Base, Base2, Row, Avm1, Init. -/
import Derived.WalkKit
import Derived.Lib.Hide
import Derived.Deep.Draws
import Derived.Deep.QuietTactic
import Derived.BigQuiet
import Derived.Laws.OwnMore
import Derived.Maps.AppendAt
import Derived.Deep.AppendLies
import Derived.Lib.AppendStr
import Derived.Deep.LoopGhost
import Derived.Deep.DeepCutAuto
import Derived.WalkLawsBesides
import Derived.WalkSpells
import Derived.ProofKit
import Derived.OpenShut
import Derived.ShutString
import Derived.ChangeOld
import Derived.SizedLaws
import Derived.Maps.Keyed
import Derived.RegionTactic
import Derived.Still
import Derived.Test.YtilpiclmdmnlkaaProg
/- Words for memory and for lists of bytes, of no program: a slice that reads as a list of bytes; a row of the call's own; what a call leaves as it was. -/
set_option linter.unusedVariables false
set_option linter.unusedSimpArgs false
namespace Go.Proofs.Ytilpiclmdmnlkaa
open Go.RowKit

/-! ### Addresses -/
theorem add_block (a : Addr) (n : Nat) : (a.add n).block = a.block := by unfold Addr.add; split <;> rfl
theorem add_add (a : Addr) (i j : Nat) : (a.add i).add j = a.add (i + j) := by
  unfold Addr.add
  by_cases hi : i = 0 <;> by_cases hj : j = 0 <;> simp [hi, hj, Nat.add_assoc]
theorem add_lit (g j : Nat) : (⟨g, 0, none⟩ : Addr).add j = ⟨g, j, none⟩ := by unfold Addr.add; split <;> simp_all

/-! ### What a call leaves as it was -/
/-- Nothing that was there has changed. -/
def Kept (w w' : World) : Prop := Below w.heap.size w w'
theorem Kept.refl (w : World) : Kept w w := Below.refl _ _
theorem Kept.trans {a b c : World} (h : Kept a b) (k : Kept b c) : Kept a c :=
  Below.trans h (Below.mono k h.size)
theorem Kept.alloc {a w : World} (h : Kept a w) (o : Obj) : Kept a (w.alloc o) := Below.alloc h h.size o
theorem Kept.drew {a w : World} (h : Kept a w) : Kept a w.drew := Below.drew h
theorem Kept.drewN {a w : World} (h : Kept a w) (n : Nat) : Kept a (w.drewN n) := ⟨h.os, h.tape, h.output, h.size, h.block⟩
theorem Kept.setCell {a w : World} (h : Kept a w) {p : Addr} (hp : a.heap.size ≤ p.block) (u : Value) : Kept a (w.setCell p u) := Below.setCell h hp u
theorem Kept.grown {a w w' : World} {row : Option Nat} (h : Kept a w) (hg : w.grownBy w' row) (hr : ∀ k, row = some k → a.heap.size ≤ k) : Kept a w' := Below.grown h hg h.size hr
theorem Kept.cell {w w' : World} (h : Kept w w') {a : Addr} {v : Value} (hc : w.cell? a = some v) : w'.cell? a = some v := (Below.cell h (World.block_lt_of_cell? w a hc)).trans hc
theorem Kept.size {w w' : World} (h : Kept w w') : w.heap.size ≤ w'.heap.size := Below.size h
theorem Kept.below {w w' : World} (h : Kept w w') : Below w.heap.size w w' := h

/-- What a row of the call's own is: its block lies above all that was there. -/
theorem own_base {w : World} {base : Nat} {e : TypeId} {size n : Nat} {v : Value} {xs : List Value} (h : w.ownsRow base e size v n xs) (k : Nat) (hk : v.ownBlock = some k) : base ≤ k := by
  rcases h.2 with ⟨rfl, _⟩ | ⟨g, cap, cur, rfl, hb, _⟩
  · simp [Value.ownBlock] at hk
  · have : g = k := by simpa [Value.ownBlock] using hk
    omega
theorem own_lt {w : World} {base : Nat} {e : TypeId} {size n : Nat} {v : Value} {xs : List Value} (h : w.ownsRow base e size v n xs) (k : Nat) (hk : v.ownBlock = some k) : k < w.heap.size := by
  rcases h.2 with ⟨rfl, _⟩ | ⟨g, cap, cur, rfl, hb, hh, _⟩
  · simp [Value.ownBlock] at hk
  · have : g = k := by simpa [Value.ownBlock] using hk
    subst this
    exact (Array.getElem?_eq_some_iff.1 hh).1
theorem own_nil (W : World) (base : Nat) (e : TypeId) (size : Nat) : W.ownsRow base e size (.slice none 0 0) 0 [] := ⟨by simp, .inl ⟨rfl, rfl⟩⟩
theorem own_kept {w w1 : World} {base : Nat} {e : TypeId} {size n : Nat} {v : Value} {xs : List Value} (h : w.ownsRow base e size v n xs) (hb : Kept w w1) : w1.ownsRow base e size v n xs :=
  h.kept (row := none) ⟨hb.os, hb.tape, hb.output, hb.size, fun i hi _ => hb.block i hi⟩ (by cases v.ownBlock <;> simp)
theorem own_slice {w : World} {base n : Nat} {e : TypeId} {size : Nat} {v : Value} {xs : List Value} (h : w.ownsRow base e size v n xs) : ∃ A c, v = .slice A n c := by
  rcases h.2 with ⟨rfl, rfl⟩ | ⟨g, cap, cur, rfl, _⟩
  · exact ⟨none, 0, rfl⟩
  · exact ⟨_, cap, rfl⟩
theorem own_raise {w : World} {base base' n : Nat} {e : TypeId} {size : Nat} {v : Value} {xs : List Value} (h : w.ownsRow base e size v n xs) (hb : base' ≤ base) : w.ownsRow base' e size v n xs := by
  refine ⟨h.1, ?_⟩
  rcases h.2 with h | ⟨g, cap, cur, rfl, hb', rest⟩
  · exact .inl h
  · exact .inr ⟨g, cap, cur, rfl, by omega, rest⟩

/-- a row that the call has just laid down, full -/
theorem own_new (w : World) (e : TypeId) (size n : Nat) (cs : Array Value) (h : cs.size = n * size) (hn : n ≤ maxLen) : (w.alloc (.cells cs e)).ownsRow w.heap.size e size (.slice (some ⟨w.heap.size, 0, none⟩) n n) n cs.toList := by
  refine ⟨by rw [Array.length_toList]; exact h, .inr ⟨w.heap.size, n, cs, rfl, Nat.le_refl _, heap_alloc_new w _, Nat.le_refl _, hn, h, ?_⟩⟩
  rw [← h, ← Array.length_toList, List.take_length]
theorem Kept.app {a w w' : World} {base : Nat} {e : TypeId} {size n : Nat} {v : Value} {xs : List Value} (h : Kept a w) (hown : w.ownsRow base e size v n xs) (hb : a.heap.size ≤ base) (hg : w.grownBy w' v.ownBlock) : Kept a w' :=
  h.grown hg fun k hk => Nat.le_trans hb (own_base hown k hk)

/-! ### Lists of bytes -/
/-- The cells of a list of bytes. -/
def cellsB (l : List UInt8) : List Value := l.map fun c => .int .u8 (c.toNat : Int)
theorem cellsB_length (l : List UInt8) : (cellsB l).length = l.length := by simp [cellsB]
theorem cellsB_append (l m : List UInt8) : cellsB (l ++ m) = cellsB l ++ cellsB m := by simp [cellsB]
theorem cellsB_get (l : List UInt8) (i : Nat) (h : i < l.length) : (cellsB l)[i]? = some (.int .u8 ((l.getD i 0).toNat : Int)) := by
  simp [cellsB, h]
theorem cellsB_one (l : List UInt8) : ∀ u ∈ cellsB l, u.oneCell' = true := by
  intro u hu
  obtain ⟨_, _, rfl⟩ := List.mem_map.1 hu
  rfl

/-- The slice at A, of l's length, reads as l. -/
structure Bs (w : World) (A : Option Addr) (l : List UInt8) : Prop where
  at_ : 0 < l.length → ∃ ad, A = some ad ∧ ∀ i, i < l.length → w.cell? (ad.add i) = some (.int .u8 ((l.getD i 0).toNat : Int))

theorem Bs.get {w : World} {A : Option Addr} {l : List UInt8} (h : Bs w A l) (i : Int) (h0 : 0 ≤ i) (h1 : i < (l.length : Int)) :
    ∃ ad, A = some ad ∧ w.cell? (ad.add i.toNat) = some (.int .u8 ((l.getD i.toNat 0).toNat : Int)) := by
  obtain ⟨ad, e, hc⟩ := h.at_ (by omega)
  exact ⟨ad, e, hc _ (by omega)⟩
theorem Bs.getN {w : World} {A : Option Addr} {l : List UInt8} (h : Bs w A l) (i : Nat) (h1 : i < l.length) :
    ∃ ad, A = some ad ∧ w.cell? (ad.add i) = some (.int .u8 ((l.getD i 0).toNat : Int)) := by
  obtain ⟨ad, e, hc⟩ := h.at_ (by omega)
  exact ⟨ad, e, hc _ h1⟩
/-- one byte of it, under a name of its own -/
theorem Bs.byte {w : World} {A : Option Addr} {l : List UInt8} (h : Bs w A l) (i : Nat) (h1 : i < l.length) :
    ∃ (ad : Addr) (b : UInt8), A = some ad ∧ w.cell? (ad.add i) = some (.int .u8 (b.toNat : Int)) ∧ Hid (l[i]? = some b) ∧ b.toNat < 256 := by
  obtain ⟨ad, e, hc⟩ := h.at_ (by omega)
  have e2 : l.getD i 0 = l[i] := by simp [List.getD_eq_getElem?_getD, h1]
  exact ⟨ad, l[i], e, by rw [← e2]; exact hc _ h1, Lib.hid (List.getElem?_eq_getElem h1), (l[i]).toNat_lt⟩
theorem Bs.nil (w : World) (A : Option Addr) : Bs w A [] := ⟨fun h => absurd h (by simp)⟩
theorem Bs.kept {w w' : World} {A : Option Addr} {l : List UInt8} (h : Bs w A l) (hk : Kept w w') : Bs w' A l :=
  ⟨fun hn => by
    obtain ⟨ad, e, hc⟩ := h.at_ hn
    exact ⟨ad, e, fun i hi => hk.cell (hc i hi)⟩⟩
/-- a list that the call has just laid down -/
theorem Bs.new (w : World) (l : List UInt8) (e : TypeId) (fr : Nat × Nat) (cs : Array Value) (h : cs.toList = cellsB l) : Bs (w.alloc (.cells cs e fr)) (some ⟨w.heap.size, 0, none⟩) l := by
  refine ⟨fun hn => ⟨_, rfl, fun i hi => ?_⟩⟩
  have h1 := cellsB_get l i hi
  rw [← h] at h1
  rw [add_lit, cell_of_row (w.alloc (.cells cs e fr)) w.heap.size i cs e fr (heap_alloc_new w _)]
  simpa using h1
theorem Bs.own {w : World} {base : Nat} {e : TypeId} {A : Option Addr} {c n : Nat} {l : List UInt8} (h : w.ownsRow base e 1 (.slice A n c) n (cellsB l)) : Bs w A l := by
  refine ⟨fun hn => ?_⟩
  have hl : l.length = n := by have := h.1; simpa [cellsB] using this
  obtain ⟨g, cap, hv, _, _⟩ := h.form (by omega)
  injection hv with hA _ _
  subst hA
  exact ⟨_, rfl, fun i hi => h.cells (g := g) rfl i _ (cellsB_get l i hi)⟩
theorem own_len {w : World} {base : Nat} {e : TypeId} {v : Value} {n : Nat} {l : List UInt8} (h : w.ownsRow base e 1 v n (cellsB l)) : l.length = n := by have := h.1; simpa [cellsB] using this
/-- a cut of it -/
theorem Bs.cut {w : World} {A : Option Addr} {l : List UInt8} (h : Bs w A l) {k m cap : Nat} (hk : k + m ≤ l.length) (hc : l.length ≤ cap) :
    Bs w (if cap = k then A else A.map (·.add k)) ((l.drop k).take m) := by
  refine ⟨fun hn => ?_⟩
  have hm : 0 < m := by simp at hn; omega
  obtain ⟨ad, rfl, hcell⟩ := h.at_ (by omega)
  rw [if_neg (by omega)]
  refine ⟨ad.add k, rfl, fun i hi => ?_⟩
  have hi' : i < m := by simp at hi; omega
  rw [add_add, hcell _ (by omega)]
  simp [List.getD_eq_getElem?_getD, List.getElem?_take, hi', List.getElem?_drop]

/-! ### append onto a row of the call's own -/
/-- Of a slice type: its elements, their cells and bytes. -/
structure RowT (P : Program) (t e : TypeId) (size bytes : Nat) : Prop where
  under : P.underlying t = some (.slice e)
  row : ∃ i z, P.info? e = some i ∧ i.zero = some z ∧ i.size = size ∧ i.bytes = bytes ∧ z.cells.size = size ∧ 0 < size
theorem RowT.of {P : Program} {t e : TypeId} {z : Value} {size bytes : Nat} (h1 : P.underlying t = some (.slice e)) (h2 : (P.info? e).map (fun i => (i.zero, i.size, i.bytes)) = some (some z, size, bytes)) (h3 : z.cells.size = size) (h4 : 0 < size) : RowT P t e size bytes := by
  obtain ⟨i, a, b, c, d⟩ := info_parts h2
  exact ⟨h1, i, z, a, b, c, d, h3, h4⟩

/-- The slice at B, of m elements, holds the cells 'news'. -/
structure Src (w : World) (size : Nat) (B : Option Addr) (m : Nat) (news : List Value) : Prop where
  len : news.length = m * size
  one : ∀ u ∈ news, u.oneCell' = true
  at_ : 0 < m → ∃ ad, B = some ad ∧ ∀ j u, news[j]? = some u → w.cell? (ad.add j) = some u
theorem Src.bytes {w : World} {B : Option Addr} {l : List UInt8} (h : Bs w B l) : Src w 1 B l.length (cellsB l) := by
  refine ⟨by simp [cellsB], cellsB_one l, fun hn => ?_⟩
  obtain ⟨ad, e, hc⟩ := h.at_ hn
  refine ⟨ad, e, fun j u hu => ?_⟩
  have hj : j < l.length := by have := (List.getElem?_eq_some_iff.1 hu).1; simpa [cellsB] using this
  rw [cellsB_get l j hj] at hu
  rw [hc j hj, hu]
theorem Src.new1 (w : World) (e : TypeId) (u : Value) (h1 : u.oneCell' = true) : Src (w.alloc (.cells #[u] e)) 1 (some ⟨w.heap.size, 0, none⟩) 1 [u] := by
  refine ⟨rfl, by simpa using h1, fun _ => ⟨_, rfl, fun j v hv => ?_⟩⟩
  have hj : j = 0 := by have := (List.getElem?_eq_some_iff.1 hv).1; simpa using this
  subst hj
  have : u = v := by simpa using hv
  subst this
  exact cell_one_new _ _ _ 0 _ (by simp)

theorem run_app {P : Program} (w : World) {t ty e : TypeId} {size bytes : Nat} (R : RowT P t e size bytes) (base : Nat) {A : Option Addr} {n c : Nat} {xs : List Value}
    (hown : w.ownsRow base e size (.slice A n c) n xs) {B : Option Addr} {m d : Nat} {news : List Value} (hr : Src w size B m news)
    (h63 : n + m ≤ maxLen) (hbytes : (n + m) * bytes ≤ 140737488355328) (hbase : base ≤ w.heap.size) :
    ∃ A' c' w', (Builtin.append_ #[t, t] ty #[.slice A n c, .slice B m d]).run P w = .ok (.slice A' (n + m) c') w' ∧ w'.ownsRow base e size (.slice A' (n + m) c') (n + m) (xs ++ news) ∧
      w.grownBy w' (Value.slice A n c).ownBlock ∧ ((Value.slice A' (n + m) c').ownBlock = (Value.slice A n c).ownBlock ∨ (Value.slice A' (n + m) c').ownBlock = some w.heap.size) := by
  obtain ⟨ht, i, z, hi, hz, hsize, hby, hzs, hsz⟩ := R
  rcases B with _ | ad
  · have hm : m = 0 := by
      rcases Nat.eq_zero_or_pos m with h0 | h0
      · exact h0
      · obtain ⟨ad, h, _⟩ := hr.at_ h0
        cases h
    subst hm
    have hn : news = [] := List.eq_nil_of_length_eq_zero (by simpa using hr.len)
    subst hn
    refine ⟨A, c, w, ?_, by simpa using hown, World.grownBy.refl w _, .inl rfl⟩
    rcases hown.2 with ⟨hv, rfl⟩ | ⟨g, cap, cur, hv, _, _, hnc, _⟩
    · injection hv with h1 h2 h3
      subst h1 h3
      simp [Builtin.append_, run_underlying ht, sizeOf, typeInfo, hi, Builtin.lenOf, Builtin.firstCells]
    · injection hv with h1 h2 h3
      subst h1 h3
      simp [Builtin.append_, run_underlying ht, sizeOf, typeInfo, hi, Builtin.lenOf, Builtin.firstCells, hnc, storeCells]
  · have hcells : ∀ j u, news[j]? = some u → w.cell? (ad.add j) = some u := by
      intro j u hu
      rcases Nat.eq_zero_or_pos m with h0 | h0
      · subst h0
        have hn : news = [] := List.eq_nil_of_length_eq_zero (by simpa using hr.len)
        subst hn
        simp at hu
      · obtain ⟨ad', h, hc⟩ := hr.at_ h0
        injection h with h
        subst h
        exact hc j u hu
    obtain ⟨v', w', hrun, h2, h3, _, h5⟩ := run_append_own_at (P := P) w base t ty e i z size bytes ht hi hz hsize hby hzs hsz _ n xs hown ad m d news hr.len hcells hr.one h63 hbytes hbase
    obtain ⟨A', c', rfl⟩ := own_slice h2
    exact ⟨A', c', w', hrun, h2, h3, h5⟩

/-- append at the operation: onto a row of the call's own, from wherever. -/
theorem wpList_app {P : Program} {w : World} {ops : Array Oper} {rest : List Oper} {o : Oper} {a : Act} {Q : Exit → Act → World → Prop} (hgd : o.guard = none) (s x : Operand) (t : TypeId)
    (ho : o.op = .call { callee := .builtin .append, args := #[s, x], argTypes := #[t, t] })
    {e : TypeId} {size bytes : Nat} (R : RowT P t e size bytes) (base : Nat) {A : Option Addr} {n c : Nat} (xs : List Value)
    (hs : a.eval s = .slice A n c) (hown : w.ownsRow base e size (.slice A n c) n xs) {B : Option Addr} {m d : Nat} (news : List Value) (hx : a.eval x = .slice B m d) (hr : Src w size B m news)
    (h63 : n + m ≤ maxLen) (hbytes : (n + m) * bytes ≤ 140737488355328) (hbase : base ≤ w.heap.size)
    (h : ∀ A' c' w', w'.ownsRow base e size (.slice A' (n + m) c') (n + m) (xs ++ news) → w.grownBy w' (Value.slice A n c).ownBlock →
      ((Value.slice A' (n + m) c').ownBlock = (Value.slice A n c).ownBlock ∨ (Value.slice A' (n + m) c').ownBlock = some w.heap.size) → wpList P ops Q rest (a.put o.dst (.slice A' (n + m) c')) w') : wpList P ops Q (o :: rest) a w := by
  refine wpList_plain hgd fun K hK => ?_
  obtain ⟨A', c', w', hrun, h2, h3, h4⟩ := run_app (P := P) w (ty := o.type) R base hown hr h63 hbytes hbase (d := d)
  unfold Oper.wp execOp
  simp only [ho, resolve, invoke, builtin, Sem.run_bind, Sem.run_pure, Result.andThen_ok, List.map_toArray, List.map_cons, List.map_nil, hs, hx, hrun]
  exact hK _ _ (h A' c' w' h2 h3 h4)

end Go.Proofs.Ytilpiclmdmnlkaa
/- More words for memory. -/
set_option linter.unusedVariables false
set_option linter.unusedSimpArgs false
namespace Go.Proofs.Ytilpiclmdmnlkaa
open Go.RowKit

theorem Bs.new' (w : World) (l : List UInt8) (e : TypeId) (fr : Nat × Nat) (cs : Array Value) (g : Nat) (h : cs.toList = cellsB l) (hg : g = w.heap.size) : Bs (w.alloc (.cells cs e fr)) (some ⟨g, 0, none⟩) l := by
  subst hg
  exact Bs.new w l e fr cs h

theorem own_cap {w : World} {base n c : Nat} {e : TypeId} {size : Nat} {A : Option Addr} {xs : List Value} (h : w.ownsRow base e size (.slice A n c) n xs) : n ≤ c := by
  rcases h.2 with ⟨h1, h2⟩ | ⟨g, cap, cur, h1, _, _, h2, _⟩
  · injection h1; omega
  · injection h1; omega

/-- append onto an empty row of the call's own. -/
theorem wpList_app0 {P : Program} {w : World} {ops : Array Oper} {rest : List Oper} {o : Oper} {a : Act} {Q : Exit → Act → World → Prop} (hgd : o.guard = none) (s x : Operand) (t : TypeId)
    (ho : o.op = .call { callee := .builtin .append, args := #[s, x], argTypes := #[t, t] })
    {e : TypeId} {size bytes : Nat} (R : RowT P t e size bytes) (base : Nat) {A : Option Addr} {c : Nat}
    (hs : a.eval s = .slice A 0 c) (hown : w.ownsRow base e size (.slice A 0 c) 0 []) {B : Option Addr} {m d : Nat} (news : List Value) (hx : a.eval x = .slice B m d) (hr : Src w size B m news)
    (h63 : m ≤ maxLen) (hbytes : m * bytes ≤ 140737488355328) (hbase : base ≤ w.heap.size)
    (h : ∀ A' c' w', w'.ownsRow base e size (.slice A' m c') m news → w.grownBy w' (Value.slice A 0 c).ownBlock →
      ((Value.slice A' m c').ownBlock = (Value.slice A 0 c).ownBlock ∨ (Value.slice A' m c').ownBlock = some w.heap.size) → wpList P ops Q rest (a.put o.dst (.slice A' m c')) w') : wpList P ops Q (o :: rest) a w := by
  refine wpList_app hgd s x t ho R base [] hs hown news hx hr (by omega) (by rw [Nat.zero_add]; exact hbytes) hbase ?_
  intro A' c' w' h1 h2 h3
  simp only [Nat.zero_add, List.nil_append] at h1 h2 h3 ⊢
  exact h A' c' w' h1 h2 h3

/-- What another row's growth leaves. -/
theorem Bs.grown {w w' : World} {A : Option Addr} {l : List UInt8} {row : Option Nat} (h : Bs w A l) (hg : w.grownBy w' row) (hne : ∀ ad, A = some ad → row ≠ some ad.block) : Bs w' A l :=
  ⟨fun hn => by
    obtain ⟨ad, e, hc⟩ := h.at_ hn
    refine ⟨ad, e, fun i hi => ?_⟩
    have h1 := hc i hi
    have hlt := World.block_lt_of_cell? w _ h1
    rw [World.cell?_of_block (hg.block (ad.add i).block hlt (fun he => hne ad e (by rw [← he, add_block])))]
    exact h1⟩
theorem Bs.pre {w : World} {A : Option Addr} {l : List UInt8} (h : Bs w A l) (k : Nat) : Bs w A (l.take k) := by
  refine ⟨fun hn => ?_⟩
  have hl : (l.take k).length = min k l.length := by simp
  obtain ⟨ad, e, hc⟩ := h.at_ (by omega)
  refine ⟨ad, e, fun i hi => ?_⟩
  rw [hc i (by omega)]
  simp [List.getD_eq_getElem?_getD, show i < k by omega]
end Go.Proofs.Ytilpiclmdmnlkaa
/- From a law's walk to its row: arguments opened. -/
set_option linter.unusedVariables false
set_option linter.unusedSimpArgs false
namespace Go.Proofs.Ytilpiclmdmnlkaa
open Go.ChangeShapes Go.WideShapes Go.ChangeAt Go.RowKit
open Go.ChangeMaps (open_string shut_string)

section
variable {H : Type} {enc : TypeId × Value → H} {P : Program} {W : World}

theorem getD_bytes (zs : List Int) (hw : ∀ n ∈ zs, (Lit.int .u8 n).wf = true) (len i : Nat) (hi : i < len) (hl : len ≤ zs.length) :
    ((((zs.take len).map fun z => UInt8.ofNat z.toNat).getD i 0).toNat : Int) = zs.getD i 0 := by
  have h1 : i < zs.length := by omega
  have h2 := hw _ (List.getElem_mem h1)
  have h3 : 0 ≤ zs[i] ∧ zs[i] < 256 := by
    simp [Lit.wf, IntKind.min, IntKind.max, IntKind.bits, IntKind.signed] at h2
    omega
  simp [List.getD_eq_getElem?_getD, List.getElem?_take, hi, h1]
  omega

/-- A slice of bytes that came in: a list of bytes, at most so many as the form lets in. -/
theorem open_bytes {t e : TypeId} {a : Option Addr} {len cap : Nat} {d : DataW H} {p : List MemPlace} (ht : P.underlying t = some (.slice e)) (he : P.underlying e = some (.int .u8)) (hc : P.cellsOf e = 1)
    (h : DataW.Trod enc P W 0 (fun _ => true) true t (.slice a len cap) d p) :
    ∃ l : List UInt8, l.length = len ∧ len ≤ cap ∧ Bs W a l ∧ (cap = 0 ∨ ∃ elems spare : List (DataW H), d = .slice elems spare ∧ elems.length + spare.length = cap) := by
  obtain ⟨fuel, hf⟩ := h
  rcases open_ints ht he hc hf with ⟨hcs, _⟩ | ⟨x, l, c, zs, hcs, _, hl, hm, hz, hx, hcell, hwz⟩
  · simp [Value.cells] at hcs
    obtain ⟨rfl, rfl, rfl⟩ := hcs
    exact ⟨[], rfl, Nat.le_refl _, Bs.nil _ _, .inl rfl⟩
  · simp [Value.cells] at hcs
    obtain ⟨rfl, rfl, rfl⟩ := hcs
    simp only [if_true] at hz
    simp only [Prod.mk.injEq] at hx
    refine ⟨(zs.take len).map fun z => UInt8.ofNat z.toNat, by simp; omega, hl, ⟨fun _ => ⟨x, rfl, fun i hi => ?_⟩⟩, .inr ⟨_, _, hx.1, by simp [lits]; omega⟩⟩
    have hi' : i < len := by simp at hi; omega
    rw [getD_bytes zs hwz len i hi' (by omega)]
    exact hcell i (by omega)
/-- The same of a cell. -/
theorem open_bytes_cell {t e : TypeId} {fuel : Nat} {v : Value} {y : DataW H × List MemPlace} (ht : P.underlying t = some (.slice e)) (he : P.underlying e = some (.int .u8)) (hc : P.cellsOf e = 1)
    (hf : DataW.trod enc P W 0 (fun _ => true) true fuel t [v] = some y) :
    ∃ (a : Option Addr) (cap : Nat) (l : List UInt8), v = .slice a l.length cap ∧ l.length ≤ cap ∧ Bs W a l ∧ (cap = 0 ∨ ∃ elems spare : List (DataW H), y.1 = .slice elems spare ∧ elems.length + spare.length = cap) := by
  rcases open_ints ht he hc hf with ⟨hcs, _⟩ | ⟨x, len, c, zs, hcs, _, hl, hm, hz, hx, hcell, hwz⟩
  · simp at hcs
    subst hcs
    exact ⟨none, 0, [], rfl, Nat.le_refl _, Bs.nil _ _, .inl rfl⟩
  · simp at hcs
    subst hcs
    simp only [if_true] at hz
    have hll : ((zs.take len).map fun z => UInt8.ofNat z.toNat).length = len := by simp; omega
    refine ⟨some x, c, (zs.take len).map fun z => UInt8.ofNat z.toNat, by rw [hll], by omega, ⟨fun _ => ⟨x, rfl, fun i hi => ?_⟩⟩, .inr ⟨lits .u8 (zs.take len), lits .u8 (zs.drop len), by rw [hx], by simp [lits]; omega⟩⟩
    rw [getD_bytes zs hwz len i (by omega) (by omega)]
    exact hcell i (by omega)
theorem cap_le {j : Nat} {ts : List TypeId} {ds : List (DataW H)} {t e : TypeId} {d : DataW H} {cap : Nat} (hs : (DataW.weightsEach P ts ds).all (· ≤ reachBytes) = true) (ht : ts[j]? = some t) (hd : ds[j]? = some d)
    (hu : P.underlying t = some (.slice e)) (hb : P.bytesOf e = 1) (h : cap = 0 ∨ ∃ elems spare : List (DataW H), d = .slice elems spare ∧ elems.length + spare.length = cap) : cap ≤ 140737488351232 := by
  rcases h with rfl | ⟨elems, spare, rfl, h⟩
  · omega
  · have := sized_slice hs ht hd hu
    rw [hb, Nat.mul_one, h] at this
    exact this
theorem u64_of_wf {a : Int} (h : (Lit.int .u64 a).wf = true) : ∃ n : Nat, a = (n : Int) ∧ n < 18446744073709551616 := by
  simp [Lit.wf, IntKind.min, IntKind.max, IntKind.bits, IntKind.signed] at h
  exact ⟨a.toNat, by omega, by omega⟩
theorem i64_of_wf {a : Int} (h : (Lit.int .i64 a).wf = true) : -9223372036854775808 ≤ a ∧ a ≤ 9223372036854775807 := by
  simp [Lit.wf, IntKind.min, IntKind.max, IntKind.bits, IntKind.signed] at h
  omega
end
end Go.Proofs.Ytilpiclmdmnlkaa
/- Plain data for what a run holds in memory: values without addresses, how they lie in a world, what a call may leave behind. No program. -/
set_option linter.unusedVariables false
set_option linter.unusedSimpArgs false
namespace Go.Proofs.Ytilpiclmdmnlkaa
open Go.RowKit

/-- How a slice may grow: not at all; only into a new row (its room is full); it is the head of row id. -/
inductive Tag where
  | none
  | full
  | lin (id : Nat)
  deriving DecidableEq
/-- A value without addresses. -/
inductive AV where
  | any
  | s (v : Value)
  | agg (l : List AV)
  | tup (l : List AV)
  | bp (id off : Nat)
  | rp (l : List AV)
  | sl (own : Bool) (tag : Tag) (es : List (List AV))
  | fn (f : Fn) (caps : List AV)
  | ifc (t : TypeId) (v : AV)
  | mp (id : Nat)
def Tag.calm : Tag → Bool
  | .lin _ => false
  | _ => true
/-- Does it speak of no box and no growing row? -/
def AV.dat0 : AV → Bool
  | .any | .s _ | .rp _ => true
  | .sl _ t _ => t.calm
  | .fn _ caps => caps.isEmpty
  | _ => false
def AV.dat1 : AV → Bool
  | .agg l => l.all AV.dat0
  | .ifc _ (.agg l) => l.all AV.dat0
  | .ifc _ v => v.dat0
  | v => v.dat0
def AV.dat : AV → Bool
  | .tup l => l.all AV.dat1
  | v => v.dat1
def AV.cells : AV → List AV
  | .agg l => l
  | v => [v]
def oneV : Value → Bool
  | .agg _ | .tuple _ => false
  | _ => true
/-- Is it the value of one cell? -/
def AV.one : AV → Bool
  | .any | .agg _ | .tup _ => false
  | .s v => oneV v
  | _ => true

/-- A row that grows: where it is, how many elements, its room, what of. -/
structure Lin where
  A : Option Addr
  n : Nat
  cap : Nat
  e : TypeId
  sz : Nat
/-- The world at the beginning; what lies in it, no cells and no map, and stays. -/
structure Root where
  W : World
  n : Nat
  fz : Nat → Option Obj
/-- What is known of a world beside the plain data: cells that stay; the boxes' blocks; the growing rows; the world at the beginning. -/
structure Gh where
  K : Nat → Nat → Option Value
  bx : List Nat
  ln : List Lin
  w0 : Root
def Gh.base (g : Gh) : Nat := g.w0.W.heap.size

def TagOk (g : Gh) : Tag → Option Addr → Nat → Nat → Prop
  | .none, _, _, _ => True
  | .full, A, n, cap => cap = n
  | .lin id, A, n, cap => ∃ L, g.ln[id]? = some L ∧ n ≤ L.n ∧ (n = L.n → A = L.A ∧ cap = L.cap)

inductive VSim (g : Gh) : AV → Value → Prop
  | any (x : Value) : VSim g .any x
  | s (v : Value) (h1 : oneV v = true) : VSim g (.s v) v
  | agg (l : List AV) (a : Array Value) (hs : a.size = l.length) (h1 : ∀ (i : Nat) x, l[i]? = some x → x.one = true) (h : ∀ (i : Nat) x, l[i]? = some x → VSim g x (a.getD i undef)) : VSim g (.agg l) (.agg a)
  | tup (l : List AV) (a : Array Value) (hs : a.size = l.length) (h : ∀ (i : Nat) x, l[i]? = some x → VSim g x (a.getD i undef)) : VSim g (.tup l) (.tuple a)
  | bp (id off b : Nat) (hb : g.bx[id]? = some b) : VSim g (.bp id off) (.pointer (some ⟨b, off, none⟩))
  | rp (l : List AV) (b o : Nat) (vs : Nat → Value) (h1 : ∀ (i : Nat) x, l[i]? = some x → x.one = true ∧ x.dat0 = true ∧ g.K b (o + i) = some (vs i))
      (h : ∀ (i : Nat) x, l[i]? = some x → VSim g x (vs i)) : VSim g (.rp l) (.pointer (some ⟨b, o, none⟩))
  | sl (own : Bool) (tag : Tag) (es : List (List AV)) (A : Option Addr) (cap sz : Nat) (vs : Nat → Value) (hl : es.length ≤ cap) (hc : es.length ≤ 140737488355328)
      (hsz : ∀ e, e ∈ es → e.length = sz) (h1 : ∀ (j : Nat) x, es.flatten[j]? = some x → x.one = true ∧ x.dat0 = true)
      (hA : es.flatten ≠ [] → ∃ b o, A = some ⟨b, o, none⟩ ∧ (own = true → g.base ≤ b) ∧ ∀ (j : Nat) x, es.flatten[j]? = some x → g.K b (o + j) = some (vs j))
      (h : ∀ (j : Nat) x, es.flatten[j]? = some x → VSim g x (vs j))
      (htag : TagOk g tag A es.length cap) : VSim g (.sl own tag es) (.slice A es.length cap)
  | fn (f : Fn) (caps : List AV) (ca : Array Value) (hs : ca.size = caps.length) (h : ∀ (i : Nat) x, caps[i]? = some x → VSim g x (ca.getD i undef)) : VSim g (.fn f caps) (.func f #[] ca)
  | ifc (t : TypeId) (v : AV) (x : Value) (h : VSim g v x) : VSim g (.ifc t v) (.iface t x)
  | mp (id b : Nat) (hb : g.bx[id]? = some b) : VSim g (.mp id) (.map (some b))

/-- The plain store: what the boxes hold, how long the growing rows are. -/
structure AS where
  bx : List (List AV)
  ln : List (Nat × Nat × Nat)

structure Gh.le (g g' : Gh) : Prop where
  w0 : g'.w0 = g.w0
  K : ∀ b o v, g.K b o = some v → g'.K b o = some v
  bx : ∀ (i : Nat) b, g.bx[i]? = some b → g'.bx[i]? = some b
  ln : ∀ (i : Nat) L, g.ln[i]? = some L → ∃ L', g'.ln[i]? = some L' ∧ L.n ≤ L'.n ∧ (L.n = L'.n → L' = L)
theorem Gh.le.refl (g : Gh) : g.le g := ⟨rfl, fun _ _ _ h => h, fun _ _ h => h, fun i L h => ⟨L, h, Nat.le_refl _, fun _ => rfl⟩⟩
theorem Gh.le.trans {a b c : Gh} (h : a.le b) (k : b.le c) : a.le c :=
  ⟨k.w0.trans h.w0, fun x y z hz => k.K x y z (h.K x y z hz), fun i x hx => k.bx i x (h.bx i x hx), fun i L hL => by
    obtain ⟨L', h1, h2, h3⟩ := h.ln i L hL
    obtain ⟨L'', k1, k2, k3⟩ := k.ln i L' h1
    refine ⟨L'', k1, Nat.le_trans h2 k2, fun he => ?_⟩
    have e1 : L.n = L'.n := by omega
    have e2 : L'.n = L''.n := by omega
    rw [k3 e2, h3 e1]⟩
theorem VSim.mono {g g' : Gh} (h : g.le g') {v : AV} {x : Value} (hv : VSim g v x) : VSim g' v x := by
  induction hv with
  | any x => exact .any x
  | s v h1 => exact .s v h1
  | agg l a hs h1 _ ih => exact .agg l a hs h1 ih
  | tup l a hs _ ih => exact .tup l a hs ih
  | bp id off b hb => exact .bp id off b (h.bx _ _ hb)
  | rp l b o vs h1 _ ih => exact .rp l b o vs (fun i x hx => ⟨(h1 i x hx).1, (h1 i x hx).2.1, h.K _ _ _ (h1 i x hx).2.2⟩) ih
  | sl own tag es A cap sz vs hl hc hsz h1 hA _ htag ih =>
    refine .sl own tag es A cap sz vs hl hc hsz h1 (fun hn => ?_) ih ?_
    · obtain ⟨b, o, e, ho, hK⟩ := hA hn
      exact ⟨b, o, e, fun hb => by unfold Gh.base; rw [h.w0]; exact ho hb, fun j x hx => h.K _ _ _ (hK j x hx)⟩
    · cases tag with
      | none => trivial
      | full => exact htag
      | lin id =>
        obtain ⟨L, h1, h2, h3⟩ := htag
        obtain ⟨L', k1, k2, k3⟩ := h.ln id L h1
        refine ⟨L', k1, Nat.le_trans h2 k2, fun he => ?_⟩
        have e1 : es.length = L.n := by omega
        have e2 : L.n = L'.n := by omega
        rw [k3 e2]
        exact h3 e1
  | fn f caps ca hs _ ih => exact .fn f caps ca hs ih
  | ifc t v x _ ih => exact .ifc t v x ih
  | mp id b hb => exact .mp id b (h.bx _ _ hb)

/-- What speaks of no box and no growing row stays. -/
structure Gh.sub (g g' : Gh) : Prop where
  w0 : g'.w0 = g.w0
  K : ∀ b o v, g.K b o = some v → g'.K b o = some v
theorem Gh.le.sub {g g' : Gh} (h : g.le g') : g.sub g' := ⟨h.w0, h.K⟩
theorem VSim.dat0 {g g' : Gh} (h : g.sub g') {v : AV} {x : Value} (hv : VSim g v x) : v.dat0 = true → VSim g' v x := by
  induction hv with
  | any x => exact fun _ => .any x
  | s v h1 => exact fun _ => .s v h1
  | agg l a hs h1 _ ih => intro h; simp [AV.dat0] at h
  | tup l a hs _ ih => intro h; simp [AV.dat0] at h
  | bp id off b hb => intro h; simp [AV.dat0] at h
  | rp l b o vs h1 _ ih => exact fun _ => .rp l b o vs (fun i x hx => ⟨(h1 i x hx).1, (h1 i x hx).2.1, h.K _ _ _ (h1 i x hx).2.2⟩) (fun i x hx => ih i x hx (h1 i x hx).2.1)
  | sl own tag es A cap sz vs hl hc hsz h1 hA _ htag ih =>
    intro hd
    refine .sl own tag es A cap sz vs hl hc hsz h1 (fun hn => ?_) (fun j x hx => ih j x hx (h1 j x hx).2) ?_
    · obtain ⟨b, o, e, ho, hK⟩ := hA hn
      exact ⟨b, o, e, fun hb => by unfold Gh.base; rw [h.w0]; exact ho hb, fun j x hx => h.K _ _ _ (hK j x hx)⟩
    · cases tag with
      | none => trivial
      | full => exact htag
      | lin id => simp [AV.dat0, Tag.calm] at hd
  | fn f caps ca hs _ ih =>
    intro hd
    have : caps = [] := by simpa [AV.dat0] using hd
    subst this
    exact .fn f [] ca hs (fun i x hx => by simp at hx)
  | ifc t v x _ ih => intro h; simp [AV.dat0] at h
  | mp id b hb => intro h; simp [AV.dat0] at h
theorem VSim.dat1 {g g' : Gh} (h : g.sub g') {v : AV} {x : Value} (hv : VSim g v x) (hd : v.dat1 = true) : VSim g' v x := by
  cases hv with
  | agg l a hs h1 hh => exact .agg l a hs h1 (fun i x hx => (hh i x hx).dat0 h (by simp only [AV.dat1, List.all_eq_true] at hd; exact hd x (List.mem_of_getElem? hx)))
  | ifc t v x hv' =>
    refine .ifc t v x ?_
    cases v with
    | agg l =>
      cases hv' with
      | agg l a hs h1 hh => exact .agg l a hs h1 (fun i x hx => (hh i x hx).dat0 h (by simp only [AV.dat1, List.all_eq_true] at hd; exact hd x (List.mem_of_getElem? hx)))
    | _ => exact hv'.dat0 h (by simpa [AV.dat1] using hd)
  | any x => exact .any x
  | s _ h1 => exact .s _ h1
  | tup l a hs hh => simp [AV.dat1, AV.dat0] at hd
  | bp id off b hb => simp [AV.dat1, AV.dat0] at hd
  | mp id b hb => simp [AV.dat1, AV.dat0] at hd
  | rp l b o vs h1 hh => exact VSim.dat0 h (.rp l b o vs h1 hh) hd
  | sl own tag es A cap sz vs hl hc hsz h1 hA hh htag => exact VSim.dat0 h (.sl own tag es A cap sz vs hl hc hsz h1 hA hh htag) hd
  | fn f caps ca hs hh => exact VSim.dat0 h (.fn f caps ca hs hh) hd
theorem VSim.dat {g g' : Gh} (h : g.sub g') {v : AV} {x : Value} (hv : VSim g v x) (hd : v.dat = true) : VSim g' v x := by
  cases v with
  | tup l =>
    cases hv with
    | tup l a hs hh => exact .tup l a hs (fun i x hx => (hh i x hx).dat1 h (by simp only [AV.dat, List.all_eq_true] at hd; exact hd x (List.mem_of_getElem? hx)))
  | _ => exact hv.dat1 h hd

/-! ### The cells of a value -/
theorem VSim.cells_ {g : Gh} {v : AV} {x : Value} (h : VSim g v x) (hv : v ≠ .any) : x.cells.size = v.cells.length ∧ ∀ (i : Nat) y, v.cells[i]? = some y → VSim g y (x.cells.getD i undef) := by
  have one : ∀ {v : AV} {x : Value}, v.cells = [v] → x.cells = #[x] → VSim g v x → x.cells.size = v.cells.length ∧ ∀ (i : Nat) y, v.cells[i]? = some y → VSim g y (x.cells.getD i undef) := by
    intro v x h1 h2 h
    rw [h1, h2]
    refine ⟨rfl, fun i y hy => ?_⟩
    cases i with
    | zero => obtain rfl : v = y := by simpa using hy
              exact h
    | succ i => simp at hy
  cases h with
  | agg l a hs h1 hh => exact ⟨hs, hh⟩
  | any x => exact absurd rfl hv
  | s _ h1 => exact one rfl (by cases x <;> first | rfl | simp [oneV] at h1) (.s x h1)
  | tup l a hs hh => exact one rfl rfl (.tup l a hs hh)
  | bp id off b hb => exact one rfl rfl (.bp id off b hb)
  | rp l b o vs h1 hh => exact one rfl rfl (.rp l b o vs h1 hh)
  | sl own tag es A cap sz vs hl hc hsz h1 hA hh htag => exact one rfl rfl (.sl own tag es A cap sz vs hl hc hsz h1 hA hh htag)
  | fn f caps ca hs hh => exact one rfl rfl (.fn f caps ca hs hh)
  | ifc t v x hh => exact one rfl rfl (.ifc t v x hh)
  | mp id b hb => exact one rfl rfl (.mp id b hb)
theorem VSim.oneV {g : Gh} {v : AV} {x : Value} (h : VSim g v x) (h1 : v.one = true) : oneV x = true := by
  cases h <;> first | rfl | assumption | simp [AV.one] at h1

/-! ### What a value is where it hangs on no address -/
def AV.lit0 : AV → Option Value
  | .s v => some v
  | .fn f [] => some (.func f #[] #[])
  | _ => none
def AV.lits : List AV → Option (List Value)
  | [] => some []
  | v :: l => match v.lit0, AV.lits l with
    | some x, some r => some (x :: r)
    | _, _ => none
def AV.lit : AV → Option Value
  | .s v => some v
  | .agg l => (AV.lits l).map fun r => .agg r.toArray
  | .tup l => (AV.lits l).map fun r => .tuple r.toArray
  | v => v.lit0
theorem VSim.lit0 {g : Gh} {v : AV} {x y : Value} (h : VSim g v x) (hl : v.lit0 = some y) : x = y := by
  cases h with
  | s v h1 => simpa [AV.lit0] using hl
  | fn f caps ca hs hh =>
    cases caps with
    | nil =>
      have : ca = #[] := Array.eq_empty_of_size_eq_zero (by simpa using hs)
      subst this
      simpa [AV.lit0] using hl
    | cons c cs => simp [AV.lit0] at hl
  | _ => simp [AV.lit0] at hl
theorem lits_get : ∀ (l : List AV) (r : List Value), AV.lits l = some r → r.length = l.length ∧ ∀ (i : Nat) v, l[i]? = some v → ∃ y, r[i]? = some y ∧ v.lit0 = some y
  | [], r, h => by
    obtain rfl : [] = r := by simpa [AV.lits] using h
    exact ⟨rfl, fun i v hv => by simp at hv⟩
  | v :: l, r, h => by
    unfold AV.lits at h
    split at h
    · rename_i x r' hx hr
      obtain rfl := Option.some.inj h
      obtain ⟨h1, h2⟩ := lits_get l r' hr
      refine ⟨by simp [h1], fun i u hu => ?_⟩
      cases i with
      | zero => obtain rfl : v = u := by simpa using hu
                exact ⟨x, rfl, hx⟩
      | succ i => exact h2 i u (by simpa using hu)
    · cases h
theorem lits_sim {g : Gh} {l : List AV} {r : List Value} {a : Array Value} (h : AV.lits l = some r) (hs : a.size = l.length) (hh : ∀ (i : Nat) x, l[i]? = some x → VSim g x (a.getD i undef)) : a = r.toArray := by
  obtain ⟨h1, h2⟩ := lits_get l r h
  refine Array.ext (by simp [hs, h1]) (fun i hi _ => ?_)
  have hil : i < l.length := by omega
  obtain ⟨y, hy, h0⟩ := h2 i l[i] (List.getElem?_eq_getElem hil)
  have := (hh i l[i] (List.getElem?_eq_getElem hil)).lit0 h0
  have e : r[i]? = some (r[i]'(by omega)) := List.getElem?_eq_getElem (by omega)
  rw [e] at hy
  obtain rfl := Option.some.inj hy
  simp [Array.getD, hi] at this
  simpa using this
theorem VSim.lit {g : Gh} {v : AV} {x y : Value} (h : VSim g v x) (hl : v.lit = some y) : x = y := by
  cases v with
  | agg l =>
    cases h with
    | agg l a hs h1 hh =>
      simp only [AV.lit, Option.map_eq_some_iff] at hl
      obtain ⟨r, hr, rfl⟩ := hl
      rw [lits_sim hr hs hh]
  | tup l =>
    cases h with
    | tup l a hs hh =>
      simp only [AV.lit, Option.map_eq_some_iff] at hl
      obtain ⟨r, hr, rfl⟩ := hl
      rw [lits_sim hr hs hh]
  | s w => cases h; simpa [AV.lit] using hl
  | _ => exact h.lit0 hl
/-- From a literal value. -/
def AV.ofV : Value → AV
  | .agg a => if a.all oneV then .agg (a.toList.map .s) else .any
  | .tuple a => if a.all oneV then .tup (a.toList.map .s) else .any
  | .func f first captured => if first.isEmpty && captured.isEmpty then .fn f [] else .any
  | v => .s v
theorem VSim.ofV (g : Gh) (v : Value) : VSim g (AV.ofV v) v := by
  cases v with
  | agg a =>
    simp only [AV.ofV]
    split
    · rename_i ha
      rw [Array.all_eq_true] at ha
      refine .agg _ a (by simp) (fun i x hx => ?_) (fun i x hx => ?_)
      · simp only [List.getElem?_map, Option.map_eq_some_iff] at hx
        obtain ⟨y, hy, rfl⟩ := hx
        obtain ⟨hi, rfl⟩ := List.getElem?_eq_some_iff.1 hy
        simpa [AV.one] using ha i (by simpa using hi)
      · simp only [List.getElem?_map, Option.map_eq_some_iff] at hx
        obtain ⟨y, hy, rfl⟩ := hx
        obtain ⟨hi, rfl⟩ := List.getElem?_eq_some_iff.1 hy
        have hi' : i < a.size := by simpa using hi
        have e : a.getD i undef = a[i] := by simp [Array.getD, hi']
        rw [e, Array.getElem_toList]
        exact .s _ (ha i hi')
    · exact .any _
  | tuple a =>
    simp only [AV.ofV]
    split
    · rename_i ha
      rw [Array.all_eq_true] at ha
      refine .tup _ a (by simp) (fun i x hx => ?_)
      simp only [List.getElem?_map, Option.map_eq_some_iff] at hx
      obtain ⟨y, hy, rfl⟩ := hx
      obtain ⟨hi, rfl⟩ := List.getElem?_eq_some_iff.1 hy
      have hi' : i < a.size := by simpa using hi
      have e : a.getD i undef = a[i] := by simp [Array.getD, hi']
      rw [e, Array.getElem_toList]
      exact .s _ (ha i hi')
    · exact .any _
  | func f first captured =>
    simp only [AV.ofV]
    split
    · rename_i hb
      simp only [Bool.and_eq_true, Array.isEmpty_iff] at hb
      obtain ⟨rfl, rfl⟩ := hb
      exact .fn f [] #[] rfl (fun i x hx => by simp at hx)
    · exact .any _
  | _ => exact .s _ rfl
end Go.Proofs.Ytilpiclmdmnlkaa
/- What every world holds that the law is called in: nothing is asked. -/
set_option linter.unusedVariables false
namespace Go.Proofs.Ytilpiclmdmnlkaa
open Go.RowKit
/-- What every world holds. -/
def WorldOk (w : World) : Prop := True
theorem WorldOk.kept {w w' : World} (h : WorldOk w) (hk : Kept w w') : WorldOk w' := trivial
end Go.Proofs.Ytilpiclmdmnlkaa
