/- More words for memory. -/
import Derived.Test.YtddmhilamoghcaaDoorBase
set_option linter.unusedVariables false
set_option linter.unusedSimpArgs false
namespace Go.Proofs.YtddmhilamoghcaaDoor
open Go.RowKit

theorem Bs.new' (w : World) (l : List UInt8) (e : TypeId) (fr : Nat × Nat) (cs : Array Value) (g : Nat) (h : cs.toList = cellsB l) (hg : g = w.heap.size) : Bs (w.alloc (.cells cs e fr)) (some ⟨g, 0, none⟩) l := by
  subst hg
  exact Bs.new w l e fr cs h

theorem own_cap {w : World} {base n c : Nat} {e : TypeId} {size : Nat} {A : Option Addr} {xs : List Value} (h : w.ownsRow base e size (.slice A n c) n xs) : n ≤ c := by
  rcases h.2 with ⟨h1, h2⟩ | ⟨g, cap, cur, h1, _, _, h2, _⟩
  · injection h1; omega
  · injection h1; omega

/-- append onto an empty row of the call's own. -/
theorem wpList_app0 {P : Program} {w : World} {ops : Array Oper} {rest : List Oper} {o : Oper} {a : Act} {Q : Exit → Act → World → Prop} (hgd : o.guard = none) (s x : Operand) (t : TypeId)
    (ho : o.op = .call { callee := .builtin .append, args := #[s, x], argTypes := #[t, t] })
    {e : TypeId} {size bytes : Nat} (R : RowT P t e size bytes) (base : Nat) {A : Option Addr} {c : Nat}
    (hs : a.eval s = .slice A 0 c) (hown : w.ownsRow base e size (.slice A 0 c) 0 []) {B : Option Addr} {m d : Nat} (news : List Value) (hx : a.eval x = .slice B m d) (hr : Src w size B m news)
    (h63 : m ≤ maxLen) (hbytes : m * bytes ≤ 140737488355328) (hbase : base ≤ w.heap.size)
    (h : ∀ A' c' w', w'.ownsRow base e size (.slice A' m c') m news → w.grownBy w' (Value.slice A 0 c).ownBlock →
      ((Value.slice A' m c').ownBlock = (Value.slice A 0 c).ownBlock ∨ (Value.slice A' m c').ownBlock = some w.heap.size) → wpList P ops Q rest (a.put o.dst (.slice A' m c')) w') : wpList P ops Q (o :: rest) a w := by
  refine wpList_app hgd s x t ho R base [] hs hown news hx hr (by omega) (by rw [Nat.zero_add]; exact hbytes) hbase ?_
  intro A' c' w' h1 h2 h3
  simp only [Nat.zero_add, List.nil_append] at h1 h2 h3 ⊢
  exact h A' c' w' h1 h2 h3

/-- What another row's growth leaves. -/
theorem Bs.grown {w w' : World} {A : Option Addr} {l : List UInt8} {row : Option Nat} (h : Bs w A l) (hg : w.grownBy w' row) (hne : ∀ ad, A = some ad → row ≠ some ad.block) : Bs w' A l :=
  ⟨fun hn => by
    obtain ⟨ad, e, hc⟩ := h.at_ hn
    refine ⟨ad, e, fun i hi => ?_⟩
    have h1 := hc i hi
    have hlt := World.block_lt_of_cell? w _ h1
    rw [World.cell?_of_block (hg.block (ad.add i).block hlt (fun he => hne ad e (by rw [← he, add_block])))]
    exact h1⟩
theorem Bs.pre {w : World} {A : Option Addr} {l : List UInt8} (h : Bs w A l) (k : Nat) : Bs w A (l.take k) := by
  refine ⟨fun hn => ?_⟩
  have hl : (l.take k).length = min k l.length := by simp
  obtain ⟨ad, e, hc⟩ := h.at_ (by omega)
  refine ⟨ad, e, fun i hi => ?_⟩
  rw [hc i (by omega)]
  simp [List.getD_eq_getElem?_getD, show i < k by omega]
end Go.Proofs.YtddmhilamoghcaaDoor
