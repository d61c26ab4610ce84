/- A region that draws its order, walked in ONE order of the prover's choice: an operation either yields its value whatever the world ('free': and then it may be taken at once), or is the only one that may come up ('forced'). -/
import Derived.WalkKit
import Derived.Still
import Derived.RegionTactic
set_option linter.unusedVariables false
namespace Go.Proofs.YtddmhilamoghcaaDoor
open Go.RowKit

/-- At the end G; no other way out. -/
def onNormal (G : Act → World → Prop) : Exit → Act → World → Prop
  | .normal, a, w => G a w
  | _, _, _ => False
theorem wp_good {P : Program} {c : Code} {a : Act} {w : World} {Q : Exit → Act → World → Prop} (G : Act → World → Prop) (h : ∀ G' : Act → World → Prop, (∀ a w, G a w → G' a w) → c.wp P (onNormal G') a w) (hq : ∀ a w, G a w → Q .normal a w) : c.wp P Q a w :=
  wp_mono (h G fun _ _ h => h) fun e a w he => by
    cases e with
    | normal => exact hq a w he
    | _ => exact he.elim

section
variable {P : Program} {ops : Array Oper} {Q : Exit → Act → World → Prop} {md : Region.Mode} {G : Act → World → Prop}

/-- The walk in the order that is listed: (number, free?). -/
def wpOrd (P : Program) (ops : Array Oper) (Q : Exit → Act → World → Prop) : List (Nat × Bool) → Act → World → Prop
  | [], a, w => Q .normal a w
  | (i, false) :: r, a, w => wpOp P ops Q i (wpOrd P ops Q r) a w
  | (i, true) :: r, a, w => ∃ o v, ops[i]? = some o ∧ Yields P ops o v a ∧ wpOrd P ops Q r (a.put o.dst v) w

/-- Is the order that is listed one that serves? -/
def ordB (md : Region.Mode) (ops : Array Oper) : List (Nat × Bool) → Array Bool → Bool
  | [], listed => Region.ready md ops listed == []
  | (i, true) :: r, listed => Region.free md ops listed i && (Region.ready md ops listed).contains i && ordB md ops r (listed.setIfInBounds i true)
  | (i, false) :: r, listed => Region.ready md ops listed == [i] && ordB md ops r (listed.setIfInBounds i true)

theorem wpAny_of_ord (hs : Region.noSelect ops = true) : ∀ (l : List (Nat × Bool)) (listed : Array Bool) (a : Act) (w : World), ordB md ops l listed = true → wpOrd P ops (onNormal G) l a w → wpAny P md ops (onNormal G) l.length listed a w
  | [], listed, a, w, hB, h => ⟨by simpa [ordB] using hB, h⟩
  | (i, true) :: r, listed, a, w, hB, h => by
    simp only [ordB, Bool.and_eq_true] at hB
    obtain ⟨o, v, ho, hy, hr⟩ := h
    exact wpAny_take ho hs hB.1.1 hB.1.2 (fun _ _ _ h => h) hy (wpAny_of_ord hs r _ _ _ hB.2 hr)
  | (i, false) :: r, listed, a, w, hB, h => by
    simp only [ordB, Bool.and_eq_true, beq_iff_eq] at hB
    refine wpAny_all hB.1 (by simp) (fun j hj => ?_)
    obtain rfl : j = i := by simpa using hj
    exact wpOp_mono (fun a w => wpAny_of_ord hs r _ a w hB.2) h

/-- The region, by an order that serves. -/
theorem wp_region_ord {id : Nat} {a : Act} {w : World} {l : List Oper} (order : List (Nat × Bool)) (hm : P.follows .mixedOrders = true)
    (hB : (Region.noSelect l.toArray && order.length == l.toArray.size && ordB .any l.toArray order (Array.replicate l.toArray.size false)) = true)
    (h : wpOrd P l.toArray (onNormal G) order a w.drew) : (Code.region id l.toArray true).wp P (onNormal G) a w := by
  simp only [Bool.and_eq_true, beq_iff_eq] at hB
  refine wp_region_any hm ?_
  have := wpAny_of_ord (P := P) (G := G) hB.1.1 order _ a w.drew hB.2 h
  rw [hB.1.2] at this
  exact this

theorem wpOrd_nil {a : Act} {w : World} (h : G a w) : wpOrd P ops (onNormal G) [] a w := h
/-- A forced one: as in a list of operations. -/
theorem wpOrd_forced {i : Nat} {o : Oper} {r : List (Nat × Bool)} {a : Act} {w : World} (ho : ops[i]? = some o)
    (h : ∀ K : Act → World → Prop, (∀ a w, wpOrd P ops Q r a w → K a w) → if Region.wanted o (yielded ops a.tmps) = true then Oper.wp P o a w K Q else K (a.put o.dst undef) w) : wpOrd P ops Q ((i, false) :: r) a w := by
  have := h _ (fun _ _ h => h)
  show wpOp P ops Q i (wpOrd P ops Q r) a w
  unfold wpOp
  simp only [ho]
  split
  · rename_i hw; rw [if_pos hw] at this; exact .inl this
  · rename_i hw; rw [if_neg hw] at this; exact this
/-- A free one: its value, whatever the world. -/
theorem wpOrd_free {i : Nat} {o : Oper} {r : List (Nat × Bool)} {a : Act} {w : World} (ho : ops[i]? = some o)
    (h : ∀ K : Act → World → Prop, (∀ a w, wpOrd P ops Q r a w → K a w) → if Region.wanted o (yielded ops a.tmps) = true then (∃ v, (∀ w, (execOp a.eval o).run P w = .ok (.value v) w) ∧ K (a.put o.dst v) w) else K (a.put o.dst undef) w) : wpOrd P ops Q ((i, true) :: r) a w := by
  have := h _ (fun _ _ h => h)
  by_cases hw : Region.wanted o (yielded ops a.tmps) = true
  · rw [if_pos hw] at this
    obtain ⟨v, h1, h2⟩ := this
    exact ⟨o, v, ho, .inl ⟨hw, h1⟩, h2⟩
  · rw [if_neg hw] at this
    exact ⟨o, undef, ho, .inr ⟨by simpa using hw, rfl⟩, this⟩
end
end Go.Proofs.YtddmhilamoghcaaDoor
