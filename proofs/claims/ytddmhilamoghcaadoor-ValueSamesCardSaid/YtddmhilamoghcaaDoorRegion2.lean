/- A region that draws its order, walked in one order of the prover's choice, its loads read in a CLASS of worlds: an operation is 'free' if it yields one value in every world of the class; each other one is the only one that may come up, and leaves a world of the class unless it waits for all the free ones ('late'). -/
import Derived.Test.YtddmhilamoghcaaDoorRegion
set_option linter.unusedVariables false
namespace Go.Proofs.YtddmhilamoghcaaDoor
open Go.RowKit

/-- A region that ends as it should: what stands behind it is a variable's while it is walked. -/
theorem wp_normal {P : Program} {c : Code} {a : Act} {w : World} {Q : Exit → Act → World → Prop} (h : ∀ G : Act → World → Prop, (∀ a w, Q .normal a w → G a w) → c.wp P (onNormal G) a w) : c.wp P Q a w :=
  wp_mono (h _ fun _ _ h => h) fun e a w he => by
    cases e with
    | normal => exact he
    | _ => exact he.elim

section
variable {P : Program} {ops : Array Oper} {md : Region.Mode} {G : Act → World → Prop} {C : World → Prop} {late : List Nat}

/-- In every world of the class. -/
def YieldsC (P : Program) (ops : Array Oper) (C : World → Prop) (o : Oper) (v : Value) (a : Act) : Prop :=
  (Region.wanted o (yielded ops a.tmps) = true ∧ ∀ w, C w → (execOp a.eval o).run P w = .ok (.value v) w) ∨
  (Region.wanted o (yielded ops a.tmps) = false ∧ v = undef)
theorem YieldsC.of_same {o : Oper} {v : Value} {a a' : Act} (hy : YieldsC P ops C o v a) (he : execOp a'.eval o = execOp a.eval o)
    (hw : Region.wanted o (yielded ops a'.tmps) = Region.wanted o (yielded ops a.tmps)) : YieldsC P ops C o v a' := by
  unfold YieldsC at *
  rw [he, hw]
  exact hy
theorem YieldsC.wpOp {i : Nat} {o : Oper} {v : Value} {a : Act} {Q : Exit → Act → World → Prop} (hi : ops[i]? = some o) (hy : YieldsC P ops C o v a)
    {K : Act → World → Prop} {w : World} (hC : C w) (h : K (a.put o.dst v) w) : wpOp P ops Q i K a w := by
  unfold Go.wpOp
  simp only [hi]
  rcases hy with ⟨hw, hv⟩ | ⟨hw, rfl⟩
  · simp only [hw, if_true, Oper.wp, hv w hC, Oper.upon]; exact .inl h
  · simp only [hw, Bool.false_eq_true, if_false]; exact h
theorem YieldsC.put {j : Nat} {oi oj : Oper} {v : Value} (hj : ops[j]? = some oj) (hap : oi.apart ops oj = true)
    (hsi : ∀ cs b, oi.op ≠ .select cs b) (hsj : ∀ cs b, oj.op ≠ .select cs b) {K : Act → World → Prop} {a : Act} {w : World}
    (hy : YieldsC P ops C oi v a) (h : Go.wpOp P ops (onNormal G) j K (a.put oi.dst v) w) :
    Go.wpOp P ops (onNormal G) j (fun a' w' => YieldsC P ops C oi v a' ∧ K (a'.put oi.dst v) w') a w := by
  obtain ⟨h1, h2, h3⟩ := Oper.apart_spec hap
  have keep : ∀ (a : Act), YieldsC P ops C oi v a → ∀ u, YieldsC P ops C oi v (a.put oj.dst u) := fun a hy u =>
    hy.of_same (execOp_put oi hsi a oj.dst u h3) (wanted_put oi a oj.dst u h3)
  have keepD : ∀ d, YieldsC P ops C oi v { a with defers := d :: a.defers } := fun d => hy.of_same rfl rfl
  unfold Go.wpOp at *
  simp only [hj] at *
  rw [wanted_put oj a oi.dst v h1] at h
  split
  · rename_i hw
    simp only [hw, if_true] at h
    rcases h with h | ⟨hasks, hlets⟩
    case inr => exact .inr ⟨by unfold Oper.asks at *; rw [execOp_put oj hsj a oi.dst v h1] at hasks; exact hasks, hlets⟩
    refine .inl ?_
    unfold Oper.wp at *
    rw [execOp_put oj hsj a oi.dst v h1] at h
    generalize (execOp a.eval oj).run P w = r at *
    cases r with
    | ok n w' =>
      cases n <;> simp only [Oper.upon] at h ⊢
      case value u => exact ⟨keep a hy u, by rw [← Act.put_comm a v u h2]; exact h⟩
      case skip => exact ⟨keep a hy _, by rw [← Act.put_comm a v undef h2]; exact h⟩
      case defer d =>
        refine ⟨keep _ (keepD d) _, ?_⟩
        rw [← Act.put_comm _ v undef h2, ← Act.put_defers]
        exact h
      case enter f args =>
        refine Calls.mono h fun e w'' he => ?_
        cases e with
        | returned u => exact ⟨keep a hy u, by rw [← Act.put_comm a v u h2]; exact he⟩
        | panicked c => exact he
        | outgrown => exact he
      case row row args => exact Rows.mono h fun u w'' he => ⟨keep a hy u, by rw [← Act.put_comm a v u h2]; exact he⟩
    | halt x w' =>
      cases x <;> simp only [Oper.upon] at h ⊢
      case panic u => exact h
  · rename_i hw
    simp only [hw] at h
    exact ⟨keep a hy _, by rw [← Act.put_comm a v undef h2]; exact h⟩

/-- Whatever order is picked; behind each operation that is not late the world is one of the class. -/
def wpAnyD (P : Program) (md : Region.Mode) (ops : Array Oper) (C : World → Prop) (late : List Nat) (Q : Exit → Act → World → Prop) : Nat → Array Bool → Act → World → Prop
  | 0, listed, a, w => Region.ready md ops listed = [] ∧ Q .normal a w
  | fuel + 1, listed, a, w =>
    (Region.ready md ops listed = [] → Q .normal a w) ∧
    ∀ i ∈ Region.ready md ops listed, wpOp P ops Q i (fun a' w' => (i ∉ late → C w') ∧ wpAnyD P md ops C late Q fuel (listed.setIfInBounds i true) a' w') a w
theorem wpAnyD.any {Q : Exit → Act → World → Prop} : ∀ (fuel : Nat) (listed : Array Bool) (a : Act) (w : World), wpAnyD P md ops C late Q fuel listed a w → wpAny P md ops Q fuel listed a w
  | 0, _, _, _, h => h
  | fuel + 1, _, _, _, h => ⟨h.1, fun i hi => wpOp_mono (fun a w h2 => wpAnyD.any fuel _ a w h2.2) (h.2 i hi)⟩

/-- What is listed waits for nothing that is not. -/
def Closed (md : Region.Mode) (ops : Array Oper) (listed : Array Bool) : Prop := ∀ (j : Nat) (o : Oper), listed.getD j false = true → ops[j]? = some o → ∀ e ∈ o.after, Region.binds md e = true → listed.getD e.on false = true
theorem Closed.set {listed : Array Bool} {i : Nat} (h : Closed md ops listed) (hi : i ∈ Region.ready md ops listed) : Closed md ops (listed.setIfInBounds i true) := by
  intro j o hj ho e he hb
  refine getD_set_true ?_
  by_cases hij : i = j
  · subst hij
    obtain ⟨_, o', ho', hall⟩ := mem_ready.1 hi
    rw [ho] at ho'
    obtain rfl := Option.some.inj ho'
    exact hall e he hb
  · rw [getD_set_ne false hij] at hj
    exact h j o hj ho e he hb

/-- Does operation t wait for operation i? -/
def waitsB (md : Region.Mode) (ops : Array Oper) (i : Nat) : Nat → Nat → Bool
  | 0, _ => false
  | f + 1, t => match ops[t]? with
    | none => false
    | some o => o.after.any fun e => Region.binds md e && (e.on == i || waitsB md ops i f e.on)
theorem waits_listed {listed : Array Bool} (hc : Closed md ops listed) {i : Nat} : ∀ (f t : Nat), waitsB md ops i f t = true → listed.getD t false = true → listed.getD i false = true
  | 0, _, h, _ => by simp [waitsB] at h
  | f + 1, t, h, ht => by
    unfold waitsB at h
    split at h
    · cases h
    · rename_i o ho
      obtain ⟨e, he, hb⟩ := Array.any_eq_true'.1 h
      simp only [Bool.and_eq_true, Bool.or_eq_true, beq_iff_eq] at hb
      have h1 := hc t o ht ho e he hb.1
      rcases hb.2 with h2 | h2
      · rw [h2] at h1; exact h1
      · exact waits_listed hc f e.on h2 h1
theorem waits_ready {listed : Array Bool} (hc : Closed md ops listed) {i f t : Nat} (h : waitsB md ops i f t = true) (ht : t ∈ Region.ready md ops listed) : listed.getD i false = true := by
  cases f with
  | zero => simp [waitsB] at h
  | succ f =>
    obtain ⟨_, o, ho, hall⟩ := mem_ready.1 ht
    unfold waitsB at h
    rw [ho] at h
    obtain ⟨e, he, hb⟩ := Array.any_eq_true'.1 h
    simp only [Bool.and_eq_true, Bool.or_eq_true, beq_iff_eq] at hb
    have h1 := hall e he hb.1
    rcases hb.2 with h2 | h2
    · rw [h2] at h1; exact h1
    · exact waits_listed hc f e.on h2 h1
theorem ready_not_listed {listed : Array Bool} {i : Nat} (h : i ∈ Region.ready md ops listed) : listed.getD i false = false := by
  have h0 := (mem_ready.1 h).1
  rcases Nat.lt_or_ge i listed.size with h' | h'
  · simp [h'] at h0 ⊢; exact h0
  · simp [Array.getElem?_eq_none h']

theorem wpAnyD_first {i f : Nat} {oi : Oper} {v : Value} (hi : ops[i]? = some oi) (hsel : ∀ (j : Nat) (o : Oper) cs b, ops[j]? = some o → o.op ≠ .select cs b) (hl : ∀ t ∈ late, waitsB md ops i f t = true) :
    ∀ (fuel : Nat) (listed : Array Bool) (a : Act) (w : World), C w → Closed md ops listed →
      (∀ j oj, ops[j]? = some oj → j ≠ i → listed.getD j true = false → (∀ e ∈ oj.after, Region.binds md e = true → e.on ≠ i) → oi.apart ops oj = true) →
      i ∈ Region.ready md ops listed → YieldsC P ops C oi v a →
      wpAnyD P md ops C late (onNormal G) fuel (listed.setIfInBounds i true) (a.put oi.dst v) w → wpAnyD P md ops C late (onNormal G) (fuel + 1) listed a w := by
  intro fuel
  induction fuel with
  | zero =>
    intro listed a w hC hcl _ hr hy H
    refine ⟨fun h => (by rw [h] at hr; cases hr), fun j hj => ?_⟩
    by_cases hji : j = i
    · subst hji; exact hy.wpOp hi hC ⟨fun _ => hC, H⟩
    · have := ready_mono hj hji
      rw [H.1] at this
      cases this
  | succ fuel ih =>
    intro listed a w hC hcl hfree hr hy H
    refine ⟨fun h => (by rw [h] at hr; cases hr), fun j hj => ?_⟩
    by_cases hji : j = i
    · subst hji; exact hy.wpOp hi hC ⟨fun _ => hC, H⟩
    · have h1 := H.2 j (ready_mono hj hji)
      obtain ⟨hjun, oj, hoj, hall⟩ := mem_ready.1 hj
      have hnot : ∀ e ∈ oj.after, Region.binds md e = true → e.on ≠ i := fun e he hb heq => by
        have h1 := hall e he hb
        rw [heq, ready_not_listed hr] at h1
        cases h1
      have hjl : j ∉ late := fun hm => by
        have := waits_ready hcl (hl j hm) hj
        rw [ready_not_listed hr] at this
        cases this
      have h2 := YieldsC.put hoj (hfree j oj hoj hji hjun hnot) (fun cs b => hsel i oi cs b hi) (fun cs b => hsel j oj cs b hoj) hy h1
      have hfree' : ∀ k ok, ops[k]? = some ok → k ≠ i → (listed.setIfInBounds j true).getD k true = false →
          (∀ e ∈ ok.after, Region.binds md e = true → e.on ≠ i) → oi.apart ops ok = true := fun k ok hk hki hun hno => by
        refine hfree k ok hk hki ?_ hno
        by_cases hjk : j = k
        · subst hjk; exact hjun
        · rw [getD_set_ne true hjk] at hun; exact hun
      refine wpOp_mono (fun a' w' h3 => ?_) h2
      have hC' := h3.2.1 hjl
      refine ⟨fun _ => hC', ih (listed.setIfInBounds j true) a' w' hC' (hcl.set hj) hfree' (ready_mono hr (Ne.symm hji)) h3.1 ?_⟩
      rw [Array.setIfInBounds_comm _ _ hji]
      exact h3.2.2

/-- The walk in the order that is listed: (number, free?). -/
def wpOrdC (P : Program) (ops : Array Oper) (C : World → Prop) (late : List Nat) (Q : Exit → Act → World → Prop) : List (Nat × Bool) → Act → World → Prop
  | [], a, w => Q .normal a w
  | (i, false) :: r, a, w => wpOp P ops Q i (fun a' w' => (i ∉ late → C w') ∧ ((i ∉ late → C w') → wpOrdC P ops C late Q r a' w')) a w
  | (i, true) :: r, a, w => C w ∧ ∃ o v, ops[i]? = some o ∧ YieldsC P ops C o v a ∧ wpOrdC P ops C late Q r (a.put o.dst v) w

/-- Does the order serve? -/
def ordC (md : Region.Mode) (ops : Array Oper) (late : List Nat) : List (Nat × Bool) → Array Bool → Bool
  | [], listed => Region.ready md ops listed == []
  | (i, true) :: r, listed => Region.free md ops listed i && (Region.ready md ops listed).contains i && late.all (waitsB md ops i ops.size) && ordC md ops late r (listed.setIfInBounds i true)
  | (i, false) :: r, listed => Region.ready md ops listed == [i] && ordC md ops late r (listed.setIfInBounds i true)

theorem wpAnyD_of_ord (hs : Region.noSelect ops = true) : ∀ (l : List (Nat × Bool)) (listed : Array Bool) (a : Act) (w : World), Closed md ops listed → ordC md ops late l listed = true → wpOrdC P ops C late (onNormal G) l a w →
    wpAnyD P md ops C late (onNormal G) l.length listed a w
  | [], listed, a, w, _, hB, h => ⟨by simpa [ordC] using hB, h⟩
  | (i, true) :: r, listed, a, w, hcl, hB, h => by
    simp only [ordC, Bool.and_eq_true] at hB
    obtain ⟨⟨⟨hf, hr⟩, hl⟩, hB⟩ := hB
    obtain ⟨hC, o, v, ho, hy, hrest⟩ := h
    have hr' : i ∈ Region.ready md ops listed := by simpa using hr
    exact wpAnyD_first ho (Region.noSelect_spec hs) (by simpa using hl) r.length listed a w hC hcl (Region.free_spec ho hf) hr' hy (wpAnyD_of_ord hs r _ _ _ (hcl.set hr') hB hrest)
  | (i, false) :: r, listed, a, w, hcl, hB, h => by
    simp only [ordC, Bool.and_eq_true, beq_iff_eq] at hB
    have hi : i ∈ Region.ready md ops listed := by rw [hB.1]; simp
    refine ⟨fun h0 => (by rw [h0] at hi; cases hi), fun j hj => ?_⟩
    obtain rfl : j = i := by rw [hB.1] at hj; simpa using hj
    exact wpOp_mono (fun a' w' h2 => ⟨h2.1, wpAnyD_of_ord hs r _ a' w' (hcl.set hi) hB.2 (h2.2 h2.1)⟩) h

theorem closed_none (n : Nat) : Closed md ops (Array.replicate n false) := by
  intro j o hj
  rw [Array.getD_eq_getD_getElem?, Array.getElem?_replicate] at hj
  split at hj <;> simp at hj

/-- The region. -/
theorem wp_region_ordC {id : Nat} {a : Act} {w : World} {l : List Oper} (C : World → Prop) (late : List Nat) (order : List (Nat × Bool)) (hm : P.follows .mixedOrders = true)
    (hB : (Region.noSelect l.toArray && order.length == l.toArray.size && ordC .any l.toArray late order (Array.replicate l.toArray.size false)) = true)
    (h : wpOrdC P l.toArray C late (onNormal G) order a w.drew) : (Code.region id l.toArray true).wp P (onNormal G) a w := by
  simp only [Bool.and_eq_true, beq_iff_eq] at hB
  refine wp_region_any hm ?_
  have := wpAnyD.any _ _ _ _ (wpAnyD_of_ord (P := P) (G := G) (C := C) hB.1.1 order _ a w.drew (closed_none _) hB.2 h)
  rw [hB.1.2] at this
  exact this

theorem wpOrdC_nil {a : Act} {w : World} (h : G a w) : wpOrdC P ops C late (onNormal G) [] a w := h
/-- One that is alone: behind it the class, or it is late. -/
theorem wpOrdC_forced {i : Nat} {o : Oper} {r : List (Nat × Bool)} {a : Act} {w : World} {Q : Exit → Act → World → Prop} (ho : ops[i]? = some o)
    (h : ∀ K : Act → World → Prop, (∀ a w, (i ∉ late → C w) → wpOrdC P ops C late Q r a w → K a w) → if Region.wanted o (yielded ops a.tmps) = true then Oper.wp P o a w K Q else K (a.put o.dst undef) w) : wpOrdC P ops C late Q ((i, false) :: r) a w := by
  have := h (fun a' w' => (i ∉ late → C w') ∧ ((i ∉ late → C w') → wpOrdC P ops C late Q r a' w')) (fun a w hC h => ⟨hC, fun _ => h⟩)
  show wpOp P ops Q i _ a w
  unfold wpOp
  simp only [ho]
  split
  · rename_i hw; rw [if_pos hw] at this; exact .inl this
  · rename_i hw; rw [if_neg hw] at this; exact this
/-- A free one: its value in every world of the class. -/
theorem wpOrdC_free {i : Nat} {o : Oper} {r : List (Nat × Bool)} {a : Act} {w : World} {Q : Exit → Act → World → Prop} (ho : ops[i]? = some o) (hC : C w)
    (h : ∀ K : Act → World → Prop, (∀ a w, wpOrdC P ops C late Q r a w → K a w) → if Region.wanted o (yielded ops a.tmps) = true then (∃ v, (∀ w, C w → (execOp a.eval o).run P w = .ok (.value v) w) ∧ K (a.put o.dst v) w) else K (a.put o.dst undef) w) : wpOrdC P ops C late Q ((i, true) :: r) a w := by
  have := h _ (fun _ _ h => h)
  by_cases hw : Region.wanted o (yielded ops a.tmps) = true
  · rw [if_pos hw] at this
    obtain ⟨v, h1, h2⟩ := this
    exact ⟨hC, o, v, ho, .inl ⟨hw, h1⟩, h2⟩
  · rw [if_neg hw] at this
    exact ⟨hC, o, undef, ho, .inr ⟨by simpa using hw, rfl⟩, this⟩
end
end Go.Proofs.YtddmhilamoghcaaDoor
