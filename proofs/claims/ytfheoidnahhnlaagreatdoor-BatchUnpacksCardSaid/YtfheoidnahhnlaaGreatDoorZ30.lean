/- Merged: AvmT, AvmP. -/
import Derived.Test.YtfheoidnahhnlaaGreatDoorZ29
set_option linter.unusedVariables false
set_option linter.unusedSimpArgs false
namespace Go.Proofs.YtfheoidnahhnlaaGreatDoor
open Go.RowKit
section order
variable {P : Program} {md : Region.Mode} {ops : Array Oper} {X : AV → AS → Prop} {T : Array Bool → AFr → AS → Prop} {S : AS → Prop} {late : List Nat}
def aAnyT (P : Program) (md : Region.Mode) (ops : Array Oper) (X : AV → AS → Prop) (T : Array Bool → AFr → AS → Prop) (S : AS → Prop) (late : List Nat) : Nat → Array Bool → AFr → AS → Prop
  | 0, listed, fr, st => (∀ j, listed.getD j true = false → j ∈ late) ∧ T listed fr st
  | fuel + 1, listed, fr, st =>
    (Region.ready md ops listed ≠ []) ∧
    ∀ i ∈ Region.ready md ops listed, aopX P ops X i (fun fr' st' => (i ∉ late → S st') ∧ aAnyT P md ops X T S late fuel (listed.setIfInBounds i true) fr' st') fr st
def FineT (T : Array Bool → AFr → AS → Prop) : Prop := ∀ l fr fr' st, FEq fr fr' → T l fr st → T l fr' st
theorem aAnyT_fine (hT : FineT T) : ∀ (fuel : Nat) (listed : Array Bool), Fine (aAnyT P md ops X T S late fuel listed)
  | 0, listed, fr, fr', st, he, h => ⟨h.1, hT _ _ _ _ he h.2⟩
  | fuel + 1, listed, fr, fr', st, he, h => ⟨h.1, fun i hi => aopX_fine (fun a b s hab hk => ⟨hk.1, aAnyT_fine hT fuel _ a b s hab hk.2⟩) _ _ _ he (h.2 i hi)⟩
theorem aAnyT_first (hT : FineT T) {i f : Nat} {oi : Oper} {v : AV} (hi : ops[i]? = some oi) (hl : ∀ t ∈ late, waitsB md ops i f t = true) :
    ∀ (fuel : Nat) (listed : Array Bool) (fr : AFr) (st : AS), S st → Closed md ops listed →
      (∀ j oj, ops[j]? = some oj → j ≠ i → listed.getD j true = false → (∀ e ∈ oj.after, Region.binds md e = true → e.on ≠ i) → oi.apart ops oj = true) →
      i ∈ Region.ready md ops listed → AYields P ops S oi v fr →
      aAnyT P md ops X T S late fuel (listed.setIfInBounds i true) (fr.put oi.dst v) st → aAnyT P md ops X T S late (fuel + 1) listed fr st := by
  intro fuel
  induction fuel with
  | zero =>
    intro listed fr st hS hcl _ hr hy H
    refine ⟨fun h => (by rw [h] at hr; cases hr), fun j hj => ?_⟩
    by_cases hji : j = i
    · subst hji; exact hy.toOp hi hS ⟨fun _ => hS, H⟩
    · obtain ⟨hjun, _⟩ := mem_ready.1 hj
      have hm : j ∈ late := H.1 j (by rw [getD_set_ne true (Ne.symm hji)]; exact hjun)
      have := waits_ready hcl (hl j hm) hj
      rw [ready_not_listed hr] at this
      cases this
  | succ fuel ih =>
    intro listed fr st hS hcl hfree hr hy H
    refine ⟨fun h => (by rw [h] at hr; cases hr), fun j hj => ?_⟩
    by_cases hji : j = i
    · subst hji; exact hy.toOp hi hS ⟨fun _ => hS, H⟩
    · have h1 := H.2 j (ready_mono hj hji)
      obtain ⟨hjun, oj, hoj, hall⟩ := mem_ready.1 hj
      have hnot : ∀ e ∈ oj.after, Region.binds md e = true → e.on ≠ i := fun e he hb heq => by
        have h1 := hall e he hb
        rw [heq, ready_not_listed hr] at h1
        cases h1
      have hjl : j ∉ late := fun hm => by
        have := waits_ready hcl (hl j hm) hj
        rw [ready_not_listed hr] at this
        cases this
      have hfine : Fine (fun fr' st' => (j ∉ late → S st') ∧ aAnyT P md ops X T S late fuel ((listed.setIfInBounds i true).setIfInBounds j true) fr' st') :=
        fun a b s hab hk => ⟨hk.1, aAnyT_fine hT fuel _ a b s hab hk.2⟩
      have h2 := AYields.put hoj (hfree j oj hoj hji hjun hnot) hfine hy h1
      have hfree' : ∀ k ok, ops[k]? = some ok → k ≠ i → (listed.setIfInBounds j true).getD k true = false →
          (∀ e ∈ ok.after, Region.binds md e = true → e.on ≠ i) → oi.apart ops ok = true := fun k ok hk hki hun hno => by
        refine hfree k ok hk hki ?_ hno
        by_cases hjk : j = k
        · subst hjk; exact hjun
        · rw [getD_set_ne true hjk] at hun; exact hun
      refine aopX_mono (fun fr' st' h3 => ?_) h2
      have hs := h3.2.1 hjl
      have h4 := h3.2.2
      refine ⟨fun _ => hs, ?_⟩
      refine ih (listed.setIfInBounds j true) fr' st' hs (hcl.set hj) hfree' (ready_mono hr (Ne.symm hji)) h3.1 ?_
      rw [Array.setIfInBounds_comm _ _ hji]
      exact h4
def doneBy : List (Nat × Bool) → Array Bool → Array Bool
  | [], listed => listed
  | (i, _) :: r, listed => doneBy r (listed.setIfInBounds i true)
def ordT (md : Region.Mode) (ops : Array Oper) (late : List Nat) : List (Nat × Bool) → Array Bool → Bool
  | [], listed => (List.range listed.size).all fun j => listed.getD j true || late.contains j
  | (i, true) :: r, listed => Region.free md ops listed i && (Region.ready md ops listed).contains i && late.all (waitsB md ops i ops.size) && ordT md ops late r (listed.setIfInBounds i true)
  | (i, false) :: r, listed => Region.ready md ops listed == [i] && ordT md ops late r (listed.setIfInBounds i true)
theorem aAnyT_of_ord {N : AFr → AS → Prop} {L0 : Array Bool} (hN : Fine N) (hs : Region.noSelect ops = true) : ∀ (l : List (Nat × Bool)) (listed : Array Bool) (fr : AFr) (st : AS), Closed md ops listed → ordT md ops late l listed = true → doneBy l listed = L0 → aord P ops X N S late l fr st →
    aAnyT P md ops X (fun l fr st => l = L0 ∧ N fr st) S late l.length listed fr st
  | [], listed, fr, st, _, hB, hd, h => by
    refine ⟨fun j hj => ?_, hd, h⟩
    simp only [ordT, List.all_eq_true, Bool.or_eq_true] at hB
    have hlt : j < listed.size := by
      by_cases hlt : j < listed.size
      · exact hlt
      · rw [Array.getD_eq_getD_getElem?, Array.getElem?_eq_none (by omega)] at hj
        cases hj
    rcases hB j (List.mem_range.2 hlt) with h1 | h1
    · rw [h1] at hj; cases hj
    · simpa using h1
  | (i, true) :: r, listed, fr, st, hcl, hB, hd, h => by
    simp only [ordT, Bool.and_eq_true] at hB
    obtain ⟨⟨⟨hf, hr⟩, hl⟩, hB⟩ := hB
    obtain ⟨hst, o, v, ho, hy, hrest⟩ := h
    have hr' : i ∈ Region.ready md ops listed := by simpa using hr
    exact aAnyT_first (fun l a b s hab hk => ⟨hk.1, hN _ _ _ hab hk.2⟩) ho (by simpa using hl) r.length listed fr st hst hcl (Region.free_spec ho hf) hr' hy (aAnyT_of_ord hN hs r _ _ _ (hcl.set hr') hB hd hrest)
  | (i, false) :: r, listed, fr, st, hcl, hB, hd, h => by
    simp only [ordT, Bool.and_eq_true, beq_iff_eq] at hB
    have hi : i ∈ Region.ready md ops listed := by rw [hB.1]; simp
    have ih := aAnyT_of_ord (L0 := L0) hN hs r (listed.setIfInBounds i true)
    refine ⟨fun h0 => (by rw [h0] at hi; cases hi), fun j hj => ?_⟩
    have hji : j = i := by rw [hB.1] at hj; simpa using hj
    rw [hji]
    exact aopX_mono (fun fr st h2 => ⟨h2.1, ih fr st (hcl.set hi) hB.2 hd (h2.2 h2.1)⟩) h
theorem aAnyT_sound {D : FixD} {N : AFr → AS → Prop} {g0 : Gh} (hd : ∀ (i : Nat) o, ops[i]? = some o → D.freeO o) (k : Nat)
    (tail : ∀ (listed : Array Bool) (fr : AFr) (st : AS) (g : Gh) (a : Act) (w : World), T listed fr st → g0.le g → Inv g st w → FSim D g fr a → wpAny P md ops (QC D g0 (QN X N)) k listed a w) :
    ∀ (fuel : Nat) (listed : Array Bool) (fr : AFr) (st : AS) (g : Gh) (a : Act) (w : World),
    aAnyT P md ops X T S late fuel listed fr st → g0.le g → Inv g st w → FSim D g fr a → wpAny P md ops (QC D g0 (QN X N)) (fuel + k) listed a w
  | 0, listed, fr, st, g, a, w, h, hg, hi, hf => by
    rw [Nat.zero_add]
    exact tail _ _ _ _ _ _ h.2 hg hi hf
  | fuel + 1, listed, fr, st, g, a, w, h, hg, hi, hf => by
    rw [Nat.add_right_comm]
    refine ⟨fun h0 => absurd h0 h.1, fun i hir => ?_⟩
    have h1 := h.2 i hir
    unfold aopX at h1
    unfold wpOp
    cases ho : ops[i]? with
    | none => rw [ho] at h1; exact aAnyT_sound hd k tail fuel _ fr st g a w h1.2 hg hi hf
    | some o =>
      rw [ho] at h1
      simp only [] at h1 ⊢
      unfold awant at h1
      split at h1
      · rename_i t ht
        have hw := wanted_of hf ht
        rw [hw]
        cases t with
        | true =>
          rw [if_pos rfl]
          refine .inl (exec_sound hi hf ⟨fun g' v x st' w' k1 k2 k3 k4 => ?_, fun g' v x st' w' k1 k2 k3 k4 => ?_⟩ (h1.1 rfl))
          · exact aAnyT_sound hd k tail fuel _ _ st' g' _ w' k4.2 (hg.trans k1) k2 ((hf.mono k1).put k3 o.dst (hd _ _ ho))
          · exact ⟨g', .panic v, fr, st', hg.trans k1, k2, hf.mono k1, .panic v x k3, k4⟩
        | false =>
          rw [if_neg (by simp)]
          exact aAnyT_sound hd k tail fuel _ _ st g _ w (h1.2 rfl).2 hg hi (hf.put (und_sim _) o.dst (hd _ _ ho))
      · exact h1.elim
end order
theorem ADraw.of_tail {P : Program} {l : List Oper} {X : AV → AS → Prop} {N M : AFr → AS → Prop} {fr : AFr} {st : AS} {S : AS → Prop} (late : List Nat) (order : List (Nat × Bool)) (L0 : Array Bool) (k : Nat) (hm : P.follows .mixedOrders = true)
    (hB : (Region.noSelect l.toArray && (order.length + k == l.toArray.size) && ordT .any l.toArray late order (Array.replicate l.toArray.size false) && (doneBy order (Array.replicate l.toArray.size false) == L0)) = true)
    (h : aord P l.toArray X M S late order fr st)
    (tail : ∀ (D : FixD), (∀ (i : Nat) o, l.toArray[i]? = some o → D.freeO o) → ∀ (fr : AFr) (st : AS) (g0 g : Gh) (a : Act) (w : World), M fr st → g0.le g → Inv g st w → FSim D g fr a → wpAny P .any l.toArray (QC D g0 (QN X fun fr st => ∃ fr0, FEq fr0 fr ∧ N fr0 st)) k L0 a w) : ADraw P l.toArray X N fr st := by
  intro r hr D hd g0 g a w hg hi hf id
  simp only [Bool.and_eq_true, beq_iff_eq] at hB
  have hfine : Fine (fun fr st => ∃ fr0, FEq fr0 fr ∧ M fr0 st) := fun fr fr' st he ⟨fr0, h1, h2⟩ => ⟨fr0, h1.trans he, h2⟩
  have hmono : ∀ (order : List (Nat × Bool)) (fr : AFr) (s : AS), aord P l.toArray X M S late order fr s → aord P l.toArray X (fun fr st => ∃ fr0, FEq fr0 fr ∧ M fr0 st) S late order fr s := by
    intro order
    induction order with
    | nil => exact fun fr s h => ⟨fr, .refl fr, h⟩
    | cons p r ih =>
      obtain ⟨i, b⟩ := p
      cases b with
      | false => exact fun fr s h => aopX_mono (fun fr s h2 => ⟨h2.1, fun e => ih fr s (h2.2 e)⟩) h
      | true =>
        intro fr s h
        obtain ⟨h1, o, v, h2, h3, h4⟩ := h
        exact ⟨h1, o, v, h2, h3, ih _ _ h4⟩
  have hall := aAnyT_of_ord (P := P) (md := .any) (X := X) hfine hB.1.1.1 order _ fr st (closed_none _) hB.1.2 hB.2 (hmono order fr st h)
  have hs := aAnyT_sound (D := D) (N := fun fr st => ∃ fr0, FEq fr0 fr ∧ N fr0 st) (g0 := g0) hd k (fun listed fr st g a w hT hg hi hf => by
    obtain ⟨rfl, fr0, he, hM⟩ := hT
    exact tail D hd fr0 st g0 g a w hM hg hi (hf.feq he.symm)) order.length _ fr st g a w.drew hall hg hi.drew hf
  rw [hB.1.1.2] at hs
  refine wpIn_mono (wpIn_region_any hm (any_fen qc_lets (ro_get hr) _ _ _ _ hs)) fun e a w hq => ?_
  obtain ⟨g', x, fr', st', h1, h2, h3, h4, h5⟩ := hq
  cases x with
  | normal =>
    obtain ⟨fr0, k1, k2⟩ := h5
    exact ⟨g', .normal, fr0, st', h1, h2, h3.feq k1.symm, h4, k2⟩
  | panic v => exact ⟨g', .panic v, fr', st', h1, h2, h3, h4, h5⟩
  | exit id => exact h5.elim
  | ret => exact h5.elim
def nthC : List Oper → Nat → List Oper → List Oper
  | [], _, r => r
  | a :: _, 0, r => a :: r
  | _ :: l, i + 1, r => nthC l i r
def pickL (l : List Oper) : List Nat → List Oper
  | [] => []
  | i :: r => nthC l i (pickL l r)
theorem nthC_zero {a : Oper} {l r : List Oper} : nthC (a :: l) 0 r = a :: r := no_rfl rfl
theorem nthC_succ {a : Oper} {l r : List Oper} {i : Nat} : nthC (a :: l) (i + 1) r = nthC l i r := no_rfl rfl
theorem pickL_nil {l : List Oper} : pickL l [] = [] := no_rfl rfl
theorem pickL_cons {l : List Oper} {i : Nat} {r : List Nat} : pickL l (i :: r) = nthC l i (pickL l r) := no_rfl rfl
theorem nthC_get : ∀ (l : List Oper) (i : Nat) (r : List Oper), i < l.length → ∃ o, l[i]? = some o ∧ nthC l i r = o :: r
  | a :: l, 0, r, _ => ⟨a, rfl, rfl⟩
  | a :: l, i + 1, r, h => by
    obtain ⟨o, h1, h2⟩ := nthC_get l i r (by simpa using h)
    exact ⟨o, by simpa using h1, h2⟩
def ordersP : List Nat → List (Bool × Bool) → List (Nat × Bool)
  | i :: ix, (f, _) :: fl => (i, f) :: ordersP ix fl
  | _, _ => []
def permB (n : Nat) (all : List Nat) : List Nat → List (Bool × Bool) → Bool
  | [], [] => true
  | i :: ix, (_, lt) :: fl => decide (i < n) && (all.contains i == lt) && permB n all ix fl
  | _, _ => false
theorem ordS_ordP {P : Program} {l : List Oper} {X : AV → AS → Prop} {N : AFr → AS → Prop} {S : AS → Prop} (all : List Nat) : ∀ (ix : List Nat) (fl : List (Bool × Bool)) (fr : AFr) (st : AS), permB l.length all ix fl = true →
    ordS P l.toArray X N S fl (pickL l ix) fr st → aord P l.toArray X N S all (ordersP ix fl) fr st
  | [], [], fr, st, _, h => h
  | i :: ix, (f, lt) :: fl, fr, st, hp, h => by
    simp only [permB, Bool.and_eq_true, decide_eq_true_eq, beq_iff_eq] at hp
    obtain ⟨⟨hi, ha⟩, hp⟩ := hp
    obtain ⟨o, ho1, ho2⟩ := nthC_get l i (pickL l ix) hi
    rw [pickL, ho2] at h
    have ho : l.toArray[i]? = some o := by simpa using ho1
    cases f with
    | true =>
      obtain ⟨h1, h2⟩ := h
      refine ⟨h1, o, ?_⟩
      unfold awant at h2
      split at h2
      · rename_i t ht
        cases t with
        | true =>
          obtain ⟨v, k1, k2⟩ := h2.1 rfl
          refine ⟨v, ho, .inl ⟨ht, fun s J X' hs hj => ?_⟩, ordS_ordP all ix fl _ _ hp k2⟩
          obtain ⟨u, q1, q2⟩ := afree_yields (k1 s hs)
          subst q1
          exact q2 J X' hj
        | false => exact ⟨.und, ho, .inr ⟨ht, rfl⟩, ordS_ordP all ix fl _ _ hp (h2.2 rfl)⟩
      · exact h2.elim
    | false =>
      have hlate : i ∉ all → lt = false := fun hk => by
        rw [← ha]
        simpa using hk
      have go : ∀ fr' st', ((lt = false → S st') ∧ ordS P l.toArray X N S fl (pickL l ix) fr' st') → (i ∉ all → S st') ∧ ((i ∉ all → S st') → aord P l.toArray X N S all (ordersP ix fl) fr' st') := fun fr' st' ⟨q1, q2⟩ =>
        ⟨fun hk => q1 (hlate hk), fun _ => ordS_ordP all ix fl fr' st' hp q2⟩
      unfold ordS at h
      show aopX P l.toArray X i _ fr st
      unfold aopX
      simp only [ho]
      unfold awant at h ⊢
      split at h
      · exact ⟨fun e => aexec_mono (fun v s hv => go _ _ hv) (fun _ _ h => h) (h.1 e), fun e => go _ _ (h.2 e)⟩
      · exact h.elim
  | [], _ :: _, fr, st, hp, _ => by simp [permB] at hp
  | _ :: _, [], fr, st, hp, _ => by simp [permB] at hp
theorem ADraw.tailP {P : Program} {l : List Oper} {X : AV → AS → Prop} {N : AFr → AS → Prop} {fr : AFr} {st : AS} (S : AS → Prop) (M : AFr → AS → Prop) (late : List Nat) (ix : List Nat) (fl : List (Bool × Bool)) (L0 : Array Bool) (k : Nat) (hm : P.follows .mixedOrders = true)
    (hB : (Region.noSelect l.toArray && permB l.length late ix fl && ((ordersP ix fl).length + k == l.toArray.size) && ordT .any l.toArray late (ordersP ix fl) (Array.replicate l.toArray.size false) && (doneBy (ordersP ix fl) (Array.replicate l.toArray.size false) == L0)) = true)
    (h : ordS P l.toArray X M S fl (pickL l ix) fr st)
    (tail : ∀ (D : FixD), (∀ (i : Nat) o, l.toArray[i]? = some o → D.freeO o) → ∀ (fr : AFr) (st : AS) (g0 g : Gh) (a : Act) (w : World), M fr st → g0.le g → Inv g st w → FSim D g fr a → wpAny P .any l.toArray (QC D g0 (QN X fun fr st => ∃ fr0, FEq fr0 fr ∧ N fr0 st)) k L0 a w) : ADraw P l.toArray X N fr st := by
  simp only [Bool.and_eq_true] at hB
  obtain ⟨⟨⟨⟨h1, h2⟩, h3⟩, h4⟩, h5⟩ := hB
  exact ADraw.of_tail (M := M) (S := S) late (ordersP ix fl) L0 k hm (by simp only [Bool.and_eq_true]; exact ⟨⟨⟨h1, h3⟩, h4⟩, h5⟩) (ordS_ordP late ix fl fr st h2 h) tail
end Go.Proofs.YtfheoidnahhnlaaGreatDoor
set_option linter.unusedVariables false
set_option linter.unusedSimpArgs false
namespace Go.Proofs.YtfheoidnahhnlaaGreatDoor
open Go.RowKit
variable {P : Program} {g : Gh} {st : AS} {w : World}
theorem splice_twice {α : Type} (cs : List α) (k : Nat) (a b : List α) (h : a.length = b.length) (hk : k + a.length ≤ cs.length) : splice (splice cs k a) k b = splice cs k b := by
  unfold splice
  have h1 : (cs.take k).length = k := by rw [List.length_take]; omega
  have e1 : (cs.take k ++ a ++ cs.drop (k + a.length)).take k = cs.take k := by
    rw [List.append_assoc, List.take_append_of_le_length (by omega), List.take_of_length_le (by omega)]
  have e2 : (cs.take k ++ a ++ cs.drop (k + a.length)).drop (k + b.length) = cs.drop (k + b.length) := by
    rw [← h, show k + a.length = (cs.take k ++ a).length by rw [List.length_append, h1], List.drop_left]
  rw [e1, e2]
theorem splice_len {α : Type} (cs : List α) (k : Nat) (a : List α) (h : k + a.length ≤ cs.length) : (splice cs k a).length = cs.length := by
  unfold splice
  simp only [List.length_append, List.length_take, List.length_drop]
  omega
theorem alloc_setRow (w : World) (C D : Array Value) (e : TypeId) : (w.alloc (.cells C e)).setRow w.heap.size D = w.alloc (.cells D e) := by
  unfold World.setRow World.alloc
  simp only []
  congr 1
  apply Array.ext
  · simp
  · intro i h1 h2
    simp only [Array.getElem_modify, Array.getElem_push]
    by_cases hi : i < w.heap.size
    · have : w.heap.size ≠ i := by omega
      simp [hi, this]
    · have : w.heap.size = i := by simp at h2; omega
      subst this
      simp
theorem app_pend (hi : Inv g st w) {t u ty e : TypeId} {i : TypeInfo} {z : Value} {sz : Nat} (ht : P.underlying t = some (.slice e)) (hinf : P.info? e = some i) (hz : i.zero = some z) (hs : i.size = sz) (hzs : z.cells.size = sz) (hpz : 0 < sz) (hpb : 0 < i.bytes)
    {own : Bool} {id : Nat} {es : List (List AV)} (hst : st.ln[id]? = some (es.length, e, sz)) (h1 : ∀ x ∈ es, x.length = sz) (hb : (es.length + 1) * i.bytes ≤ 140737488355328)
    {cur : List Value} {xv av : Value} (hsrc : _root_.Go.Src P sz u xv 1 cur w) (hcur1 : ∀ v ∈ cur, oneV v = true) (hv : VSim g (.sl own (.lin id) es) av)
    {nv : List AV} (hnl : nv.length = sz) (hok : ∀ (j : Nat) y, nv[j]? = some y → y.one = true ∧ y.dat0 = true) {vc : List Value} (hc : CSim g nv vc) :
    ∃ b cap C w1, (Builtin.append_ #[t, u] ty #[av, xv]).run P w = .ok (.slice (some ⟨b, 0, none⟩) (es.length + 1) cap) w1 ∧ w1.heap[b]? = some (.cells C e (0, 0)) ∧ C.size = cap * sz ∧ es.length + 1 ≤ cap ∧ b ∉ g.bx ∧ g.base ≤ b ∧
      (∀ k, k ≠ b → k < w.heap.size → w1.heap[k]? = w.heap[k]?) ∧
      ∃ g', g.le g' ∧ Inv g' { st with ln := st.ln.set id (es.length + 1, e, sz) } (w1.setRow b (splice C.toList (es.length * sz) vc).toArray) ∧ VSim g' (.sl true (.lin id) (es ++ [nv])) (.slice (some ⟨b, 0, none⟩) (es.length + 1) cap) := by
  have hlc : cur.length = 1 * sz := hsrc.newsLen
  have hlv : vc.length = 1 * sz := by rw [hc.1, hnl, Nat.one_mul]
  have hvc1 := ones_of hc hok
  obtain ⟨A, cap, old, rfl, c1, c2, c3, c4, c5, c6, c7, c8⟩ := sl_cells hi hv h1
  obtain ⟨L, hL, hLn, hLe⟩ := c3
  obtain ⟨k1, k2⟩ := hi.ln id L hL
  rw [hst] at k1
  have k1' := Option.some.inj k1
  simp only [Prod.mk.injEq] at k1'
  obtain ⟨e1, e2, e3⟩ := k1'
  obtain ⟨rfl, rfl⟩ := hLe e1
  have hread : ∀ w', Inv g st w' → (Builtin.firstCells sz es.length (.slice L.A es.length L.cap)).run P w' = .ok old.toArray w' := fun w' hi' => read_cells hi' c5 (fun hne => by
    obtain ⟨b, o, f1, _, f3⟩ := c8 (fun h => hne (List.eq_nil_of_length_eq_zero (by rw [c4.1, h]; rfl)))
    exact ⟨b, o, f1, f3⟩) (fun h => by rcases Nat.mul_eq_zero.1 h with h | h <;> omega) L.cap
  have hflat : (es ++ [nv]).flatten = es.flatten ++ nv := by simp
  have hlen : (es ++ [nv]).length = es.length + 1 := by simp
  have hszs : ∀ x ∈ es ++ [nv], x.length = sz := lens_append h1 (fun x hx => by obtain rfl := List.mem_singleton.1 hx; exact hnl)
  have hokk := okget_append c7 hok
  have hb47 : es.length + 1 ≤ 140737488355328 := Nat.le_trans (Nat.le_mul_of_pos_right _ hpb) hb
  by_cases hroom : es.length + 1 ≤ L.cap
  · rcases k2 with ⟨_, k2⟩ | ⟨b, C, f1, f2, f3, f4, f5, f6, f7, f8, f9⟩
    · omega
    · have hfit : es.length * sz + cur.length ≤ C.size := by rw [hlc, f7, ← Nat.add_mul, ← e3]; exact Nat.mul_le_mul_right _ hroom
      have hst' := run_storeCells_at (P := P) b (es.length * sz) L.e cur 0 C w f4 (by rw [Nat.add_zero]; exact hfit) (fun v hv => by rw [oneCell_oneV]; exact hcur1 v hv)
      simp only [Nat.add_zero] at hst'
      obtain ⟨g', q1, q2, q3, q4⟩ := hi.lin_room (m := 1) (cur := vc) hL f1 f2 f3 f4 (by omega) (by omega) f7 f8 f9 (by rw [hlv, e3]) hvc1
      have hspl : (splice C.toList (es.length * sz) cur).toArray = (C.toList.take (es.length * sz) ++ cur ++ C.toList.drop (es.length * sz + cur.length)).toArray := rfl
      refine ⟨b, L.cap, (splice C.toList (es.length * sz) cur).toArray, w.setRow b (splice C.toList (es.length * sz) cur).toArray, ?_, ?_, ?_, hroom, f3, f2, ?_, g', q1, ?_, ?_⟩
      · have hadd : (⟨b, 0, none⟩ : Addr).add (es.length * sz) = ⟨b, es.length * sz, none⟩ := by rw [add_spot, Nat.zero_add]
        subst hs
        rw [f1, hspl]
        rcases hsrc.kind with ⟨e', hk⟩ | hk <;> simp [Builtin.append_, run_underlying ht, run_underlying hk, sizeOf, typeInfo, hinf, hsrc.len, hroom, hsrc.cells, hadd, hst']
      · rw [e2]; exact setRow_heap w b C _ _ _ f4
      · rw [List.size_toArray, splice_len _ _ _ (by simpa using hfit), Array.length_toList, f7, ← e3]
      · intro k hk _
        simp [World.setRow, Array.getElem?_modify, Ne.symm hk]
      · rw [setRow_setRow]
        have e9 : splice (splice C.toList (es.length * sz) cur).toArray.toList (es.length * sz) vc = splice C.toList (L.n * L.sz) vc := by
          rw [← e1, ← e3]
          exact splice_twice _ _ _ _ (by rw [hlc, hlv]) (by simpa using hfit)
        rw [e9, e1, e2, e3]
        exact q3
      · rw [← f1, ← hlen]
        refine sl_mk hszs _ _ (old ++ vc) (by rw [hlen]; exact hroom) (by rw [hlen]; exact hb47) (by rw [hflat]; exact okget_append c7 hok) (by rw [hflat]; exact csim_mono q1 (csim_append c4 hc)) (fun _ => ⟨b, 0, f1, fun _ => by unfold Gh.base; rw [q1.w0]; exact f2, fun j v hv => ?_⟩) ?_
        · rw [Nat.zero_add]
          rcases Nat.lt_or_ge j old.length with hj | hj
          · rw [List.getElem?_append_left hj] at hv
            have hne : es.flatten ≠ [] := fun h => by rw [h] at c4; have := c4.1; simp at this; subst this; simp at hj
            obtain ⟨b', o, f1', _, f3'⟩ := c8 hne
            rw [f1] at f1'
            have := Option.some.inj f1'
            simp only [Addr.mk.injEq] at this
            obtain ⟨rfl, rfl, _⟩ := this
            have := f3' j v hv
            rw [Nat.zero_add] at this
            exact q1.K _ _ _ this
          · rw [List.getElem?_append_right hj] at hv
            have := q4 _ v hv
            have e7 : L.n * L.sz + (j - old.length) = j := by rw [← e1, ← e3, ← c5]; omega
            rwa [e7] at this
        · refine ⟨{ L with n := L.n + 1 }, by rw [q2]; exact List.getElem?_set_self (List.getElem?_eq_some_iff.1 hL).1, ?_, fun _ => ⟨rfl, rfl⟩⟩
          show (es ++ [nv]).length ≤ L.n + 1
          rw [hlen]; omega
  · obtain ⟨gc, C, hrun, hge, hCs, htake⟩ := grow_core hi (ty := ty) ht hinf hz hs hzs c5 hread hsrc (by omega) hb hpb
    have hidl := (List.getElem?_eq_some_iff.1 hL).1
    have hidl' : id < st.ln.length := by rw [← hi.lnlen]; exact hidl
    have hfit : es.length * sz + vc.length ≤ C.toList.length := by
      rw [hlv, show C.toList.length = C.size from Array.length_toList, hCs, ← Nat.add_mul]
      exact Nat.mul_le_mul_right _ hge
    have htk : (splice C.toList (es.length * sz) vc).take ((es.length + 1) * sz) = old ++ vc := by
      unfold splice
      have ho : C.toList.take (es.length * sz) = old := by
        have h : (C.toList.take ((es.length + 1) * sz)).take (es.length * sz) = (old ++ cur).take (es.length * sz) := by rw [htake]
        have hm : min (es.length * sz) ((es.length + 1) * sz) = es.length * sz := Nat.min_eq_left (Nat.mul_le_mul_right _ (by omega))
        rw [List.take_take, hm] at h
        rw [h, ← c5, List.take_left]
      rw [ho]
      have hl2 : (old ++ vc).length = (es.length + 1) * sz := by rw [List.length_append, c5, hlv, Nat.add_mul]
      rw [← hl2, List.take_left]
    obtain ⟨g', q1, q2, q3, q4⟩ := hi.drew.lin_fresh (splice C.toList (es.length * sz) vc).toArray e sz (es.length + 1) gc hge (by omega) (by rw [List.size_toArray, splice_len _ _ _ hfit, show C.toList.length = C.size from Array.length_toList, hCs]) (by
        rw [htk]
        exact ones_of (csim_append c4 hc) hokk) id (g.ln.set id ⟨some ⟨w.heap.size, 0, none⟩, es.length + 1, gc, e, sz⟩) (st.ln.set id (es.length + 1, e, sz)) (by simp [hi.lnlen])
      (fun j L' hL' => by
        split
        · rename_i hj
          subst hj
          rw [List.getElem?_set_self hidl] at hL'
          exact ⟨(Option.some.inj hL').symm, List.getElem?_set_self hidl'⟩
        · rename_i hj
          rw [List.getElem?_set_ne (Ne.symm hj)] at hL'
          exact ⟨hL', List.getElem?_set_ne (Ne.symm hj)⟩)
      (fun j L' hL' => by
        by_cases hj : j = id
        · subst hj
          rw [hL] at hL'
          obtain rfl := Option.some.inj hL'
          refine ⟨_, List.getElem?_set_self hidl, by simp only []; omega, fun he => ?_⟩
          simp only [] at he
          omega
        · exact ⟨L', by rw [List.getElem?_set_ne (Ne.symm hj)]; exact hL', Nat.le_refl _, fun _ => rfl⟩)
    have hdh : w.drew.heap.size = w.heap.size := rfl
    refine ⟨w.heap.size, gc, C, w.drew.alloc (.cells C e), hrun, ?_, hCs, hge, ?_, hi.base_le, ?_, g', q1, ?_, ?_⟩
    · show (Array.push w.heap (Obj.cells C e))[w.heap.size]? = _
      simp
    · intro hm
      obtain ⟨j, hj⟩ := List.getElem?_of_mem hm
      have hjl := (List.getElem?_eq_some_iff.1 hj).1
      have hjs : j < st.bx.length := by rw [← hi.bxlen]; exact hjl
      obtain ⟨cur', T, h3, _⟩ := hi.bx j _ _ hj (List.getElem?_eq_getElem hjs)
      have := h3.lt
      omega
    · intro k _ hk
      exact ((Kept.refl w).drew.alloc (.cells C e)).block k hk
    · have e8 : (w.drew.alloc (.cells C e)).setRow w.heap.size (splice C.toList (es.length * sz) vc).toArray = w.drew.alloc (.cells (splice C.toList (es.length * sz) vc).toArray e) := alloc_setRow w.drew C _ e
      rw [e8]
      exact q3
    · rw [← hlen]
      refine sl_mk hszs _ _ (old ++ vc) (by rw [hlen]; exact hge) (by rw [hlen]; exact hb47) (by rw [hflat]; exact hokk) (by rw [hflat]; exact csim_mono q1 (csim_append c4 hc)) (fun _ => ⟨w.heap.size, 0, rfl, fun _ => ?_, fun j v hv => ?_⟩) ?_
      · unfold Gh.base; rw [q1.w0]; exact hi.base_le
      · rw [Nat.zero_add]; rw [htk] at q4; exact q4 j v hv
      · exact ⟨_, by rw [q2]; exact List.getElem?_set_self hidl, by rw [hlen]; exact Nat.le_refl _, fun _ => ⟨rfl, rfl⟩⟩
end Go.Proofs.YtfheoidnahhnlaaGreatDoor
