/- Merged: AvmB, AvmC. -/
import Derived.Test.YtjodibncpbjegaaDoorZ12
import Derived.Scope
import Derived.OrdersIn
import Derived.TacticsIn
import Derived.RangeFuncCalls
/- Regions, in the order of the text and in every order; code; loops; calls, on plain data. No program. -/
set_option linter.unusedVariables false
set_option linter.unusedSimpArgs false
namespace Go.Proofs.YtjodibncpbjegaaDoor
open Go.RowKit

/-- What an operation leaves that was not wanted. -/
def AV.und : AV := .tup []
theorem und_sim (g : Gh) : VSim g .und undef := .tup [] #[] rfl (fun i x hx => by simp at hx)
/-- Is the operation wanted? (none: it cannot be told) -/
def fromV : AV → Bool → Option Bool
  | .s (.bool t), b => some (t == b)
  | .tup [], _ => some false
  | _, _ => none
def wantB (ops : Array Oper) (fr : AFr) (o : Oper) : Option Bool :=
  match o.guard with
  | none => some true
  | some (j, b) =>
    match (ops[j]?).bind (·.dst) with
    | none => none
    | some d => if d < fr.n then fromV (look fr.l d) b else none
def awant (b : Option Bool) (yes no : Prop) : Prop :=
  match b with
  | some t => (t = true → yes) ∧ (t = false → no)
  | none => False
/-- Operations, one behind the other. -/
def aops (P : Program) (ops : Array Oper) (X : AV → AS → Prop) (N : AFr → AS → Prop) : List Oper → AFr → AS → Prop
  | [], fr, st => N fr st
  | o :: rest, fr, st => awant (wantB ops fr o) (aexec P fr.eval o.op o.type st (fun v st' => aops P ops X N rest (fr.put o.dst v) st') X) (aops P ops X N rest (fr.put o.dst .und) st)
theorem wanted_of {D : FixD} {ops : Array Oper} {fr : AFr} {a : Act} {g : Gh} (hf : FSim D g fr a) {o : Oper} {t : Bool} (h : wantB ops fr o = some t) : Region.wanted o (yielded ops a.tmps) = t := by
  unfold wantB at h
  unfold Region.wanted
  split at h
  · rename_i hg; rw [hg]; simpa using h
  · rename_i j b hg
    rw [hg]
    simp only []
    unfold yielded
    split at h
    · cases h
    · rename_i d hd
      rw [hd]
      simp only [Option.bind_some]
      split at h
      · rename_i hdn
        have hv := hf.tmps d
        have hlt : d < a.tmps.size := by rw [hf.size]; exact hdn
        have hget : a.tmps[d]? = some (a.tmps.getD d undef) := by simp [Array.getD, hlt]
        rw [hget]
        generalize a.tmps.getD d undef = x at hv
        unfold fromV at h
        split at h
        · rename_i t' b' hl
          rw [hl] at hv
          obtain rfl := Option.some.inj h
          obtain rfl := hv.lit0 rfl
          rfl
        · rename_i hl
          rw [hl] at hv
          obtain rfl := Option.some.inj h
          cases hv with
          | tup l aa hs hh =>
            have : aa = #[] := Array.eq_empty_of_size_eq_zero (by simpa using hs)
            rw [this]; rfl
        · cases h
      · cases h
/-- What a run may end with. -/
def QC (D : FixD) (g : Gh) (Q : Post) : Exit → Act → World → Prop := fun e a w => ∃ g' x fr st, g.le g' ∧ Inv g' st w ∧ FSim D g' fr a ∧ XSim g' x e ∧ Q x fr st
theorem QC.le {D : FixD} {g g' : Gh} (h : g.le g') {Q : Post} {e : Exit} {a : Act} {w : World} (hq : QC D g' Q e a w) : QC D g Q e a w := by
  obtain ⟨g2, x, fr, st, h1, h2⟩ := hq
  exact ⟨g2, x, fr, st, h.trans h1, h2⟩
def QN (X : AV → AS → Prop) (N : AFr → AS → Prop) : Post
  | .normal, fr, st => N fr st
  | .panic v, _, st => X v st
  | _, _, _ => False
theorem aops_sound {D : FixD} {P : Program} {ops : Array Oper} {X : AV → AS → Prop} {N : AFr → AS → Prop} {g0 : Gh} : ∀ (l : List Oper) (fr : AFr) (st : AS) (g : Gh) (a : Act) (w : World), (∀ o ∈ l, D.freeO o) → aops P ops X N l fr st → g0.le g → Inv g st w → FSim D g fr a → wpList P ops (QC D g0 (QN X N)) l a w
  | [], fr, st, g, a, w, hd, h, hg, hi, hf => ⟨g, .normal, fr, st, hg, hi, hf, .normal, h⟩
  | o :: rest, fr, st, g, a, w, hd, h, hg, hi, hf => by
    unfold aops at h
    unfold awant at h
    split at h
    · rename_i t ht
      have hw := wanted_of hf ht
      unfold wpList
      rw [hw]
      cases t with
      | true =>
        rw [if_pos rfl]
        refine .inl (exec_sound hi hf ⟨fun g' v x st' w' h1 h2 h3 h4 => ?_, fun g' v x st' w' h1 h2 h3 h4 => ?_⟩ (h.1 rfl))
        · exact aops_sound rest _ st' g' _ w' (fun o ho => hd o (List.mem_cons_of_mem _ ho)) h4 (hg.trans h1) h2 ((hf.mono h1).put h3 o.dst (hd o (List.mem_cons_self ..)))
        · exact ⟨g', .panic v, fr, st', hg.trans h1, h2, hf.mono h1, .panic v x h3, h4⟩
      | false =>
        rw [if_neg (by simp)]
        exact aops_sound rest _ st g _ w (fun o ho => hd o (List.mem_cons_of_mem _ ho)) (h.2 rfl) hg hi (hf.put (und_sim _) o.dst (hd o (List.mem_cons_self ..)))
    · exact h.elim

/-! ### Every order -/
def aopX (P : Program) (ops : Array Oper) (X : AV → AS → Prop) (i : Nat) (K : AFr → AS → Prop) (fr : AFr) (st : AS) : Prop :=
  match ops[i]? with
  | none => K fr st
  | some o => awant (wantB ops fr o) (aexec P fr.eval o.op o.type st (fun v st' => K (fr.put o.dst v) st') X) (K (fr.put o.dst .und) st)
def aAny (P : Program) (md : Region.Mode) (ops : Array Oper) (X : AV → AS → Prop) (N : AFr → AS → Prop) : Nat → Array Bool → AFr → AS → Prop
  | 0, listed, fr, st => Region.ready md ops listed = [] ∧ N fr st
  | fuel + 1, listed, fr, st =>
    (Region.ready md ops listed = [] → N fr st) ∧
    ∀ i ∈ Region.ready md ops listed, aopX P ops X i (aAny P md ops X N fuel (listed.setIfInBounds i true)) fr st
theorem aAny_sound {D : FixD} {P : Program} {md : Region.Mode} {ops : Array Oper} {X : AV → AS → Prop} {N : AFr → AS → Prop} {g0 : Gh} (hd : ∀ (i : Nat) o, ops[i]? = some o → D.freeO o) : ∀ (fuel : Nat) (listed : Array Bool) (fr : AFr) (st : AS) (g : Gh) (a : Act) (w : World),
    aAny P md ops X N fuel listed fr st → g0.le g → Inv g st w → FSim D g fr a → wpAny P md ops (QC D g0 (QN X N)) fuel listed a w
  | 0, listed, fr, st, g, a, w, h, hg, hi, hf => ⟨h.1, ⟨g, .normal, fr, st, hg, hi, hf, .normal, h.2⟩⟩
  | fuel + 1, listed, fr, st, g, a, w, h, hg, hi, hf => by
    refine ⟨fun h0 => ⟨g, .normal, fr, st, hg, hi, hf, .normal, h.1 h0⟩, fun i hir => ?_⟩
    have h1 := h.2 i hir
    unfold aopX at h1
    unfold wpOp
    cases ho : ops[i]? with
    | none => rw [ho] at h1; exact aAny_sound hd fuel _ fr st g a w h1 hg hi hf
    | some o =>
      rw [ho] at h1
      simp only [] at h1 ⊢
      unfold awant at h1
      split at h1
      · rename_i t ht
        have hw := wanted_of hf ht
        rw [hw]
        cases t with
        | true =>
          rw [if_pos rfl]
          refine .inl (exec_sound hi hf ⟨fun g' v x st' w' k1 k2 k3 k4 => ?_, fun g' v x st' w' k1 k2 k3 k4 => ?_⟩ (h1.1 rfl))
          · exact aAny_sound hd fuel _ _ st' g' _ w' k4 (hg.trans k1) k2 ((hf.mono k1).put k3 o.dst (hd _ _ ho))
          · exact ⟨g', .panic v, fr, st', hg.trans k1, k2, hf.mono k1, .panic v x k3, k4⟩
        | false =>
          rw [if_neg (by simp)]
          exact aAny_sound hd fuel _ _ st g _ w (h1.2 rfl) hg hi (hf.put (und_sim _) o.dst (hd _ _ ho))
      · exact h1.elim

/-- Frames that say the same. -/
def FEq (fr fr' : AFr) : Prop := fr.n = fr'.n ∧ ∀ t, look fr.l t = look fr'.l t
theorem FEq.refl (fr : AFr) : FEq fr fr := ⟨rfl, fun _ => rfl⟩
theorem FEq.symm {a b : AFr} (h : FEq a b) : FEq b a := ⟨h.1.symm, fun t => (h.2 t).symm⟩
theorem FEq.trans {a b c : AFr} (h : FEq a b) (k : FEq b c) : FEq a c := ⟨h.1.trans k.1, fun t => (h.2 t).trans (k.2 t)⟩
theorem FEq.eval {a b : AFr} (h : FEq a b) : a.eval = b.eval := by
  funext x
  cases x <;> first | rfl | exact h.2 _
theorem FEq.put {a b : AFr} (h : FEq a b) (d : Option Tmp) (v : AV) : FEq (a.put d v) (b.put d v) := by
  cases d with
  | none => exact h
  | some d => exact ⟨h.1, fun t => by simp only [AFr.put, look, h.1, h.2 t]⟩
theorem FEq.want {a b : AFr} (h : FEq a b) (ops : Array Oper) (o : Oper) : wantB ops a o = wantB ops b o := by
  unfold wantB
  simp only [h.1, h.2]
theorem FEq.comm (fr : AFr) {x y : Option Tmp} (v u : AV) (h : ∀ d, x = some d → y ≠ some d) : FEq ((fr.put x v).put y u) ((fr.put y u).put x v) := by
  cases x with
  | none => exact .refl _
  | some d => cases y with
    | none => exact .refl _
    | some e =>
      have hne : e ≠ d := fun he => h d rfl (by rw [he])
      refine ⟨rfl, fun t => ?_⟩
      simp only [AFr.put, look]
      by_cases h1 : e = t
      · by_cases h2 : d = t
        · exact absurd (h1.trans h2.symm) hne
        · rw [if_pos h1, if_neg h2, if_pos h1]; rfl
      · rw [if_neg h1, if_neg h1]; rfl
theorem FSim.feq {D : FixD} {g : Gh} {fr fr' : AFr} {a : Act} (h : FSim D g fr a) (he : FEq fr fr') : FSim D g fr' a := ⟨h.defers, h.size.trans he.1, (fun t => by rw [← he.2 t]; exact h.tmps t), h.keep⟩
def Fine (N : AFr → AS → Prop) : Prop := ∀ fr fr' st, FEq fr fr' → N fr st → N fr' st
theorem aopX_mono {P : Program} {ops : Array Oper} {X : AV → AS → Prop} {i : Nat} {K K' : AFr → AS → Prop} {fr : AFr} {st : AS} (hk : ∀ fr st, K fr st → K' fr st) (h : aopX P ops X i K fr st) : aopX P ops X i K' fr st := by
  unfold aopX at *
  split at h
  · exact hk _ _ h
  · unfold awant at *
    split at h
    · exact ⟨fun e => aexec_mono (fun v s hv => hk _ _ hv) (fun _ _ h => h) (h.1 e), fun e => hk _ _ (h.2 e)⟩
    · exact h.elim
theorem aopX_fine {P : Program} {ops : Array Oper} {X : AV → AS → Prop} {i : Nat} {K : AFr → AS → Prop} (hK : Fine K) : Fine (aopX P ops X i K) := by
  intro fr fr' st he h
  unfold aopX at *
  split at h
  · exact hK _ _ _ he h
  · rw [← he.want, ← he.eval]
    unfold awant at *
    split at h
    · exact ⟨fun e => aexec_mono (fun v s hv => hK _ _ _ (he.put _ v) hv) (fun _ _ h => h) (h.1 e), fun e => hK _ _ _ (he.put _ _) (h.2 e)⟩
    · exact h.elim

section order
variable {P : Program} {md : Region.Mode} {ops : Array Oper} {X : AV → AS → Prop} {N : AFr → AS → Prop} {S : AS → Prop} {late : List Nat}
/-- In every order; behind each operation that is not late the store is as it was. -/
def aAnyD (P : Program) (md : Region.Mode) (ops : Array Oper) (X : AV → AS → Prop) (N : AFr → AS → Prop) (S : AS → Prop) (late : List Nat) : Nat → Array Bool → AFr → AS → Prop
  | 0, listed, fr, st => Region.ready md ops listed = [] ∧ N fr st
  | fuel + 1, listed, fr, st =>
    (Region.ready md ops listed = [] → N fr st) ∧
    ∀ i ∈ Region.ready md ops listed, aopX P ops X i (fun fr' st' => (i ∉ late → S st') ∧ aAnyD P md ops X N S late fuel (listed.setIfInBounds i true) fr' st') fr st
theorem aAnyD.any : ∀ (fuel : Nat) (listed : Array Bool) (fr : AFr) (st : AS), aAnyD P md ops X N S late fuel listed fr st → aAny P md ops X N fuel listed fr st
  | 0, _, _, _, h => h
  | fuel + 1, _, _, _, h => ⟨h.1, fun i hi => aopX_mono (fun fr st h2 => aAnyD.any fuel _ fr st h2.2) (h.2 i hi)⟩
theorem aAnyD_fine (hN : Fine N) : ∀ (fuel : Nat) (listed : Array Bool), Fine (aAnyD P md ops X N S late fuel listed)
  | 0, listed, fr, fr', st, he, h => ⟨h.1, hN _ _ _ he h.2⟩
  | fuel + 1, listed, fr, fr', st, he, h => ⟨fun h0 => hN _ _ _ he (h.1 h0), fun i hi => aopX_fine (fun a b s hab hk => ⟨hk.1, aAnyD_fine hN fuel _ a b s hab hk.2⟩) _ _ _ he (h.2 i hi)⟩
/-- It yields v, and leaves the store as it is. -/
def AYields (P : Program) (ops : Array Oper) (S : AS → Prop) (o : Oper) (v : AV) (fr : AFr) : Prop :=
  (wantB ops fr o = some true ∧ ∀ st K X, S st → K v st → aexec P fr.eval o.op o.type st K X) ∨ (wantB ops fr o = some false ∧ v = .und)
theorem look_put {fr : AFr} {dst : Option Tmp} {v : AV} {t : Nat} (h : ∀ d, dst = some d → d ≠ t) : look (fr.put dst v).l t = look fr.l t := by
  cases dst with
  | none => rfl
  | some d => simp only [AFr.put, look, if_neg (h d rfl)]
theorem n_put {fr : AFr} {dst : Option Tmp} {v : AV} : (fr.put dst v).n = fr.n := by cases dst <;> rfl
theorem eval_put' {fr : AFr} {dst : Option Tmp} {v : AV} {x : Operand} (h : ∀ d, dst = some d → x ≠ .tmp d) : (fr.put dst v).eval x = fr.eval x := by
  cases x with
  | tmp t => exact look_put fun d hd he => h d hd (by rw [he])
  | _ => rfl
theorem looks_op {o : Oper} {x : Operand} {t : Tmp} (h : x ∈ o.op.operands) (hx : x = .tmp t) : t ∈ o.looksAt ops := by
  subst hx
  unfold Oper.looksAt
  rw [List.mem_append]
  left
  rw [List.mem_filterMap]
  exact ⟨.tmp t, by simpa using h, rfl⟩
theorem exec_put (o : Oper) (fr : AFr) (dst : Option Tmp) (u : AV) (h : ∀ d, dst = some d → d ∉ o.looksAt ops) (ty : TypeId) (st : AS) (K : AV → AS → Prop) : aexec P (fr.put dst u).eval o.op ty st K X = aexec P fr.eval o.op ty st K X :=
  aexec_congr ty st K X fun x hx => eval_put' fun d hd he => h d hd (looks_op hx he)
theorem exec_put' (o : Oper) (fr : AFr) (dst : Option Tmp) (u : AV) (h : ∀ d, dst = some d → d ∉ o.looksAt ops) (ty : TypeId) (st : AS) (K Y : AV → AS → Prop) : aexec P (fr.put dst u).eval o.op ty st K Y = aexec P fr.eval o.op ty st K Y :=
  aexec_congr ty st K Y fun x hx => eval_put' fun d hd he => h d hd (looks_op hx he)
theorem want_put (o : Oper) (fr : AFr) (dst : Option Tmp) (u : AV) (h : ∀ d, dst = some d → d ∉ o.looksAt ops) : wantB ops (fr.put dst u) o = wantB ops fr o := by
  unfold wantB
  cases hg : o.guard with
  | none => rfl
  | some p =>
    obtain ⟨j, b⟩ := p
    simp only [n_put]
    cases hd : (ops[j]?).bind (·.dst) with
    | none => rfl
    | some d =>
      simp only []
      rw [look_put]
      intro d' hd' he
      refine h d' hd' ?_
      unfold Oper.looksAt
      rw [List.mem_append]
      right
      rw [hg]
      simp only [hd, he]
      simp
theorem AYields.of_put {o : Oper} {v : AV} {fr : AFr} (hy : AYields P ops S o v fr) (dst : Option Tmp) (u : AV) (h : ∀ d, dst = some d → d ∉ o.looksAt ops) : AYields P ops S o v (fr.put dst u) := by
  unfold AYields at *
  rw [want_put o fr dst u h]
  rcases hy with ⟨h1, h2⟩ | h1
  · exact .inl ⟨h1, fun st K Y hs hk => by rw [exec_put' o fr dst u h]; exact h2 st K Y hs hk⟩
  · exact .inr h1
theorem AYields.toOp {i : Nat} {o : Oper} {v : AV} {fr : AFr} (hi : ops[i]? = some o) (hy : AYields P ops S o v fr) {K : AFr → AS → Prop} {st : AS} (hS : S st) (h : K (fr.put o.dst v) st) : aopX P ops X i K fr st := by
  unfold aopX
  simp only [hi]
  rcases hy with ⟨h1, h2⟩ | ⟨h1, rfl⟩
  · rw [h1]; unfold awant; exact ⟨fun _ => h2 _ _ _ hS h, (fun e => by cases e)⟩
  · rw [h1]; unfold awant; exact ⟨(fun e => by cases e), fun _ => h⟩
theorem AYields.put {j : Nat} {oi oj : Oper} {v : AV} (hj : ops[j]? = some oj) (hap : oi.apart ops oj = true) {K : AFr → AS → Prop} (hK : Fine K) {fr : AFr} {st : AS} (hy : AYields P ops S oi v fr)
    (h : aopX P ops X j K (fr.put oi.dst v) st) : aopX P ops X j (fun fr' st' => AYields P ops S oi v fr' ∧ K (fr'.put oi.dst v) st') fr st := by
  obtain ⟨h1, h2, h3⟩ := Oper.apart_spec hap
  unfold aopX at *
  simp only [hj] at *
  rw [want_put oj fr oi.dst v h1] at h
  unfold awant at *
  split at h
  · refine ⟨fun e => ?_, fun e => ?_⟩
    · have := h.1 e
      rw [exec_put oj fr oi.dst v h1] at this
      exact aexec_mono (fun u s hu => ⟨hy.of_put oj.dst u h3, hK _ _ _ (FEq.comm fr v u h2) hu⟩) (fun _ _ h => h) this
    · exact ⟨hy.of_put oj.dst .und h3, hK _ _ _ (FEq.comm fr v .und h2) (h.2 e)⟩
  · exact h.elim
theorem aAnyD_first (hN : Fine N) {i f : Nat} {oi : Oper} {v : AV} (hi : ops[i]? = some oi) (hl : ∀ t ∈ late, waitsB md ops i f t = true) :
    ∀ (fuel : Nat) (listed : Array Bool) (fr : AFr) (st : AS), S st → Closed md ops listed →
      (∀ j oj, ops[j]? = some oj → j ≠ i → listed.getD j true = false → (∀ e ∈ oj.after, Region.binds md e = true → e.on ≠ i) → oi.apart ops oj = true) →
      i ∈ Region.ready md ops listed → AYields P ops S oi v fr →
      aAnyD P md ops X N S late fuel (listed.setIfInBounds i true) (fr.put oi.dst v) st → aAnyD P md ops X N S late (fuel + 1) listed fr st := by
  intro fuel
  induction fuel with
  | zero =>
    intro listed fr st hS hcl _ hr hy H
    refine ⟨fun h => (by rw [h] at hr; cases hr), fun j hj => ?_⟩
    by_cases hji : j = i
    · subst hji; exact hy.toOp hi hS ⟨fun _ => hS, H⟩
    · have := ready_mono hj hji
      rw [H.1] at this
      cases this
  | succ fuel ih =>
    intro listed fr st hS hcl hfree hr hy H
    refine ⟨fun h => (by rw [h] at hr; cases hr), fun j hj => ?_⟩
    by_cases hji : j = i
    · subst hji; exact hy.toOp hi hS ⟨fun _ => hS, H⟩
    · have h1 := H.2 j (ready_mono hj hji)
      obtain ⟨hjun, oj, hoj, hall⟩ := mem_ready.1 hj
      have hnot : ∀ e ∈ oj.after, Region.binds md e = true → e.on ≠ i := fun e he hb heq => by
        have h1 := hall e he hb
        rw [heq, ready_not_listed hr] at h1
        cases h1
      have hjl : j ∉ late := fun hm => by
        have := waits_ready hcl (hl j hm) hj
        rw [ready_not_listed hr] at this
        cases this
      have hfine : Fine (fun fr' st' => (j ∉ late → S st') ∧ aAnyD P md ops X N S late fuel ((listed.setIfInBounds i true).setIfInBounds j true) fr' st') :=
        fun a b s hab hk => ⟨hk.1, aAnyD_fine hN fuel _ a b s hab hk.2⟩
      have h2 := AYields.put hoj (hfree j oj hoj hji hjun hnot) hfine hy h1
      have hfree' : ∀ k ok, ops[k]? = some ok → k ≠ i → (listed.setIfInBounds j true).getD k true = false →
          (∀ e ∈ ok.after, Region.binds md e = true → e.on ≠ i) → oi.apart ops ok = true := fun k ok hk hki hun hno => by
        refine hfree k ok hk hki ?_ hno
        by_cases hjk : j = k
        · subst hjk; exact hjun
        · rw [getD_set_ne true hjk] at hun; exact hun
      refine aopX_mono (fun fr' st' h3 => ?_) h2
      have hs := h3.2.1 hjl
      have h4 := h3.2.2
      refine ⟨fun _ => hs, ?_⟩
      refine ih (listed.setIfInBounds j true) fr' st' hs (hcl.set hj) hfree' (ready_mono hr (Ne.symm hji)) h3.1 ?_
      rw [Array.setIfInBounds_comm _ _ hji]
      exact h4

/-- The walk in the order of the text; f: may it come at any time? -/
def aord (P : Program) (ops : Array Oper) (X : AV → AS → Prop) (N : AFr → AS → Prop) (S : AS → Prop) (late : List Nat) : List (Nat × Bool) → AFr → AS → Prop
  | [], fr, st => N fr st
  | (i, false) :: r, fr, st => aopX P ops X i (fun fr' st' => (i ∉ late → S st') ∧ ((i ∉ late → S st') → aord P ops X N S late r fr' st')) fr st
  | (i, true) :: r, fr, st => S st ∧ ∃ o v, ops[i]? = some o ∧ AYields P ops S o v fr ∧ aord P ops X N S late r (fr.put o.dst v) st
theorem aAnyD_of_ord (hN : Fine N) (hs : Region.noSelect ops = true) : ∀ (l : List (Nat × Bool)) (listed : Array Bool) (fr : AFr) (st : AS), Closed md ops listed → ordC md ops late l listed = true → aord P ops X N S late l fr st →
    aAnyD P md ops X N S late l.length listed fr st
  | [], listed, fr, st, _, hB, h => ⟨by simpa [ordC] using hB, h⟩
  | (i, true) :: r, listed, fr, st, hcl, hB, h => by
    simp only [ordC, Bool.and_eq_true] at hB
    obtain ⟨⟨⟨hf, hr⟩, hl⟩, hB⟩ := hB
    obtain ⟨hst, o, v, ho, hy, hrest⟩ := h
    have hr' : i ∈ Region.ready md ops listed := by simpa using hr
    exact aAnyD_first hN ho (by simpa using hl) r.length listed fr st hst hcl (Region.free_spec ho hf) hr' hy (aAnyD_of_ord hN hs r _ _ _ (hcl.set hr') hB hrest)
  | (i, false) :: r, listed, fr, st, hcl, hB, h => by
    simp only [ordC, Bool.and_eq_true, beq_iff_eq] at hB
    have hi : i ∈ Region.ready md ops listed := by rw [hB.1]; simp
    have ih := aAnyD_of_ord hN hs r (listed.setIfInBounds i true)
    refine ⟨fun h0 => (by rw [h0] at hi; cases hi), fun j hj => ?_⟩
    have hji : j = i := by rw [hB.1] at hj; simpa using hj
    rw [hji]
    exact aopX_mono (fun fr st h2 => ⟨h2.1, ih fr st (hcl.set hi) hB.2 (h2.2 h2.1)⟩) h
end order
end Go.Proofs.YtjodibncpbjegaaDoor
/- Code on plain data: what a piece of code does, told by recursion over its text. No program. -/
set_option linter.unusedVariables false
set_option linter.unusedSimpArgs false
namespace Go.Proofs.YtjodibncpbjegaaDoor
open Go.RowKit

theorem wp_good' {P : Program} {c : Code} {a : Act} {w : World} {Q Q' : Exit → Act → World → Prop} (h : c.wp P Q a w) (hq : ∀ e a w, Q e a w → Q' e a w) : c.wp P Q' a w := wp_mono h hq

/-! ### Whether or not it is a round of a range over a function -/
def fen : Option Nat → Fence
  | none => Fence.wide
  | some l => Fence.wide.inRound l
theorem fen_fn (r : Option Nat) (f : FuncId) : (fen r).fn f := by cases r <;> trivial
theorem fen_depth (r : Option Nat) : ¬ (fen r).depth.isSome = true := by cases r <;> simp [fen, Fence.wide]
theorem fen_round (r : Option Nat) : (fen r).round = r := by cases r <;> rfl
def ndO (o : Oper) : Bool :=
  match o.op with
  | .defer _ => false
  | _ => true
def ndC : Code → Bool
  | .region _ ops _ => ops.all ndO
  | .seq a b => ndC a && ndC b
  | .cond _ a b => ndC a && ndC b
  | .block _ c => ndC c
  | .loop c => ndC c
  | .exit _ => true
  | .ret => true
  | .skip => true
  | .label _ => true
  | _ => false
def RO (r : Option Nat) (b : Bool) : Prop := r = none ∨ b = true
theorem calls_fen {r : Option Nat} {n : Nat} {P : Program} {f : FuncId} {args : Array Value} {w : World} {R : Ending → World → Prop} (h : Calls P f args w R) : CallsIn (fen r) n P f args w R := by
  cases r with
  | none => exact callsIn_wide.2 h
  | some l => exact CallsIn.inRound l (callsIn_wide.2 h)
theorem steps_fen {r : Option Nat} {P : Program} {m m' : Machine} (h : Steps P m m') : StepsIn (Machine.fenced P (fen r)) P m m' := by
  cases r with
  | none => exact stepsIn_wide.2 h
  | some l => rw [show Machine.fenced P (fen (some l)) = Machine.fenced P Fence.wide from fenced_inRound P _ l]; exact stepsIn_wide.2 h
theorem op_fen {r : Option Nat} {P : Program} {o : Oper} {a : Act} {w : World} {K : Act → World → Prop} {Q : Exit → Act → World → Prop} (hd : RO r (ndO o)) (h : o.wp P a w K Q) : o.wpIn (fen r) 0 P a w K Q := by
  refine ⟨fun f _ => fen_fn r f, ?_⟩
  have e : o.semAt (fen r).round a.eval = execOp a.eval o := by
    rw [fen_round]
    rcases hd with rfl | hd
    · rfl
    · exact Oper.semAt_eq _ _ _ (fun c hc => by simp [ndO, hc] at hd)
  rw [e]
  unfold Oper.wp at h
  generalize (execOp a.eval o).run P w = x at h ⊢
  cases x with
  | ok nx w' =>
    cases nx with
    | value v => exact h
    | skip => exact h
    | defer d => exact h
    | enter f args => exact ⟨fun hh => absurd hh (fen_depth r), (calls_fen h).mono fun e w hq => by cases e <;> exact hq⟩
    | row row args => exact ⟨fun hh => absurd hh (fen_depth r), fun c cs _ => let ⟨v, w', q, st⟩ := h c cs; ⟨v, w', q, steps_fen st⟩⟩
    | _ => exact h.elim
  | halt hh w' =>
    cases hh <;> exact h
theorem list_fen {r : Option Nat} {P : Program} {ops : Array Oper} {Q : Exit → Act → World → Prop} (hL : ¬ LetsOut Q) : ∀ (l : List Oper) (a : Act) (w : World), (∀ o ∈ l, RO r (ndO o)) → wpList P ops Q l a w → wpListIn (fen r) 0 P ops Q l a w
  | [], a, w, _, h => h
  | o :: rest, a, w, hd, h => by
    have hd' := fun x hx => hd x (List.mem_cons_of_mem _ hx)
    unfold wpList at h
    unfold wpListIn
    split
    · rename_i hw
      rw [if_pos hw] at h
      rcases h with h | ⟨_, h⟩
      · exact op_fen (hd o (List.mem_cons_self ..)) (Oper.wp_mono (fun a w hq => list_fen hL rest a w hd' hq) h)
      · exact absurd h hL
    · rename_i hw
      rw [if_neg hw] at h
      exact ⟨fun f _ => fen_fn r f, list_fen hL rest _ w hd' h⟩
theorem any_fen {r : Option Nat} {P : Program} {md : Region.Mode} {ops : Array Oper} {Q : Exit → Act → World → Prop} (hL : ¬ LetsOut Q) (hd : ∀ (i : Nat) o, ops[i]? = some o → RO r (ndO o)) : ∀ (fuel : Nat) (listed : Array Bool) (a : Act) (w : World), wpAny P md ops Q fuel listed a w → wpAnyIn (fen r) 0 P md ops Q fuel listed a w
  | 0, listed, a, w, h => h
  | fuel + 1, listed, a, w, h => by
    refine ⟨h.1, fun i hi => ?_⟩
    have h1 := h.2 i hi
    unfold wpOp at h1
    unfold wpOpIn
    cases ho : ops[i]? with
    | none => rw [ho] at h1; exact any_fen hL hd fuel _ a w h1
    | some o =>
      rw [ho] at h1
      simp only [] at h1 ⊢
      split
      · rename_i hw
        rw [if_pos hw] at h1
        rcases h1 with h1 | ⟨_, h1⟩
        · exact op_fen (hd i o ho) (Oper.wp_mono (fun a w hq => any_fen hL hd fuel _ a w hq) h1)
        · exact absurd h1 hL
      · rename_i hw
        rw [if_neg hw] at h1
        exact ⟨fun f _ => fen_fn r f, any_fen hL hd fuel _ _ w h1⟩
theorem qc_lets {D : FixD} {g : Gh} {Q : Post} : ¬ LetsOut (QC D g Q) := by
  rintro ⟨a, w, g', x, fr, st, _, _, _, h, _⟩
  cases h
theorem ro_all {r : Option Nat} {ops : Array Oper} (h : RO r (ops.all ndO)) : ∀ o ∈ ops.toList, RO r (ndO o) := fun o ho => by
  rcases h with h | h
  · exact .inl h
  · rw [Array.all_eq_true] at h
    obtain ⟨i, hi, rfl⟩ := List.mem_iff_getElem.1 ho
    exact .inr (h i (by simpa using hi))
theorem ro_get {r : Option Nat} {ops : Array Oper} (h : RO r (ops.all ndO)) (i : Nat) (o : Oper) (ho : ops[i]? = some o) : RO r (ndO o) := ro_all h o (by simpa using Array.mem_of_getElem? ho)
theorem ro_and {r : Option Nat} {a b : Bool} (h : RO r (a && b)) : RO r a ∧ RO r b := by
  rcases h with h | h
  · exact ⟨.inl h, .inl h⟩
  · simp only [Bool.and_eq_true] at h
    exact ⟨.inr h.1, .inr h.2⟩
theorem least {p : Nat → Prop} : ∀ (n : Nat), p n → ∃ m, p m ∧ ∀ k, k < m → ¬ p k := fun n => by
  induction n using Nat.strongRecOn with
  | _ n ih =>
    intro h
    by_cases hk : ∃ k, k < n ∧ p k
    · obtain ⟨k, h1, h2⟩ := hk
      exact ih k h1 h2
    · exact ⟨n, h, fun k hk' hp => hk ⟨k, hk', hp⟩⟩
theorem loop_fen {r : Option Nat} {P : Program} {Q : Exit → Act → World → Prop} {a : Act} {w : World} {c : Code} (I : Nat → Act → World → Prop) (n0 : Nat) (h0 : I n0 a w)
    (round : ∀ n a w, I n a w → c.wpIn (fen r) 0 P (Exit.then (fun a' w' => ∃ m, m < n ∧ I m a' w') Q) a w) : (Code.loop c).wpIn (fen r) 0 P Q a w := by
  obtain ⟨μ, hμ⟩ : ∃ μ : Act → World → Nat, ∀ a w, (∃ n, I n a w) → I (μ a w) a w ∧ ∀ k, k < μ a w → ¬ I k a w := by
    refine ⟨fun a w => Classical.epsilon fun m => I m a w ∧ ∀ k, k < m → ¬ I k a w, fun a w ⟨n, hn⟩ => ?_⟩
    exact Classical.epsilon_spec (least (p := fun m => I m a w) n hn)
  refine wpIn_loop (fun a w => ∃ n, I n a w) μ ⟨n0, h0⟩ fun a w hI => ?_
  obtain ⟨h1, h2⟩ := hμ a w hI
  refine wpIn_mono (round _ a w h1) fun e a' w' hq => ?_
  cases e with
  | normal =>
    obtain ⟨m, hm, hI'⟩ := hq
    refine ⟨⟨m, hI'⟩, ?_⟩
    have := (hμ a' w' ⟨m, hI'⟩).2
    rcases Nat.lt_or_ge m (μ a' w') with hlt | hge
    · exact absurd hI' (this m hlt)
    · omega
  | _ => exact hq

/-- A region that draws its order. -/
def ADraw (P : Program) (ops : Array Oper) (X : AV → AS → Prop) (N : AFr → AS → Prop) (fr : AFr) (st : AS) : Prop :=
  ∀ r, RO r (ops.all ndO) → ∀ (D : FixD), (∀ (i : Nat) o, ops[i]? = some o → D.freeO o) → ∀ g0 g a w, g0.le g → Inv g st w → FSim D g fr a → ∀ id, (Code.region id ops true).wpIn (fen r) 0 P (QC D g0 (QN X N)) a w
theorem ADraw.of_ord {P : Program} {l : List Oper} {X : AV → AS → Prop} {N : AFr → AS → Prop} {fr : AFr} {st : AS} {S : AS → Prop} (late : List Nat) (order : List (Nat × Bool)) (hm : P.follows .mixedOrders = true)
    (hB : (Region.noSelect l.toArray && order.length == l.toArray.size && ordC .any l.toArray late order (Array.replicate l.toArray.size false)) = true)
    (h : aord P l.toArray X N S late order fr st) : ADraw P l.toArray X N fr st := by
  intro r hr D hd g0 g a w hg hi hf id
  simp only [Bool.and_eq_true, beq_iff_eq] at hB
  have hfine : Fine (fun fr st => ∃ fr0, FEq fr0 fr ∧ N fr0 st) := fun fr fr' st he ⟨fr0, h1, h2⟩ => ⟨fr0, h1.trans he, h2⟩
  have hmono : ∀ (order : List (Nat × Bool)) (fr : AFr) (s : AS), aord P l.toArray X N S late order fr s → aord P l.toArray X (fun fr st => ∃ fr0, FEq fr0 fr ∧ N fr0 st) S late order fr s := by
    intro order
    induction order with
    | nil => exact fun fr s h => ⟨fr, .refl fr, h⟩
    | cons p r ih =>
      obtain ⟨i, b⟩ := p
      cases b with
      | false => exact fun fr s h => aopX_mono (fun fr s h2 => ⟨h2.1, fun e => ih fr s (h2.2 e)⟩) h
      | true =>
        intro fr s h
        obtain ⟨h1, o, v, h2, h3, h4⟩ := h
        exact ⟨h1, o, v, h2, h3, ih _ _ h4⟩
  have hall := aAnyD.any _ _ _ _ (aAnyD_of_ord (P := P) (md := .any) (X := X) hfine hB.1.1 order _ fr st (closed_none _) hB.2 (hmono order fr st h))
  rw [hB.1.2] at hall
  have hs := aAny_sound hd _ _ fr st g a w.drew hall hg hi.drew hf
  refine wpIn_mono (wpIn_region_any hm (any_fen qc_lets (ro_get hr) _ _ _ _ hs)) fun e a w hq => ?_
  obtain ⟨g', x, fr', st', h1, h2, h3, h4, h5⟩ := hq
  cases x with
  | normal =>
    obtain ⟨fr0, k1, k2⟩ := h5
    exact ⟨g', .normal, fr0, st', h1, h2, h3.feq k1.symm, h4, k2⟩
  | panic v => exact ⟨g', .panic v, fr', st', h1, h2, h3, h4, h5⟩
  | exit id => exact h5.elim
  | ret => exact h5.elim

/-! ### Code -/
def thenK (K : AFr → AS → Prop) (Q : Post) : Post
  | .normal, fr, st => K fr st
  | x, fr, st => Q x fr st
def blockK (id : Nat) (Q : Post) : Post
  | .exit id', fr, st => if id' = id then Q .normal fr st else Q (.exit id') fr st
  | x, fr, st => Q x fr st
/-- What is said of a panic hangs on no frame. -/
def panicK (Q : Post) (fr : AFr) : AV → AS → Prop := fun v st => Q (.panic v) fr st
def PFree (Q : Post) : Prop := ∀ v fr fr' st, Q (.panic v) fr st → Q (.panic v) fr' st
/-- The code comes to one of Q's ends, in a round or not. -/
def DoesR (P : Program) (c : Code) (Q : Post) (fr : AFr) (st : AS) : Prop :=
  ∀ r, RO r (ndC c) → ∀ (D : FixD), D.free c → ∀ g a w, Inv g st w → FSim D g fr a → c.wpIn (fen r) 0 P (QC D g Q) a w
theorem DoesR.does {P : Program} {c : Code} {Q : Post} {fr : AFr} {st : AS} (h : DoesR P c Q fr st) : Does P c Q fr st := fun D hD g a w hi hf => wpIn_wide.1 (h none (.inl rfl) D hD g a w hi hf)
theorem DoesR.mono {P : Program} {c : Code} {Q Q' : Post} {fr : AFr} {st : AS} (h : DoesR P c Q fr st) (hq : ∀ x fr st, Q x fr st → Q' x fr st) : DoesR P c Q' fr st :=
  fun r hr D hD g a w hi hf => wpIn_mono (h r hr D hD g a w hi hf) fun e a w ⟨g', x, fr', st', h1, h2, h3, h4, h5⟩ => ⟨g', x, fr', st', h1, h2, h3, h4, hq _ _ _ h5⟩
def ALoop (P : Program) (c : Code) (Q : Post) (fr : AFr) (st : AS) : Prop := DoesR P (.loop c) Q fr st
def awp (P : Program) : Code → Post → AFr → AS → Prop
  | .skip, Q, fr, st => Q .normal fr st
  | .region _ ops false, Q, fr, st => aops P ops (panicK Q fr) (fun fr st => Q .normal fr st) ops.toList fr st
  | .region _ ops true, Q, fr, st => ADraw P ops (panicK Q fr) (fun fr st => Q .normal fr st) fr st
  | .seq a b, Q, fr, st => awp P a (thenK (awp P b Q) Q) fr st
  | .cond c x y, Q, fr, st => (match fr.eval c with
    | .s (.bool t) => (t = true → awp P x Q fr st) ∧ (t = false → awp P y Q fr st)
    | _ => False)
  | .block id c, Q, fr, st => awp P c (blockK id Q) fr st
  | .loop c, Q, fr, st => ALoop P c Q fr st
  | .exit id, Q, fr, st => Q (.exit id) fr st
  | .ret, Q, fr, st => Q .ret fr st
  | .label _, Q, fr, st => Q .normal fr st
  | .scope c, Q, fr, st => awp P c Q fr st
  | _, _, _, _ => False
theorem Does.of_free {P : Program} {c : Code} {Q : Post} {fr : AFr} {st : AS} (h : Does P c Q fr st) : Does P c Q fr st := h
theorem pfree_then {K : AFr → AS → Prop} {Q : Post} (h : PFree Q) : PFree (thenK K Q) := h
theorem pfree_block {id : Nat} {Q : Post} (h : PFree Q) : PFree (blockK id Q) := h
theorem awpR_sound {P : Program} : ∀ (c : Code) (Q : Post), PFree Q → ∀ (fr : AFr) (st : AS), awp P c Q fr st → DoesR P c Q fr st
  | .skip, Q, hp, fr, st, h => fun r hr D hD g a w hi hf => wpIn_skip ⟨g, .normal, fr, st, .refl g, hi, hf, .normal, h⟩
  | .region id ops false, Q, hp, fr, st, h => fun r hr D hD g a w hi hf => by
    have := aops_sound (g0 := g) _ fr st g a w (fun o ho t ht => hD t (List.mem_filterMap.2 ⟨o, ho, ht⟩)) h (.refl g) hi hf
    refine wpIn_mono (wpIn_region_list (list_fen qc_lets _ _ _ (ro_all hr) this)) fun e a w hq => ?_
    obtain ⟨g', x, fr', st', h1, h2, h3, h4, h5⟩ := hq
    cases x with
    | normal => exact ⟨g', .normal, fr', st', h1, h2, h3, h4, h5⟩
    | panic v => exact ⟨g', .panic v, fr', st', h1, h2, h3, h4, hp v fr fr' st' h5⟩
    | exit id => exact h5.elim
    | ret => exact h5.elim
  | .region id ops true, Q, hp, fr, st, h => fun r hr D hD g a w hi hf => by
    refine wpIn_mono (h r hr D (fun i o ho t ht => hD t (List.mem_filterMap.2 ⟨o, by simpa using Array.mem_of_getElem? ho, ht⟩)) g g a w (.refl g) hi hf id) fun e a w hq => ?_
    obtain ⟨g', x, fr', st', h1, h2, h3, h4, h5⟩ := hq
    cases x with
    | normal => exact ⟨g', .normal, fr', st', h1, h2, h3, h4, h5⟩
    | panic v => exact ⟨g', .panic v, fr', st', h1, h2, h3, h4, hp v fr fr' st' h5⟩
    | exit id => exact h5.elim
    | ret => exact h5.elim
  | .seq x y, Q, hp, fr, st, h => fun r hr D hD g a w hi hf => by
    refine wpIn_seq (wpIn_mono (awpR_sound x _ (pfree_then hp) fr st h r (ro_and hr).1 D (fun t ht => hD t (List.mem_append_left _ ht)) g a w hi hf) fun e a' w' hq => ?_)
    obtain ⟨g', xx, fr', st', h1, h2, h3, h4, h5⟩ := hq
    cases h4 with
    | normal =>
      refine wpIn_mono (awpR_sound y Q hp fr' st' h5 r (ro_and hr).2 D (fun t ht => hD t (List.mem_append_right _ ht)) g' a' w' h2 h3) fun e a w ⟨g2, x2, fr2, st2, k1, k2⟩ => ⟨g2, x2, fr2, st2, h1.trans k1, k2⟩
    | exit id => exact ⟨g', _, fr', st', h1, h2, h3, .exit id, h5⟩
    | ret => exact ⟨g', _, fr', st', h1, h2, h3, .ret, h5⟩
    | panic v z hz => exact ⟨g', _, fr', st', h1, h2, h3, .panic v z hz, h5⟩
  | .cond c x y, Q, hp, fr, st, h => fun r hr D hD g a w hi hf => by
    unfold awp at h
    split at h
    · rename_i t ht
      have hc := hf.eval c
      rw [ht] at hc
      refine wpIn_cond_split (hc.lit0 rfl) (fun e => ?_) (fun e => ?_)
      · exact awpR_sound x Q hp fr st (h.1 e) r (ro_and hr).1 D (fun t ht => hD t (List.mem_append_left _ ht)) g a w hi hf
      · exact awpR_sound y Q hp fr st (h.2 e) r (ro_and hr).2 D (fun t ht => hD t (List.mem_append_right _ ht)) g a w hi hf
    · exact h.elim
  | .block id c, Q, hp, fr, st, h => fun r hr D hD g a w hi hf => by
    refine wpIn_block (wpIn_mono (awpR_sound c _ (pfree_block hp) fr st h r hr D hD g a w hi hf) fun e a' w' hq => ?_)
    obtain ⟨g', xx, fr', st', h1, h2, h3, h4, h5⟩ := hq
    cases h4 with
    | normal => exact ⟨g', _, fr', st', h1, h2, h3, .normal, h5⟩
    | exit id' =>
      simp only [blockK] at h5
      simp only [Exit.inBlock]
      split at h5
      · rename_i e; rw [if_pos e]; exact ⟨g', _, fr', st', h1, h2, h3, .normal, h5⟩
      · rename_i e; rw [if_neg e]; exact ⟨g', _, fr', st', h1, h2, h3, .exit id', h5⟩
    | ret => exact ⟨g', _, fr', st', h1, h2, h3, .ret, h5⟩
    | panic v z hz => exact ⟨g', _, fr', st', h1, h2, h3, .panic v z hz, h5⟩
  | .loop c, Q, hp, fr, st, h => h
  | .exit id, Q, hp, fr, st, h => fun r hr D hD g a w hi hf => wpIn_exit ⟨g, .exit id, fr, st, .refl g, hi, hf, .exit id, h⟩
  | .ret, Q, hp, fr, st, h => fun r hr D hD g a w hi hf => wpIn_ret ⟨g, .ret, fr, st, .refl g, hi, hf, .ret, h⟩
  | .label l, Q, hp, fr, st, h => fun r hr D hD g a w hi hf => wpIn_label ⟨g, .normal, fr, st, .refl g, hi, hf, .normal, h⟩
  | .scope c, Q, hp, fr, st, h => fun r hr D hD g a w hi hf => by
    obtain rfl : r = none := by
      rcases hr with e | e
      · exact e
      · cases e
    refine wpIn_wide.2 (wp_scope_straight (wp_mono (wpIn_wide.1 (awpR_sound c Q hp fr st h none (.inl rfl) D hD g a w hi hf)) fun e a' w' hq => ?_))
    obtain ⟨g', xx, fr', st', h1, h2, h3, h4, h5⟩ := hq
    cases h4 with
    | normal => exact ⟨g', _, fr', st', h1, h2, h3, .normal, h5⟩
    | exit id' => exact ⟨g', _, fr', st', h1, h2, h3, .exit id', h5⟩
    | ret => exact ⟨g', _, fr', st', h1, h2, h3, .ret, h5⟩
    | panic v z hz => exact ⟨g', _, fr', st', h1, h2, h3, .panic v z hz, h5⟩
  | .rangeFunc _ _ _ _, Q, hp, fr, st, h => by simp [awp] at h
  | .goto _, Q, hp, fr, st, h => by simp [awp] at h
  | .refuse _, Q, hp, fr, st, h => by simp [awp] at h
theorem awp_sound {P : Program} (c : Code) (Q : Post) (hp : PFree Q) (fr : AFr) (st : AS) (h : awp P c Q fr st) : Does P c Q fr st := (awpR_sound c Q hp fr st h).does

/-- A loop: at each round's head a state s: its frame (or one that says more), its store. -/
theorem ALoop.of {P : Program} {c : Code} {Q : Post} {σ : Type} (I : σ → AFr) (S : σ → AS) (μ : σ → Nat) (s0 : σ) {fr : AFr} {st : AS} (h0 : (I s0).sub fr) (hs : S s0 = st)
    (round : ∀ s, DoesR P c (thenK (fun fr' st' => ∃ s', (I s').sub fr' ∧ S s' = st' ∧ μ s' < μ s) Q) (I s) (S s)) : ALoop P c Q fr st := by
  subst hs
  intro r hr D hD g a w hi hf
  refine loop_fen (fun n a' w' => ∃ s g', μ s = n ∧ g.le g' ∧ Inv g' (S s) w' ∧ FSim D g' (I s) a') (μ s0) ⟨s0, g, rfl, .refl g, hi, hf.sub h0⟩ ?_
  rintro n a' w' ⟨s, g', hn, h1, h2, h3⟩
  refine wpIn_mono (round s r hr D hD g' a' w' h2 h3) fun e a2 w2 hq => ?_
  obtain ⟨g2, x, fr2, st2, k1, k2, k3, k4, k5⟩ := hq
  cases k4 with
  | normal =>
    obtain ⟨s', q1, q2, q3⟩ := k5
    subst q2
    exact ⟨μ s', by omega, s', g2, rfl, h1.trans k1, k2, k3.sub q1⟩
  | exit id => exact ⟨g2, _, fr2, st2, h1.trans k1, k2, k3, .exit id, k5⟩
  | ret => exact ⟨g2, _, fr2, st2, h1.trans k1, k2, k3, .ret, k5⟩
  | panic v z hz => exact ⟨g2, _, fr2, st2, h1.trans k1, k2, k3, .panic v z hz, k5⟩
end Go.Proofs.YtjodibncpbjegaaDoor
