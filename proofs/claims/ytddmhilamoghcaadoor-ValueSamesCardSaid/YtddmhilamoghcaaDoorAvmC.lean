/- Code on plain data: what a piece of code does, told by recursion over its text. No program. -/
import Derived.Test.YtddmhilamoghcaaDoorAvmB
import Derived.Scope
set_option linter.unusedVariables false
set_option linter.unusedSimpArgs false
namespace Go.Proofs.YtddmhilamoghcaaDoor
open Go.RowKit

theorem wp_good' {P : Program} {c : Code} {a : Act} {w : World} {Q Q' : Exit → Act → World → Prop} (h : c.wp P Q a w) (hq : ∀ e a w, Q e a w → Q' e a w) : c.wp P Q' a w := wp_mono h hq

/-- A region that draws its order. -/
def ADraw (P : Program) (ops : Array Oper) (X : AV → AS → Prop) (N : AFr → AS → Prop) (fr : AFr) (st : AS) : Prop :=
  ∀ g0 g a w, g0.le g → Inv g st w → FSim g fr a → ∀ id, (Code.region id ops true).wp P (QC g0 (QN X N)) a w
theorem ADraw.of_ord {P : Program} {l : List Oper} {X : AV → AS → Prop} {N : AFr → AS → Prop} {fr : AFr} {st : AS} (late : List Nat) (order : List (Nat × Bool)) (hm : P.follows .mixedOrders = true)
    (hB : (Region.noSelect l.toArray && order.length == l.toArray.size && ordC .any l.toArray late order (Array.replicate l.toArray.size false)) = true)
    (h : aord P l.toArray X N st late order fr st) : ADraw P l.toArray X N fr st := by
  intro g0 g a w hg hi hf id
  simp only [Bool.and_eq_true, beq_iff_eq] at hB
  have hfine : Fine (fun fr st => ∃ fr0, FEq fr0 fr ∧ N fr0 st) := fun fr fr' st he ⟨fr0, h1, h2⟩ => ⟨fr0, h1.trans he, h2⟩
  have hmono : ∀ (order : List (Nat × Bool)) (fr : AFr) (s : AS), aord P l.toArray X N st late order fr s → aord P l.toArray X (fun fr st => ∃ fr0, FEq fr0 fr ∧ N fr0 st) st late order fr s := by
    intro order
    induction order with
    | nil => exact fun fr s h => ⟨fr, .refl fr, h⟩
    | cons p r ih =>
      obtain ⟨i, b⟩ := p
      cases b with
      | false => exact fun fr s h => aopX_mono (fun fr s h2 => ⟨h2.1, fun e => ih fr s (h2.2 e)⟩) h
      | true =>
        intro fr s h
        obtain ⟨h1, o, v, h2, h3, h4⟩ := h
        exact ⟨h1, o, v, h2, h3, ih _ _ h4⟩
  have hall := aAnyD.any _ _ _ _ (aAnyD_of_ord (P := P) (md := .any) (X := X) hfine hB.1.1 order _ fr st (closed_none _) hB.2 (hmono order fr st h))
  rw [hB.1.2] at hall
  have hs := aAny_sound _ _ fr st g a w.drew hall hg hi.drew hf
  refine wp_mono (wp_region_any hm hs) fun e a w hq => ?_
  obtain ⟨g', x, fr', st', h1, h2, h3, h4, h5⟩ := hq
  cases x with
  | normal =>
    obtain ⟨fr0, k1, k2⟩ := h5
    exact ⟨g', .normal, fr0, st', h1, h2, h3.feq k1.symm, h4, k2⟩
  | panic v => exact ⟨g', .panic v, fr', st', h1, h2, h3, h4, h5⟩
  | exit id => exact h5.elim
  | ret => exact h5.elim

/-! ### Code -/
def thenK (K : AFr → AS → Prop) (Q : Post) : Post
  | .normal, fr, st => K fr st
  | x, fr, st => Q x fr st
def blockK (id : Nat) (Q : Post) : Post
  | .exit id', fr, st => if id' = id then Q .normal fr st else Q (.exit id') fr st
  | x, fr, st => Q x fr st
/-- What is said of a panic hangs on no frame. -/
def panicK (Q : Post) (fr : AFr) : AV → AS → Prop := fun v st => Q (.panic v) fr st
def PFree (Q : Post) : Prop := ∀ v fr fr' st, Q (.panic v) fr st → Q (.panic v) fr' st
def ALoop (P : Program) (c : Code) (Q : Post) (fr : AFr) (st : AS) : Prop := Does P (.loop c) Q fr st
def awp (P : Program) : Code → Post → AFr → AS → Prop
  | .skip, Q, fr, st => Q .normal fr st
  | .region _ ops false, Q, fr, st => aops P ops (panicK Q fr) (fun fr st => Q .normal fr st) ops.toList fr st
  | .region _ ops true, Q, fr, st => ADraw P ops (panicK Q fr) (fun fr st => Q .normal fr st) fr st
  | .seq a b, Q, fr, st => awp P a (thenK (awp P b Q) Q) fr st
  | .cond c x y, Q, fr, st => (match fr.eval c with
    | .s (.bool t) => (t = true → awp P x Q fr st) ∧ (t = false → awp P y Q fr st)
    | _ => False)
  | .block id c, Q, fr, st => awp P c (blockK id Q) fr st
  | .loop c, Q, fr, st => ALoop P c Q fr st
  | .exit id, Q, fr, st => Q (.exit id) fr st
  | .ret, Q, fr, st => Q .ret fr st
  | .label _, Q, fr, st => Q .normal fr st
  | .scope c, Q, fr, st => awp P c Q fr st
  | _, _, _, _ => False
theorem Does.of_free {P : Program} {c : Code} {Q : Post} {fr : AFr} {st : AS} (h : Does P c Q fr st) : Does P c Q fr st := h
theorem pfree_then {K : AFr → AS → Prop} {Q : Post} (h : PFree Q) : PFree (thenK K Q) := h
theorem pfree_block {id : Nat} {Q : Post} (h : PFree Q) : PFree (blockK id Q) := h
theorem awp_sound {P : Program} : ∀ (c : Code) (Q : Post), PFree Q → ∀ (fr : AFr) (st : AS), awp P c Q fr st → Does P c Q fr st
  | .skip, Q, hp, fr, st, h => fun g a w hi hf => wp_skip ⟨g, .normal, fr, st, .refl g, hi, hf, .normal, h⟩
  | .region id ops false, Q, hp, fr, st, h => fun g a w hi hf => by
    have := aops_sound (g0 := g) _ fr st g a w h (.refl g) hi hf
    refine wp_mono (wp_region_list this) fun e a w hq => ?_
    obtain ⟨g', x, fr', st', h1, h2, h3, h4, h5⟩ := hq
    cases x with
    | normal => exact ⟨g', .normal, fr', st', h1, h2, h3, h4, h5⟩
    | panic v => exact ⟨g', .panic v, fr', st', h1, h2, h3, h4, hp v fr fr' st' h5⟩
    | exit id => exact h5.elim
    | ret => exact h5.elim
  | .region id ops true, Q, hp, fr, st, h => fun g a w hi hf => by
    refine wp_mono (h g g a w (.refl g) hi hf id) fun e a w hq => ?_
    obtain ⟨g', x, fr', st', h1, h2, h3, h4, h5⟩ := hq
    cases x with
    | normal => exact ⟨g', .normal, fr', st', h1, h2, h3, h4, h5⟩
    | panic v => exact ⟨g', .panic v, fr', st', h1, h2, h3, h4, hp v fr fr' st' h5⟩
    | exit id => exact h5.elim
    | ret => exact h5.elim
  | .seq x y, Q, hp, fr, st, h => fun g a w hi hf => by
    refine wp_seq (wp_mono (awp_sound x _ (pfree_then hp) fr st h g a w hi hf) fun e a' w' hq => ?_)
    obtain ⟨g', xx, fr', st', h1, h2, h3, h4, h5⟩ := hq
    cases h4 with
    | normal =>
      refine wp_mono (awp_sound y Q hp fr' st' h5 g' a' w' h2 h3) fun e a w ⟨g2, x2, fr2, st2, k1, k2⟩ => ⟨g2, x2, fr2, st2, h1.trans k1, k2⟩
    | exit id => exact ⟨g', _, fr', st', h1, h2, h3, .exit id, h5⟩
    | ret => exact ⟨g', _, fr', st', h1, h2, h3, .ret, h5⟩
    | panic v z hz => exact ⟨g', _, fr', st', h1, h2, h3, .panic v z hz, h5⟩
  | .cond c x y, Q, hp, fr, st, h => fun g a w hi hf => by
    unfold awp at h
    split at h
    · rename_i t ht
      have hc := hf.eval c
      rw [ht] at hc
      refine wp_cond_split (hc.lit0 rfl) (fun e => ?_) (fun e => ?_)
      · exact awp_sound x Q hp fr st (h.1 e) g a w hi hf
      · exact awp_sound y Q hp fr st (h.2 e) g a w hi hf
    · exact h.elim
  | .block id c, Q, hp, fr, st, h => fun g a w hi hf => by
    refine wp_block (wp_mono (awp_sound c _ (pfree_block hp) fr st h g a w hi hf) fun e a' w' hq => ?_)
    obtain ⟨g', xx, fr', st', h1, h2, h3, h4, h5⟩ := hq
    cases h4 with
    | normal => exact ⟨g', _, fr', st', h1, h2, h3, .normal, h5⟩
    | exit id' =>
      simp only [blockK] at h5
      simp only [Exit.inBlock]
      split at h5
      · rename_i e; rw [if_pos e]; exact ⟨g', _, fr', st', h1, h2, h3, .normal, h5⟩
      · rename_i e; rw [if_neg e]; exact ⟨g', _, fr', st', h1, h2, h3, .exit id', h5⟩
    | ret => exact ⟨g', _, fr', st', h1, h2, h3, .ret, h5⟩
    | panic v z hz => exact ⟨g', _, fr', st', h1, h2, h3, .panic v z hz, h5⟩
  | .loop c, Q, hp, fr, st, h => h
  | .exit id, Q, hp, fr, st, h => fun g a w hi hf => wp_exit ⟨g, .exit id, fr, st, .refl g, hi, hf, .exit id, h⟩
  | .ret, Q, hp, fr, st, h => fun g a w hi hf => wp_ret ⟨g, .ret, fr, st, .refl g, hi, hf, .ret, h⟩
  | .label l, Q, hp, fr, st, h => fun g a w hi hf => wp_label ⟨g, .normal, fr, st, .refl g, hi, hf, .normal, h⟩
  | .scope c, Q, hp, fr, st, h => fun g a w hi hf => by
    refine wp_scope_straight (wp_mono (awp_sound c Q hp fr st h g a w hi hf) fun e a' w' hq => ?_)
    obtain ⟨g', xx, fr', st', h1, h2, h3, h4, h5⟩ := hq
    cases h4 with
    | normal => exact ⟨g', _, fr', st', h1, h2, h3, .normal, h5⟩
    | exit id' => exact ⟨g', _, fr', st', h1, h2, h3, .exit id', h5⟩
    | ret => exact ⟨g', _, fr', st', h1, h2, h3, .ret, h5⟩
    | panic v z hz => exact ⟨g', _, fr', st', h1, h2, h3, .panic v z hz, h5⟩
  | .rangeFunc _ _ _ _, Q, hp, fr, st, h => by simp [awp] at h
  | .goto _, Q, hp, fr, st, h => by simp [awp] at h
  | .refuse _, Q, hp, fr, st, h => by simp [awp] at h

/-- A loop: at each round's head a state s: its frame (or one that says more), its store. -/
theorem ALoop.of {P : Program} {c : Code} {Q : Post} {σ : Type} (I : σ → AFr) (S : σ → AS) (μ : σ → Nat) (s0 : σ) {fr : AFr} {st : AS} (h0 : (I s0).sub fr) (hs : S s0 = st)
    (round : ∀ s, Does P c (thenK (fun fr' st' => ∃ s', (I s').sub fr' ∧ S s' = st' ∧ μ s' < μ s) Q) (I s) (S s)) : ALoop P c Q fr st := by
  subst hs
  intro g a w hi hf
  refine wp_loop_ghost (fun n a' w' => ∃ s g', μ s = n ∧ g.le g' ∧ Inv g' (S s) w' ∧ FSim g' (I s) a') (μ s0) ⟨s0, g, rfl, .refl g, hi, hf.sub h0⟩ ?_
  rintro n a' w' ⟨s, g', hn, h1, h2, h3⟩
  refine wp_mono (round s g' a' w' h2 h3) fun e a2 w2 hq => ?_
  obtain ⟨g2, x, fr2, st2, k1, k2, k3, k4, k5⟩ := hq
  cases k4 with
  | normal =>
    obtain ⟨s', q1, q2, q3⟩ := k5
    subst q2
    exact ⟨μ s', by omega, s', g2, rfl, h1.trans k1, k2, k3.sub q1⟩
  | exit id => exact ⟨g2, _, fr2, st2, h1.trans k1, k2, k3, .exit id, k5⟩
  | ret => exact ⟨g2, _, fr2, st2, h1.trans k1, k2, k3, .ret, k5⟩
  | panic v z hz => exact ⟨g2, _, fr2, st2, h1.trans k1, k2, k3, .panic v z hz, k5⟩
end Go.Proofs.YtddmhilamoghcaaDoor
