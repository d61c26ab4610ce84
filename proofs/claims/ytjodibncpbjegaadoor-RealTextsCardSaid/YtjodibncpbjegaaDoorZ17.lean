/- Merged: AvmF. -/
import Derived.Test.YtjodibncpbjegaaDoorZ16
/- Regions that draw their order, walked in the order of the text; loops; ends of functions. No program. -/
set_option linter.unusedVariables false
set_option linter.unusedSimpArgs false
namespace Go.Proofs.YtjodibncpbjegaaDoor
open Go.RowKit

/-! ### What an operation yields, if it leaves the store alone -/
def freeK (st0 : AS) (K : AV → Prop) : AV → AS → Prop := fun v st => st = st0 ∧ K v
def noX : AV → AS → Prop := fun _ _ => False
/-- The call yields v, whenever it comes, and leaves the store alone. -/
def GivesAt (P : Program) (f : FuncId) (args : List AV) (st : AS) (v : AV) : Prop := ∀ R : AOut → AS → Prop, R (.ret v) st → DoesCall P f args st R
theorem Gives.at_ {P : Program} {f : FuncId} {args : List AV} {v : AV} (h : Gives P f args v) (st : AS) : GivesAt P f args st v := fun R hr => (h st).mono fun o st' ⟨e1, e2⟩ => by subst e1 e2; exact hr
def afreeF (P : Program) (f : AV) (args : List AV) (st : AS) (K : AV → Prop) : Prop :=
  match f with
  | .fn (.func k) caps => match hasBody P k with
    | true => ∃ v, GivesAt P k (args ++ caps) st v ∧ K v
    | false => alitsK P k (AV.lits (args ++ caps)) (extK (freeK st K) st)
  | _ => False
def afree (P : Program) (ρ : Operand → AV) (op : Op) (ty : TypeId) (st : AS) (K : AV → Prop) : Prop :=
  match op with
  | .call ⟨.value f, args, _⟩ => afreeF P (ρ f) (args.toList.map ρ) st K
  | .pick c a b => (match ρ c with | .s (.bool t) => K (if t = true then ρ a else ρ b) | _ => False)
  | .store _ _ _ => False
  | .mapUpdate _ _ _ _ => False
  | .mapEntry _ _ _ => False
  | .entryStore _ _ _ _ => False
  | .call ⟨.builtin .append, _, _⟩ => False
  | op => aexec P ρ op ty st (freeK st K) noX
def Det (f : (AV → Prop) → Prop) : Prop := ∀ K, f K → ∃ v, K v ∧ ∀ K', K' v → f K'
section det
variable {P : Program} {st : AS} {K : AV → Prop}
theorem TRun.det {sem : Sem Value} {F : Value → AV} (h : TRun P sem fun r => K (F r)) : ∃ v, K v ∧ ∀ K' : AV → Prop, K' v → TRun P sem fun r => K' (F r) := by
  obtain ⟨v, h1, h2⟩ := h
  exact ⟨F v, h2, fun K' hk => ⟨v, h1, hk⟩⟩
theorem abuild_det {t : Option TyI} {ps : List (Nat × AV)} (h : abuild t ps K) : ∃ v, K v ∧ ∀ K' : AV → Prop, K' v → abuild t ps K' := by
  unfold abuild at *
  split at h
  · try dsimp only at *
    split at h
    · exact ⟨_, h.2, fun K' hk => ⟨h.1, hk⟩⟩
    · exact h.elim
  · try dsimp only at *
    split at h
    · exact ⟨_, h.2, fun K' hk => ⟨h.1, hk⟩⟩
    · exact h.elim
  · exact h.elim
theorem abuildSlice_det {t : Option TyI} {n : Nat} {ps : List (Nat × AV)} (h : abuildSlice P t n ps K) : ∃ v, K v ∧ ∀ K' : AV → Prop, K' v → abuildSlice P t n ps K' := by
  unfold abuildSlice at *
  split at h
  · try dsimp only at *
    split at h
    · obtain ⟨a, b, c, d, e, h⟩ := h
      split at h
      · exact ⟨_, h, fun K' hk => ⟨a, b, c, d, e, hk⟩⟩
      · exact h.elim
    · exact h.elim
  · exact h.elim
theorem aload_det {t : Option TyI} {a : AV} (h : aload t a st K) : ∃ v, K v ∧ ∀ K' : AV → Prop, K' v → aload t a st K' := by
  unfold aload at *
  split at h
  · try dsimp only at *
    split at h
    · try dsimp only at *
      split at h
      · rename_i c; exact ⟨_, h.2, fun K' hk => by rw [if_pos c]; exact ⟨h.1, hk⟩⟩
      · rename_i c
        split at h
        · exact ⟨_, h, fun K' hk => by rw [if_neg c]; exact hk⟩
        · exact h.elim
    · try dsimp only at *
      split at h
      · try dsimp only at *
        split at h
        · rename_i c; exact ⟨_, h.2.2, fun K' hk => by rw [if_pos c]; exact ⟨h.1, h.2.1, hk⟩⟩
        · rename_i c
          split at h
          · exact ⟨_, h.2, fun K' hk => by rw [if_neg c]; exact ⟨h.1, hk⟩⟩
          · exact h.elim
      · exact h.elim
    · exact h.elim
  · exact h.elim
theorem anil_det {a : AV} (h : anil a K) : ∃ v, K v ∧ ∀ K' : AV → Prop, K' v → anil a K' := by
  unfold anil at *
  split at h
  · exact ⟨_, h, fun K' hk => hk⟩
  · exact ⟨_, h, fun K' hk => hk⟩
  · exact ⟨_, h, fun K' hk => hk⟩
  · exact h.elim
theorem abin_det {op : BinOp} {t : TypeId} {x y : Operand} {a b : AV} (h : abin P op t x y a b K) : ∃ v, K v ∧ ∀ K' : AV → Prop, K' v → abin P op t x y a b K' := by
  unfold abin at *
  split at h
  · exact TRun.det h
  · exact h.elim
theorem aconv_det {s d : TypeId} {a : AV} {ln : List (Nat × Nat × Nat)} (h : aconv P s d a ln K) : ∃ v, K v ∧ ∀ K' : AV → Prop, K' v → aconv P s d a ln K' := by
  unfold aconv at *
  split at h
  · try dsimp only at *
    split at h
    · try dsimp only at *
      split at h
      · obtain ⟨l, e, h⟩ := h
        exact ⟨_, h, fun K' hk => ⟨l, e, hk⟩⟩
      · exact h.elim
    · try dsimp only at *
      split at h
      · exact ⟨_, h.2.2.2.2, fun K' hk => ⟨h.1, h.2.1, h.2.2.1, h.2.2.2.1, hk⟩⟩
      · exact h.elim
    · exact h.elim
  · split at h
    · exact TRun.det h
    · exact h.elim
theorem aiface_det {t : Option TyI} {x : TypeId} {a : AV} (h : aiface t x a K) : ∃ v, K v ∧ ∀ K' : AV → Prop, K' v → aiface t x a K' := by
  unfold aiface at *
  split at h
  · exact h.elim
  · exact ⟨_, h, fun K' hk => hk⟩
  · exact h.elim
theorem aslice_det {t : TypeId} {a : AV} {lo hi : Option AV} (h : aslice P t a lo hi K) : ∃ v, K v ∧ ∀ K' : AV → Prop, K' v → aslice P t a lo hi K' := by
  unfold aslice at *
  split at h
  · try dsimp only at *
    split at h
    · try dsimp only at *
      split at h
      · exact ⟨_, h.2.2.2.2.2, fun K' hk => ⟨h.1, h.2.1, h.2.2.1, h.2.2.2.1, h.2.2.2.2.1, hk⟩⟩
      · exact h.elim
    · exact h.elim
  · split at h
    · try dsimp only at *
      split at h
      · exact TRun.det h
      · exact TRun.det h
      · exact TRun.det h
      · exact TRun.det h
      · exact h.elim
    · exact h.elim
theorem afieldAddr_det {t : Option TyI} {a : AV} {f : Nat} (h : afieldAddr t a f K) : ∃ v, K v ∧ ∀ K' : AV → Prop, K' v → afieldAddr t a f K' := by
  unfold afieldAddr at *
  split at h
  · try dsimp only at *
    split at h
    · obtain ⟨c, h⟩ := h
      split at h
      · exact ⟨_, h, fun K' hk => ⟨c, hk⟩⟩
      · exact ⟨_, h, fun K' hk => ⟨c, hk⟩⟩
      · exact h.elim
    · exact h.elim
  · exact h.elim
theorem afield_det {t : Option TyI} {a : AV} {f : Nat} (h : afield t a f K) : ∃ v, K v ∧ ∀ K' : AV → Prop, K' v → afield t a f K' := by
  unfold afield at *
  split at h
  · try dsimp only at *
    split at h
    · exact ⟨_, h.2.2, fun K' hk => ⟨h.1, h.2.1, hk⟩⟩
    · obtain ⟨c, h⟩ := h
      split at h
      · exact ⟨_, h, fun K' hk => ⟨c, hk⟩⟩
      · exact h.elim
    · exact h.elim
  · exact h.elim
theorem aindexAddr_det {t : Option TyI} {a i : AV} (h : aindexAddr t a i K) : ∃ v, K v ∧ ∀ K' : AV → Prop, K' v → aindexAddr t a i K' := by
  unfold aindexAddr at *
  split at h
  · obtain ⟨c, d, h⟩ := h
    split at h
    · exact ⟨_, h.2, fun K' hk => ⟨c, d, h.1, hk⟩⟩
    · exact h.elim
  · exact ⟨_, h.2.2.2, fun K' hk => ⟨h.1, h.2.1, h.2.2.1, hk⟩⟩
  · exact h.elim
theorem aindex_det {t : TypeId} {a i : AV} (h : aindex P t a i K) : ∃ v, K v ∧ ∀ K' : AV → Prop, K' v → aindex P t a i K' := by
  unfold aindex at *
  split at h
  · try dsimp only at *
    split at h
    · obtain ⟨c, d, h⟩ := h
      split at h
      · exact ⟨_, h, fun K' hk => ⟨c, d, hk⟩⟩
      · exact h.elim
    · exact h.elim
  · split at h
    · exact TRun.det h
    · exact h.elim
theorem aextract_det {a : AV} {i : Nat} (h : aextract a i K) : ∃ v, K v ∧ ∀ K' : AV → Prop, K' v → aextract a i K' := by
  unfold aextract at *
  split at h
  · try dsimp only at *
    split at h
    · exact ⟨_, h, fun K' hk => hk⟩
    · exact h.elim
  · exact h.elim
theorem alen_det {ts : Array TypeId} {a : AV} (h : alen P ts a K) : ∃ v, K v ∧ ∀ K' : AV → Prop, K' v → alen P ts a K' := by
  unfold alen at *
  split at h
  · try dsimp only at *
    split at h
    · exact ⟨_, h, fun K' hk => hk⟩
    · exact h.elim
  · split at h
    · exact TRun.det h
    · exact h.elim
theorem alookup_det {t : TypeId} {x k : AV} {c : Bool} (h : alookup P t x k c st K) : ∃ v, K v ∧ ∀ K' : AV → Prop, K' v → alookup P t x k c st K' := by
  unfold alookup at *
  split at h
  · obtain ⟨kt, e, m, r, h1, h2, h3, h4, h5, h6⟩ := h
    cases r with
    | some q => exact ⟨_, h6, fun K' hk => ⟨kt, e, m, some q, h1, h2, h3, h4, h5, hk⟩⟩
    | none => obtain ⟨i, k1, k2, k3⟩ := h6; exact ⟨_, k3, fun K' hk => ⟨kt, e, m, none, h1, h2, h3, h4, h5, i, k1, k2, hk⟩⟩
  · exact h.elim
theorem aarrAt_det {t : Option TyI} {x : AV} (h : aarrAt t x K) : ∃ v, K v ∧ ∀ K' : AV → Prop, K' v → aarrAt t x K' := by
  unfold aarrAt at *
  split at h
  · exact ⟨_, h.2.2, fun K' hk => ⟨h.1, h.2.1, hk⟩⟩
  · exact h.elim
theorem amakeSlice_det {t : TypeId} {n c : AV} (h : amakeSlice P t n c K) : ∃ v, K v ∧ ∀ K' : AV → Prop, K' v → amakeSlice P t n c K' := by
  unfold amakeSlice at *
  split at h
  · try dsimp only at *
    split at h
    · obtain ⟨h1, h2, h3, h4, h5, h6, h7, h8, h9⟩ := h
      exact ⟨_, h9, fun K' hk => ⟨h1, h2, h3, h4, h5, h6, h7, h8, hk⟩⟩
    · exact h.elim
  · exact h.elim
end det
theorem and_free {st : AS} {K : AV → Prop} {f : (AV → Prop) → Prop} (hd : ∀ K, f K → ∃ v, K v ∧ ∀ K' : AV → Prop, K' v → f K') (h : f fun v => freeK st K v st) : ∃ v, K v ∧ ∀ J : AV → AS → Prop, J v st → f fun v => J v st := by
  obtain ⟨v, h1, h2⟩ := hd _ h
  exact ⟨v, h1.2, fun J hj => h2 _ hj⟩
theorem push_ne {α : Type} {l : List α} (x : α) (h : l ++ [x] = l) : False := by
  have := congrArg List.length h
  simp at this
/-- What is free yields one value, whenever it comes. -/
theorem afree_yields {P : Program} {ρ : Operand → AV} {op : Op} {ty : TypeId} {st : AS} {K : AV → Prop} (h : afree P ρ op ty st K) : ∃ v, K v ∧ ∀ (J X : AV → AS → Prop), J v st → aexec P ρ op ty st J X := by
  unfold afree at h
  split at h
  · rename_i f args ts
    unfold afreeF at h
    split at h
    · rename_i k caps hf
      split at h
      · rename_i hb
        obtain ⟨v, h1, h2⟩ := h
        refine ⟨v, h2, fun J X hj => ?_⟩
        simp only [aexec, acall, hf, acallF]
        exact .inl ⟨hb, h1 _ hj⟩
      · rename_i hb
        unfold alitsK at h
        split at h
        · rename_i r hr
          obtain ⟨nx, h1, h2⟩ := h
          unfold extK at h2
          split at h2
          · rename_i v
            refine ⟨AV.ofV v, h2.2, fun J X hj => ?_⟩
            simp only [aexec, acall, hf, acallF, hr]
            exact .inr ⟨hb, _, h1, hj⟩
          · exact h2.elim
        · exact h.elim
    · exact h.elim
  · rename_i c a b
    split at h
    · rename_i t ht
      refine ⟨_, h, fun J X hj => ?_⟩
      simp only [aexec, apick, ht]
      refine ⟨fun e => ?_, fun e => ?_⟩
      · rw [if_pos e] at hj; exact hj
      · rw [if_neg (by simp [e])] at hj; exact hj
    · exact h.elim
  · exact h.elim
  · exact h.elim
  · exact h.elim
  · exact h.elim
  · exact h.elim
  · rename_i hn1 hn2 hn3 hn5 hn6 hn7 hn4
    cases op <;> simp only [aexec] at h ⊢
    case move x => exact ⟨_, h.2, fun J X hj => hj⟩
    case assign x => exact ⟨_, h.2, fun J X hj => hj⟩
    case pick c a b => exact absurd rfl (hn2 c a b)
    case alloc e =>
      unfold aalloc at h
      split at h
      · exact (push_ne _ (congrArg AS.bx h.2.2.1)).elim
      · exact h.elim
    case box e x => exact (push_ne _ (congrArg AS.bx h.2.2.1)).elim
    case build t ps => obtain ⟨v, h1, h2⟩ := and_free (fun K h => abuild_det h) h; exact ⟨v, h1, fun J X hj => h2 J hj⟩
    case buildSlice t n ps => obtain ⟨v, h1, h2⟩ := and_free (fun K h => abuildSlice_det h) h; exact ⟨v, h1, fun J X hj => h2 J hj⟩
    case load t a => obtain ⟨v, h1, h2⟩ := and_free (fun K h => aload_det h) h; exact ⟨v, h1, fun J X hj => h2 J hj⟩
    case store t a x => exact absurd rfl (hn3 t a x)
    case nilCheck x => obtain ⟨v, h1, h2⟩ := and_free (fun K h => anil_det h) h; exact ⟨v, h1, fun J X hj => h2 J hj⟩
    case binOp o t x y u => obtain ⟨v, h1, h2⟩ := and_free (fun K h => abin_det h) h; exact ⟨v, h1, fun J X hj => h2 J hj⟩
    case unOp o t x =>
      split at h
      · obtain ⟨v, h1, h2⟩ := h
        exact ⟨_, h2.2, fun J X hj => ⟨v, h1, hj⟩⟩
      · exact h.elim
    case convert s d x => obtain ⟨v, h1, h2⟩ := and_free (fun K h => aconv_det h) h; exact ⟨v, h1, fun J X hj => h2 J hj⟩
    case makeInterface t x => obtain ⟨v, h1, h2⟩ := and_free (fun K h => aiface_det h) h; exact ⟨v, h1, fun J X hj => h2 J hj⟩
    case makeFunc f a b =>
      split at h
      · exact ⟨_, h.2, fun J X hj => hj⟩
      · exact h.elim
    case slice t x lo hi mx =>
      split at h
      · obtain ⟨v, h1, h2⟩ := and_free (fun K h => aslice_det h) h; exact ⟨v, h1, fun J X hj => h2 J hj⟩
      · exact h.elim
    case fieldAddr t x f => obtain ⟨v, h1, h2⟩ := and_free (fun K h => afieldAddr_det h) h; exact ⟨v, h1, fun J X hj => h2 J hj⟩
    case field t x f => obtain ⟨v, h1, h2⟩ := and_free (fun K h => afield_det h) h; exact ⟨v, h1, fun J X hj => h2 J hj⟩
    case indexAddr t x i => obtain ⟨v, h1, h2⟩ := and_free (fun K h => aindexAddr_det h) h; exact ⟨v, h1, fun J X hj => h2 J hj⟩
    case index t x i => obtain ⟨v, h1, h2⟩ := and_free (fun K h => aindex_det h) h; exact ⟨v, h1, fun J X hj => h2 J hj⟩
    case extract x i => obtain ⟨v, h1, h2⟩ := and_free (fun K h => aextract_det h) h; exact ⟨v, h1, fun J X hj => h2 J hj⟩
    case call c =>
      obtain ⟨callee, args, ts⟩ := c
      cases callee with
      | value f => exact absurd rfl (hn1 f args ts)
      | invoke r m => exact h.elim
      | builtin b =>
        simp only [acall] at h ⊢
        unfold abuiltin at h ⊢
        split at h
        · obtain ⟨v, h1, h2⟩ := and_free (fun K h => alen_det h) h; exact ⟨v, h1, fun J X hj => h2 J hj⟩
        · exact absurd rfl (hn4 args ts)
        · split at h
          · obtain ⟨v, h1, h2⟩ := h
            exact ⟨_, h2.2, fun J X hj => ⟨v, h1, hj⟩⟩
          · exact h.elim
        · split at h
          · obtain ⟨v, h1, h2⟩ := h
            exact ⟨_, h2.2, fun J X hj => ⟨v, h1, hj⟩⟩
          · exact h.elim
        · exact h.elim
    case panic x =>
      unfold apanic at h
      split at h
      · exact h.elim
      · exact h.elim
    case makeMap t r =>
      split at h
      · exact (push_ne _ (congrArg AS.bx h.2.1)).elim
      · exact h.elim
    case lookup t x k c => obtain ⟨v, h1, h2⟩ := and_free (fun K h => alookup_det h) h; exact ⟨v, h1, fun J X hj => h2 J hj⟩
    case mapUpdate t x k v => exact absurd rfl (hn5 t x k v)
    case mapEntry t x k => exact absurd rfl (hn6 t x k)
    case entryStore t x s v => exact absurd rfl (hn7 t x s v)
    case sliceToArrayPointer t x => obtain ⟨v, h1, h2⟩ := and_free (fun K h => aarrAt_det h) h; exact ⟨v, h1, fun J X hj => h2 J hj⟩
    case makeSlice t n c => obtain ⟨v, h1, h2⟩ := and_free (fun K h => amakeSlice_det h) h; exact ⟨v, h1, fun J X hj => h2 J hj⟩

/-! ### Every order, walked in one -/
def solK (P : Program) (late : Bool) (st0 : AS) (K : AS → Prop) : AS → Prop := fun st => (late = false → st = st0) ∧ K st
/-- Flags: (may it come at any time?, is it late?). -/
def aord2 (P : Program) (ops : Array Oper) (X : AV → AS → Prop) (N : AFr → AS → Prop) (st0 : AS) : List (Bool × Bool) → List Oper → AFr → AS → Prop
  | [], [], fr, st => N fr st
  | (true, _) :: fl, o :: os, fr, st => st = st0 ∧ awant (wantB ops fr o) (afree P fr.eval o.op o.type st0 (fun v => aord2 P ops X N st0 fl os (fr.put o.dst v) st0)) (aord2 P ops X N st0 fl os (fr.put o.dst .und) st0)
  | (false, late) :: fl, o :: os, fr, st => awant (wantB ops fr o) (aexec P fr.eval o.op o.type st (fun v st' => (late = false → st' = st0) ∧ aord2 P ops X N st0 fl os (fr.put o.dst v) st') X) ((late = false → st = st0) ∧ aord2 P ops X N st0 fl os (fr.put o.dst .und) st)
  | _, _, _, _ => False
def lates : Nat → List (Bool × Bool) → List Nat
  | _, [] => []
  | k, (_, true) :: r => k :: lates (k + 1) r
  | k, (_, false) :: r => lates (k + 1) r
def orders : Nat → List (Bool × Bool) → List (Nat × Bool)
  | _, [] => []
  | k, (f, _) :: r => (k, f) :: orders (k + 1) r
theorem lates_ge : ∀ (k : Nat) (l : List (Bool × Bool)), ∀ i ∈ lates k l, k ≤ i
  | _, [], i, h => by simp [lates] at h
  | k, (_, true) :: r, i, h => by
    simp only [lates, List.mem_cons] at h
    rcases h with h | h
    · omega
    · have := lates_ge (k + 1) r i h; omega
  | k, (_, false) :: r, i, h => by
    have := lates_ge (k + 1) r i h; omega
theorem aord2_ord {P : Program} {l : List Oper} {X : AV → AS → Prop} {N : AFr → AS → Prop} {st0 : AS} (all : List Nat) : ∀ (fl : List (Bool × Bool)) (os : List Oper) (k : Nat) (fr : AFr) (st : AS), (∀ j, os[j]? = l[k + j]?) → (∀ i, k ≤ i → (i ∈ all ↔ i ∈ lates k fl)) →
    aord2 P l.toArray X N st0 fl os fr st → aord P l.toArray X N (fun s => s = st0) all (orders k fl) fr st
  | [], [], k, fr, st, _, _, h => h
  | (true, lt) :: fl, o :: os, k, fr, st, hl, ha, h => by
    obtain ⟨h1, h2⟩ := h
    have ho : l.toArray[k]? = some o := by have := hl 0; simpa using this.symm
    have hl' : ∀ j, os[j]? = l[k + 1 + j]? := fun j => by have := hl (j + 1); simpa [Nat.add_assoc, Nat.add_comm 1 j] using this
    have ha' : ∀ i, k + 1 ≤ i → (i ∈ all ↔ i ∈ lates (k + 1) fl) := fun i hi => by
      have := ha i (by omega)
      rw [this]
      cases lt with
      | true => simp only [lates, List.mem_cons]; constructor
                · rintro (h | h)
                  · omega
                  · exact h
                · exact .inr
      | false => rfl
    subst h1
    refine ⟨rfl, o, ?_⟩
    unfold awant at h2
    split at h2
    · rename_i t ht
      cases t with
      | true =>
        obtain ⟨v, k1, k2⟩ := afree_yields (h2.1 rfl)
        exact ⟨v, ho, .inl ⟨ht, fun s J X' hs hj => by cases hs; exact k2 J X' hj⟩, aord2_ord all fl os (k + 1) _ _ hl' ha' k1⟩
      | false => exact ⟨.und, ho, .inr ⟨ht, rfl⟩, aord2_ord all fl os (k + 1) _ _ hl' ha' (h2.2 rfl)⟩
    · exact h2.elim
  | (false, lt) :: fl, o :: os, k, fr, st, hl, ha, h => by
    have ho : l.toArray[k]? = some o := by have := hl 0; simpa using this.symm
    have hl' : ∀ j, os[j]? = l[k + 1 + j]? := fun j => by have := hl (j + 1); simpa [Nat.add_assoc, Nat.add_comm 1 j] using this
    have ha' : ∀ i, k + 1 ≤ i → (i ∈ all ↔ i ∈ lates (k + 1) fl) := fun i hi => by
      have := ha i (by omega)
      rw [this]
      cases lt with
      | true => simp only [lates, List.mem_cons]; constructor
                · rintro (h | h)
                  · omega
                  · exact h
                · exact .inr
      | false => rfl
    have hlate : k ∉ all → lt = false := fun hk => by
      cases lt with
      | true => exact absurd ((ha k (Nat.le_refl _)).2 (by simp [lates])) hk
      | false => rfl
    have go : ∀ fr' st', ((lt = false → st' = st0) ∧ aord2 P l.toArray X N st0 fl os fr' st') → (k ∉ all → st' = st0) ∧ ((k ∉ all → st' = st0) → aord P l.toArray X N (fun s => s = st0) all (orders (k + 1) fl) fr' st') := fun fr' st' ⟨q1, q2⟩ =>
      ⟨fun hk => q1 (hlate hk), fun _ => aord2_ord all fl os (k + 1) fr' st' hl' ha' q2⟩
    unfold aord2 at h
    show aopX P l.toArray X k _ fr st
    unfold aopX
    simp only [ho]
    unfold awant at h ⊢
    split at h
    · exact ⟨fun e => aexec_mono (fun v s hv => go _ _ hv) (fun _ _ h => h) (h.1 e), fun e => go _ _ (h.2 e)⟩
    · exact h.elim
  | [], _ :: _, k, fr, st, _, _, h => by simp [aord2] at h
  | (true, _) :: _, [], k, fr, st, _, _, h => by simp [aord2] at h
  | (false, _) :: _, [], k, fr, st, _, _, h => by simp [aord2] at h
/-- A region that draws its order, by flags. -/
theorem draw {P : Program} {l : List Oper} {X : AV → AS → Prop} {N : AFr → AS → Prop} {fr : AFr} {st : AS} (fl : List (Bool × Bool)) (hm : P.follows .mixedOrders = true)
    (hB : (Region.noSelect l.toArray && (orders 0 fl).length == l.toArray.size && ordC .any l.toArray (lates 0 fl) (orders 0 fl) (Array.replicate l.toArray.size false)) = true)
    (h : aord2 P l.toArray X N st fl l fr st) : ADraw P l.toArray X N fr st :=
  ADraw.of_ord (lates 0 fl) (orders 0 fl) hm hB (aord2_ord (lates 0 fl) fl l 0 fr st (fun j => by simp) (fun i _ => .rfl) h)
section
variable {P : Program} {ops : Array Oper} {X : AV → AS → Prop} {N : AFr → AS → Prop} {st0 st : AS} {fr : AFr} {ρ : Operand → AV} {ty : TypeId}
def aordF (P : Program) (ops : Array Oper) (X : AV → AS → Prop) (N : AFr → AS → Prop) (st0 : AS) (fl : List (Bool × Bool)) (os : List Oper) (fr : AFr) (dst : Option Tmp) : AV → Prop := fun v => aord2 P ops X N st0 fl os (fr.put dst v) st0
def aordS (P : Program) (ops : Array Oper) (X : AV → AS → Prop) (N : AFr → AS → Prop) (st0 : AS) (late : Bool) (fl : List (Bool × Bool)) (os : List Oper) (fr : AFr) (dst : Option Tmp) : AV → AS → Prop := fun v st => (late = false → st = st0) ∧ aord2 P ops X N st0 fl os (fr.put dst v) st
theorem aordF_app {fl : List (Bool × Bool)} {os : List Oper} {dst : Option Tmp} {v : AV} : aordF P ops X N st0 fl os fr dst v = aord2 P ops X N st0 fl os (fr.put dst v) st0 := no_rfl rfl
theorem aordS_not {fl : List (Bool × Bool)} {os : List Oper} {dst : Option Tmp} {v : AV} : aordS P ops X N st0 false fl os fr dst v st = (st = st0 ∧ aord2 P ops X N st0 fl os (fr.put dst v) st) := by simp [aordS]
theorem aordS_late {fl : List (Bool × Bool)} {os : List Oper} {dst : Option Tmp} {v : AV} : aordS P ops X N st0 true fl os fr dst v st = aord2 P ops X N st0 fl os (fr.put dst v) st := by simp [aordS]
theorem ord_nil : aord2 P ops X N st0 [] [] fr st = N fr st := no_rfl rfl
theorem ord_free {b : Bool} {fl : List (Bool × Bool)} {dst : Option Tmp} {op : Op} {pos : String} {after : Array Edge} {os : List Oper} : aord2 P ops X N st0 ((true, b) :: fl) (⟨dst, op, ty, pos, after, none⟩ :: os) fr st =
    (st = st0 ∧ afree P fr.eval op ty st0 (aordF P ops X N st0 fl os fr dst)) :=
  propext ⟨fun h => ⟨h.1, h.2.1 rfl⟩, fun h => ⟨h.1, fun _ => h.2, fun e => by cases e⟩⟩
theorem ord_solo {b : Bool} {fl : List (Bool × Bool)} {dst : Option Tmp} {op : Op} {pos : String} {after : Array Edge} {os : List Oper} : aord2 P ops X N st0 ((false, b) :: fl) (⟨dst, op, ty, pos, after, none⟩ :: os) fr st =
    aexec P fr.eval op ty st (aordS P ops X N st0 b fl os fr dst) X :=
  propext ⟨fun h => h.1 rfl, fun h => ⟨fun _ => h, fun e => by cases e⟩⟩
/-- An operation under a guard, in a region that draws its order. -/
def aguardO (P : Program) (ops : Array Oper) (X : AV → AS → Prop) (N : AFr → AS → Prop) (st0 : AS) (f lt : Bool) (fl : List (Bool × Bool)) (v : AV) (b : Bool) (dst : Option Tmp) (op : Op) (ty : TypeId) (os : List Oper) (fr : AFr) (st : AS) : Prop :=
  match f with
  | true => st = st0 ∧ awant (fromV v b) (afree P fr.eval op ty st0 (aordF P ops X N st0 fl os fr dst)) (aord2 P ops X N st0 fl os (fr.put dst .und) st0)
  | false => awant (fromV v b) (aexec P fr.eval op ty st (aordS P ops X N st0 lt fl os fr dst) X) ((lt = false → st = st0) ∧ aord2 P ops X N st0 fl os (fr.put dst .und) st)
theorem ord_guard {f lt : Bool} {fl : List (Bool × Bool)} {dst : Option Tmp} {op : Op} {pos : String} {after : Array Edge} {os l : List Oper} {j n : Nat} {b : Bool} {fv : List (Nat × AV)} :
    aord2 P l.toArray X N st0 ((f, lt) :: fl) (⟨dst, op, ty, pos, after, some (j, b)⟩ :: os) ⟨n, fv⟩ st = aguardO P l.toArray X N st0 f lt fl (guardV (dstAt l j) n fv) b dst op ty os ⟨n, fv⟩ st := by
  cases f <;> (unfold aord2; rw [want_guard rfl]; rfl)
section
variable {lt : Bool} {fl : List (Bool × Bool)} {dst : Option Tmp} {op : Op} {os : List Oper}
theorem ogF_tt : aguardO P ops X N st0 true lt fl (.s (.bool true)) true dst op ty os fr st = (st = st0 ∧ afree P fr.eval op ty st0 (aordF P ops X N st0 fl os fr dst)) := by simp [aguardO, fromV, awant]
theorem ogF_ft : aguardO P ops X N st0 true lt fl (.s (.bool false)) true dst op ty os fr st = (st = st0 ∧ aord2 P ops X N st0 fl os (fr.put dst .und) st0) := by simp [aguardO, fromV, awant]
theorem ogF_tf : aguardO P ops X N st0 true lt fl (.s (.bool true)) false dst op ty os fr st = (st = st0 ∧ aord2 P ops X N st0 fl os (fr.put dst .und) st0) := by simp [aguardO, fromV, awant]
theorem ogF_ff : aguardO P ops X N st0 true lt fl (.s (.bool false)) false dst op ty os fr st = (st = st0 ∧ afree P fr.eval op ty st0 (aordF P ops X N st0 fl os fr dst)) := by simp [aguardO, fromV, awant]
theorem ogS_tt : aguardO P ops X N st0 false lt fl (.s (.bool true)) true dst op ty os fr st = aexec P fr.eval op ty st (aordS P ops X N st0 lt fl os fr dst) X := by simp [aguardO, fromV, awant]
theorem ogS_ff : aguardO P ops X N st0 false lt fl (.s (.bool false)) false dst op ty os fr st = aexec P fr.eval op ty st (aordS P ops X N st0 lt fl os fr dst) X := by simp [aguardO, fromV, awant]
theorem ogS_ft : aguardO P ops X N st0 false lt fl (.s (.bool false)) true dst op ty os fr st = ((lt = false → st = st0) ∧ aord2 P ops X N st0 fl os (fr.put dst .und) st) := by simp [aguardO, fromV, awant]
theorem ogS_tf : aguardO P ops X N st0 false lt fl (.s (.bool true)) false dst op ty os fr st = ((lt = false → st = st0) ∧ aord2 P ops X N st0 fl os (fr.put dst .und) st) := by simp [aguardO, fromV, awant]
theorem ogF_und {b : Bool} : aguardO P ops X N st0 true lt fl .und b dst op ty os fr st = (st = st0 ∧ aord2 P ops X N st0 fl os (fr.put dst .und) st0) := by simp [aguardO, fromV, awant, AV.und]
theorem ogS_und {b : Bool} : aguardO P ops X N st0 false lt fl .und b dst op ty os fr st = ((lt = false → st = st0) ∧ aord2 P ops X N st0 fl os (fr.put dst .und) st) := by simp [aguardO, fromV, awant, AV.und]
theorem opart {f u b : Bool} (h1 : u = true → aguardO P ops X N st0 f lt fl (.s (.bool true)) b dst op ty os fr st) (h2 : u = false → aguardO P ops X N st0 f lt fl (.s (.bool false)) b dst op ty os fr st) : aguardO P ops X N st0 f lt fl (.s (.bool u)) b dst op ty os fr st := by
  cases u
  · exact h2 rfl
  · exact h1 rfl
end
theorem freeK_app {K : AV → Prop} {v : AV} {st' : AS} : freeK st K v st' = (st' = st ∧ K v) := no_rfl rfl
variable {K : AV → Prop}
def afpick (c a b : AV) (K : AV → Prop) : Prop :=
  match c with
  | .s (.bool t) => K (if t = true then a else b)
  | _ => False
theorem free_pick {K : AV → Prop} {c a b : Operand} : afree P ρ (.pick c a b) ty st K = afpick (ρ c) (ρ a) (ρ b) K := no_rfl rfl
theorem fpick_true {K : AV → Prop} {a b : AV} : afpick (.s (.bool true)) a b K = K a := by simp [afpick]
theorem fpick_false {K : AV → Prop} {a b : AV} : afpick (.s (.bool false)) a b K = K b := by simp [afpick]
theorem fppart {K : AV → Prop} {u : Bool} {a b : AV} (h1 : u = true → K a) (h2 : u = false → K b) : afpick (.s (.bool u)) a b K := by
  cases u
  · exact h2 rfl
  · exact h1 rfl
theorem free_move {x : Operand} : afree P ρ (.move x) ty st K = aexec P ρ (.move x) ty st (freeK st K) noX := no_rfl rfl
theorem free_assign {x : Operand} : afree P ρ (.assign x) ty st K = aexec P ρ (.assign x) ty st (freeK st K) noX := no_rfl rfl
theorem free_build {t : TypeId} {l : Array (Nat × Operand)} : afree P ρ (.build t l) ty st K = aexec P ρ (.build t l) ty st (freeK st K) noX := no_rfl rfl
theorem free_buildSlice {t : TypeId} {n : Nat} {l : Array (Nat × Operand)} : afree P ρ (.buildSlice t n l) ty st K = aexec P ρ (.buildSlice t n l) ty st (freeK st K) noX := no_rfl rfl
theorem free_load {t : TypeId} {x : Operand} : afree P ρ (.load t x) ty st K = aexec P ρ (.load t x) ty st (freeK st K) noX := no_rfl rfl
theorem free_nilCheck {x : Operand} : afree P ρ (.nilCheck x) ty st K = aexec P ρ (.nilCheck x) ty st (freeK st K) noX := no_rfl rfl
theorem free_binOp {o : BinOp} {t u : TypeId} {x y : Operand} : afree P ρ (.binOp o t x y u) ty st K = aexec P ρ (.binOp o t x y u) ty st (freeK st K) noX := no_rfl rfl
theorem free_unOp {o : UnOp} {t : TypeId} {x : Operand} : afree P ρ (.unOp o t x) ty st K = aexec P ρ (.unOp o t x) ty st (freeK st K) noX := no_rfl rfl
theorem free_convert {s d : TypeId} {x : Operand} : afree P ρ (.convert s d x) ty st K = aexec P ρ (.convert s d x) ty st (freeK st K) noX := no_rfl rfl
theorem free_makeInterface {t : TypeId} {x : Operand} : afree P ρ (.makeInterface t x) ty st K = aexec P ρ (.makeInterface t x) ty st (freeK st K) noX := no_rfl rfl
theorem free_makeFunc {f : Fn} {a b : Array Operand} : afree P ρ (.makeFunc f a b) ty st K = aexec P ρ (.makeFunc f a b) ty st (freeK st K) noX := no_rfl rfl
theorem free_slice {t : TypeId} {x : Operand} {lo hi mx : Option Operand} : afree P ρ (.slice t x lo hi mx) ty st K = aexec P ρ (.slice t x lo hi mx) ty st (freeK st K) noX := no_rfl rfl
theorem free_fieldAddr {t : TypeId} {x : Operand} {f : Nat} : afree P ρ (.fieldAddr t x f) ty st K = aexec P ρ (.fieldAddr t x f) ty st (freeK st K) noX := no_rfl rfl
theorem free_field {t : TypeId} {x : Operand} {f : Nat} : afree P ρ (.field t x f) ty st K = aexec P ρ (.field t x f) ty st (freeK st K) noX := no_rfl rfl
theorem free_indexAddr {t : TypeId} {x i : Operand} : afree P ρ (.indexAddr t x i) ty st K = aexec P ρ (.indexAddr t x i) ty st (freeK st K) noX := no_rfl rfl
theorem free_index {t : TypeId} {x i : Operand} : afree P ρ (.index t x i) ty st K = aexec P ρ (.index t x i) ty st (freeK st K) noX := no_rfl rfl
theorem free_extract {x : Operand} {i : Nat} : afree P ρ (.extract x i) ty st K = aexec P ρ (.extract x i) ty st (freeK st K) noX := no_rfl rfl
theorem free_len {l ts : Array _} : afree P ρ (.call ⟨.builtin .len, l, ts⟩) ty st K = aexec P ρ (.call ⟨.builtin .len, l, ts⟩) ty st (freeK st K) noX := no_rfl rfl
def agives (P : Program) (b : Bool) (k : FuncId) (l : List AV) (st : AS) (K : AV → Prop) : Prop :=
  match b with
  | true => ∃ v, GivesAt P k l st v ∧ K v
  | false => alitsK P k (AV.lits l) (extK (freeK st K) st)
theorem free_call {f : Operand} {l : List Operand} {ts : Array TypeId} : afree P ρ (.call ⟨.value f, l.toArray, ts⟩) ty st K = afreeF P (ρ f) (l.map ρ) st K := no_rfl rfl
theorem freeF_fn {k : FuncId} {caps args : List AV} : afreeF P (.fn (.func k) caps) args st K = agives P (hasBody P k) k (args ++ caps) st K := by
  simp only [afreeF, agives]
theorem agives_false {k : FuncId} {l : List AV} : agives P false k l st K = alitsK P k (AV.lits l) (extK (freeK st K) st) := no_rfl rfl
theorem agives_true {k : FuncId} {l : List AV} {v : AV} (h : Gives P k l v) (hk : K v) : agives P true k l st K := ⟨v, h.at_ st, hk⟩
end

/-! ### Loops -/
class PF (Q : Post) : Prop where
  free : PFree Q
instance instPF_ret (P : Program) (rs : List ResultVar) (st : AS) (R : AOut → AS → Prop) : PF (retK P rs st R) := ⟨retK_free P rs st R⟩
instance instPF_then (P : Program) (b : Code) (Q : Post) [h : PF Q] : PF (thenA P b Q) := ⟨h.free⟩
instance instPF_block (id : Nat) (Q : Post) [h : PF Q] : PF (blockK id Q) := ⟨h.free⟩
def Again {σ : Type} (I : σ → AFr) (S : σ → AS) (μ : σ → Nat) (s : σ) (fr : AFr) (st : AS) : Prop := ∃ s', (I s').sub fr ∧ S s' = st ∧ μ s' < μ s
def roundK {σ : Type} (I : σ → AFr) (S : σ → AS) (μ : σ → Nat) (s : σ) (Q : Post) : Post
  | .normal, fr, st => Again I S μ s fr st
  | x, fr, st => Q x fr st
instance instPF_round {σ : Type} (I : σ → AFr) (S : σ → AS) (μ : σ → Nat) (s : σ) (Q : Post) [h : PF Q] : PF (roundK I S μ s Q) := ⟨h.free⟩
section
variable {σ : Type} {I : σ → AFr} {S : σ → AS} {μ : σ → Nat} {s : σ} {Q : Post} {fr : AFr} {st : AS}
theorem roundK_normal : roundK I S μ s Q .normal fr st = Again I S μ s fr st := no_rfl rfl
theorem roundK_exit {id : Nat} : roundK I S μ s Q (.exit id) fr st = Q (.exit id) fr st := no_rfl rfl
theorem roundK_ret : roundK I S μ s Q .ret fr st = Q .ret fr st := no_rfl rfl
theorem roundK_panic {v : AV} : roundK I S μ s Q (.panic v) fr st = Q (.panic v) fr st := no_rfl rfl
end
theorem loop_of {P : Program} {c : Code} {Q : Post} [hp : PF Q] {σ : Type} (I : σ → AFr) (S : σ → AS) (μ : σ → Nat) (s0 : σ) {fr : AFr} {st : AS} (h0 : (I s0).sub fr) (hs : S s0 = st) (round : ∀ s, awp P c (roundK I S μ s Q) (I s) (S s)) : ALoop P c Q fr st :=
  ALoop.of I S μ s0 h0 hs fun s => (awpR_sound c _ (instPF_round I S μ s Q).free _ _ (round s)).mono fun x fr st hx => by cases x <;> exact hx
/-- The same, a round's own boxes and rows gone at its end. -/
def AgainC {σ : Type} (I : σ → AFr) (S : σ → AS) (μ : σ → Nat) (s : σ) (fr : AFr) (st : AS) : Prop :=
  ∃ s', (I s').sub fr ∧ S s' = st.cut (S s).bx.length (S s).ln.length ∧ μ s' < μ s ∧ BoxesOk (S s) st ∧ ∀ p ∈ (I s').l, InB (S s).bx.length (S s).ln.length p.2
def roundC {σ : Type} (I : σ → AFr) (S : σ → AS) (μ : σ → Nat) (s : σ) (Q : Post) : Post
  | .normal, fr, st => AgainC I S μ s fr st
  | x, fr, st => Q x fr st
instance instPF_roundC {σ : Type} (I : σ → AFr) (S : σ → AS) (μ : σ → Nat) (s : σ) (Q : Post) [h : PF Q] : PF (roundC I S μ s Q) := ⟨h.free⟩
section
variable {σ : Type} {I : σ → AFr} {S : σ → AS} {μ : σ → Nat} {s : σ} {Q : Post} {fr : AFr} {st : AS}
theorem roundC_normal : roundC I S μ s Q .normal fr st = AgainC I S μ s fr st := no_rfl rfl
theorem roundC_exit {id : Nat} : roundC I S μ s Q (.exit id) fr st = Q (.exit id) fr st := no_rfl rfl
theorem roundC_ret : roundC I S μ s Q .ret fr st = Q .ret fr st := no_rfl rfl
theorem roundC_panic {v : AV} : roundC I S μ s Q (.panic v) fr st = Q (.panic v) fr st := no_rfl rfl
end
theorem loop_cut {P : Program} {c : Code} {Q : Post} [hp : PF Q] {σ : Type} (I : σ → AFr) (S : σ → AS) (μ : σ → Nat) (s0 : σ) {fr : AFr} {st : AS} (h0 : (I s0).sub fr) (hs : S s0 = st) (round : ∀ s, awp P c (roundC I S μ s Q) (I s) (S s)) : ALoop P c Q fr st := by
  subst hs
  intro r hr D hD g a w hi hf
  refine loop_fen (fun n a' w' => ∃ s g', μ s = n ∧ g.le g' ∧ Inv g' (S s) w' ∧ FSim D g' (I s) a') (μ s0) ⟨s0, g, rfl, .refl g, hi, hf.sub h0⟩ ?_
  rintro n a' w' ⟨s, g', hn, h1, h2, h3⟩
  refine wpIn_mono (awpR_sound c _ (instPF_roundC I S μ s Q).free _ _ (round s) r hr D hD g' a' w' h2 h3) fun e a2 w2 hq => ?_
  obtain ⟨g2, x, fr2, st2, k1, k2, k3, k4, k5⟩ := hq
  cases k4 with
  | normal =>
    obtain ⟨s', q1, q2, q3, q4, q5⟩ := k5
    have hle := k1.cut
    rw [h2.bxlen, h2.lnlen] at hle
    refine ⟨μ s', by omega, s', g2.cut (S s).bx.length (S s).ln.length, rfl, h1.trans hle, by rw [q2]; exact h2.cut k1 k2 q4, ?_⟩
    have hf := k3.sub q1
    refine ⟨hf.defers, hf.size, fun t => ?_, hf.keep⟩
    rcases look_mem (I s').l t with e | e
    · rw [e]; exact .any _
    · exact (hf.tmps t).cut (q5 _ e)
  | exit id => exact ⟨g2, _, fr2, st2, h1.trans k1, k2, k3, .exit id, k5⟩
  | ret => exact ⟨g2, _, fr2, st2, h1.trans k1, k2, k3, .ret, k5⟩
  | panic v z hz => exact ⟨g2, _, fr2, st2, h1.trans k1, k2, k3, .panic v z hz, k5⟩
/-- What a call's arguments tell of their lengths. -/
theorem bound_sl {P : Program} {f : FuncId} {args : List AV} {st : AS} {R : AOut → AS → Prop} (i : Nat) {o : Bool} {t : Tag} {es : List (List AV)} (h : args[i]? = some (.sl o t es)) (k : es.length ≤ 140737488355328 → DoesCall P f args st R) : DoesCall P f args st R := by
  intro g w vs hi ha
  refine k ?_ g w vs hi ha
  have := (asim_get ha).2 i _ h
  generalize vs.getD i undef = x at this
  cases this; assumption
theorem bound_agg {P : Program} {f : FuncId} {args : List AV} {st : AS} {R : AOut → AS → Prop} (i j : Nat) {l : List AV} {o : Bool} {t : Tag} {es : List (List AV)} (h : args[i]? = some (.agg l)) (hj : l[j]? = some (.sl o t es)) (k : es.length ≤ 140737488355328 → DoesCall P f args st R) : DoesCall P f args st R := by
  intro g w vs hi ha
  refine k ?_ g w vs hi ha
  have := (asim_get ha).2 i _ h
  generalize vs.getD i undef = x at this
  cases this with
  | agg l a hs h1 hh =>
    have := hh j _ hj
    generalize a.getD j undef = y at this
    cases this; assumption
/-- Boxes that say less. -/
theorem Inv.recell {g : Gh} {st : AS} {w : World} (hi : Inv g st w) {i j : Nat} {cs : List AV} {x x' : AV} (h1 : st.bx[i]? = some cs) (h2 : cs[j]? = some x) (hx : x.one = true) (hx' : x'.one = true) (h3 : ∀ y, VSim g x y → VSim g x' y) : Inv g { st with bx := st.bx.set i (cs.set j x') } w := by
  refine ⟨hi.K, by simp [hi.bxlen], fun i' b cs' hb hc => ?_, hi.bxK, hi.bxnd, hi.lnlen, hi.ln, hi.lnd, hi.kept, hi.ok, hi.nf⟩
  have hlt := (List.getElem?_eq_some_iff.1 h1).1
  by_cases e : i' = i
  · subst e
    have hc' : cs.set j x' = cs' := by simpa [hlt] using hc
    subst hc'
    obtain ⟨cur, T, e1, e2, e3⟩ := hi.bx i' b cs hb h1
    have hm1 : boxMap cs = false := boxMap_at h2 hx
    have hm2 : boxMap (cs.set j x') = false := boxMap_at (off := j) (x := x') (by rw [List.getElem?_set_self (List.getElem?_eq_some_iff.1 h2).1]) hx'
    refine ⟨cur, T, by rw [hm2, ← hm1]; exact e1, by simpa using e2, fun k y hy => ?_⟩
    by_cases ek : k = j
    · subst ek
      have hjl := (List.getElem?_eq_some_iff.1 h2).1
      obtain rfl : x' = y := by simpa [hjl] using hy
      exact h3 _ (e3 k x h2)
    · rw [List.getElem?_set_ne (Ne.symm ek)] at hy
      exact e3 k y hy
  · have hc' : st.bx[i']? = some cs' := by simpa [List.getElem?_set_ne (Ne.symm e)] using hc
    exact hi.bx i' b cs' hb hc'
/-- Nothing, in a box, is a row that grows from now on. -/
theorem grow_box {P : Program} {c : Code} {Q : Post} {fr : AFr} {st : AS} (e sz i j : Nat) {cs : List AV} (h1 : st.bx[i]? = some cs) (h2 : cs[j]? = some (.s (.slice none 0 0)))
    (h : ALoop P c Q fr { bx := st.bx.set i (cs.set j (.sl true (.lin st.ln.length) [])), ln := st.ln ++ [(0, e, sz)] }) : ALoop P c Q fr st := by
  intro r hrr D hD g a w hi hf
  obtain ⟨g', q1, q2, q3, q4⟩ := hi.lin_empty none e sz
  have hr := q4.recell (i := i) (j := j) (x' := .sl true (.lin st.ln.length) []) h1 h2 rfl rfl (fun y hy => by
    cases hy
    exact sl_mk (es := []) (sz := sz) (by simp) none 0 [] (Nat.le_refl _) (Nat.zero_le _) (by simp) ⟨rfl, by simp⟩ (fun h => absurd rfl h) ⟨⟨none, 0, 0, e, sz⟩, by rw [q2, ← hi.lnlen]; simp, Nat.le_refl _, fun _ => ⟨rfl, rfl⟩⟩)
  refine wpIn_mono (h r hrr D hD g' a w hr (hf.mono q1)) fun e a' w' ⟨g2, x, fr', st', k1, k2⟩ => ⟨g2, x, fr', st', q1.trans k1, k2⟩
/-- Nothing, in a slot, is a row that grows from now on. -/
theorem grow_tmp {P : Program} {c : Code} {Q : Post} {fr : AFr} {st : AS} (e sz t : Nat) (h1 : look fr.l t = .s (.slice none 0 0))
    (h : ALoop P c Q ⟨fr.n, (t, .sl true (.lin st.ln.length) []) :: fr.l⟩ { st with ln := st.ln ++ [(0, e, sz)] }) : ALoop P c Q fr st := by
  intro r hrr D hD g a w hi hf
  obtain ⟨g', q1, q2, q3, q4⟩ := hi.lin_empty none e sz
  have hf' : FSim D g' ⟨fr.n, (t, .sl true (.lin st.ln.length) []) :: fr.l⟩ a := by
    refine ⟨hf.defers, hf.size, fun u => ?_, hf.keep⟩
    by_cases hu : t = u
    · subst hu
      have := hf.tmps t
      rw [h1] at this
      have he := this.lit0 rfl
      simp only [look, if_pos rfl]
      rw [he]
      exact sl_mk (es := []) (sz := sz) (by simp) none 0 [] (Nat.le_refl _) (Nat.zero_le _) (by simp) ⟨rfl, by simp⟩ (fun h => absurd rfl h) ⟨⟨none, 0, 0, e, sz⟩, by rw [q2, ← hi.lnlen]; simp, Nat.le_refl _, fun _ => ⟨rfl, rfl⟩⟩
    · simp only [look, if_neg hu]
      exact (hf.mono q1).tmps u
  refine wpIn_mono (h r hrr D hD g' a w q4 hf') fun e a' w' ⟨g2, x, fr', st', k1, k2⟩ => ⟨g2, x, fr', st', q1.trans k1, k2⟩
/-- What was walked in memory. -/
theorem DoesCall.of_kept {P : Program} {f : FuncId} {args : List AV} {st : AS} {R : AOut → AS → Prop} (h : ∀ g w vs, Inv g st w → ASim g args vs → Calls P f vs.toArray w fun e w' => ∃ o, OSim g o e ∧ R o st ∧ Kept w w') : DoesCall P f args st R :=
  fun g w vs hi ha => (h g w vs hi ha).mono fun e w' ⟨o, h1, h2, h3⟩ => ⟨g, o, st, .refl g, hi.kept_ h3, h1, h2⟩
/-- Frames: one says less. -/
theorem sub_nil {n : Nat} {fr : AFr} : AFr.sub ⟨n, []⟩ fr = (n = fr.n) := by simp [AFr.sub]
theorem sub_cons {n t : Nat} {v : AV} {l : List (Nat × AV)} {fr : AFr} : AFr.sub ⟨n, (t, v) :: l⟩ fr = (look fr.l t = v ∧ AFr.sub ⟨n, l⟩ fr) := by
  simp only [AFr.sub, List.mem_cons, forall_eq_or_imp]
  exact propext ⟨fun ⟨a, b, c⟩ => ⟨b, a, c⟩, fun ⟨a, b, c⟩ => ⟨b, a, c⟩⟩
theorem box_var {st : AS} {cs : List AV} : AS.box st cs = ⟨st.bx ++ [cs], st.ln⟩ := no_rfl rfl

theorem BoxesOk.app2 {S l m : List (List AV)} {ln ln' : List (Nat × Nat × Nat)} : BoxesOk ⟨S ++ l, ln⟩ ⟨S ++ (l ++ m), ln'⟩ := fun i cs hi h => .inl (by
  rw [← List.append_assoc] at h
  rwa [List.getElem?_append_left hi] at h)
theorem cut2 {S l m : List (List AV)} {ln : List (Nat × Nat × Nat)} : AS.cut ⟨S ++ (l ++ m), ln⟩ (S ++ l).length ln.length = ⟨S ++ l, ln⟩ := by
  simp only [AS.cut, ← List.append_assoc, List.take_left, List.take_length]
theorem cut2' {S l m : List (List AV)} {ln k : List (Nat × Nat × Nat)} : AS.cut ⟨S ++ (l ++ m), ln ++ k⟩ (S ++ l).length ln.length = ⟨S ++ l, ln⟩ := by
  simp only [AS.cut, ← List.append_assoc, List.take_left]

/-! ### Ends -/
theorem end_pure {st : AS} {v r : AV} {l : List (List AV)} {k : List (Nat × Nat × Nat)} (hv : v.forget = r) (hb : InB st.bx.length st.ln.length r) : RetForm st v ⟨st.bx ++ l, st.ln ++ k⟩ (fun o st' => o = .ret r ∧ st' = st) := by
  subst hv
  exact .forget hb .app ⟨rfl, cut_app⟩
theorem end_pure1 {st : AS} {v r : AV} {l : List (List AV)} (hv : v.forget = r) (hb : InB st.bx.length st.ln.length r) : RetForm st v ⟨st.bx ++ l, st.ln⟩ (fun o st' => o = .ret r ∧ st' = st) := by
  subst hv
  exact .forget hb .app ⟨rfl, cut_app1⟩
theorem end_pure0 {st : AS} {v r : AV} (hv : v.forget = r) (hb : InB st.bx.length st.ln.length r) : RetForm st v st (fun o st' => o = .ret r ∧ st' = st) := by
  subst hv
  exact .forget hb (BoxesOk.same (ln := st.ln)) ⟨rfl, cut_same⟩
end Go.Proofs.YtjodibncpbjegaaDoor
