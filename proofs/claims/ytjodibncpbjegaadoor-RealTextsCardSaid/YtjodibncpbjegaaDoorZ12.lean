/- Merged: AvmA, Region, Region2. -/
import Derived.Test.YtjodibncpbjegaaDoorZ11
import Derived.WalkKit
import Derived.Still
import Derived.RegionTactic
/- What holds of an operation's value may be weakened; an operation looks at its operands alone. No program. -/
set_option linter.unusedVariables false
set_option linter.unusedSimpArgs false
namespace Go.Proofs.YtjodibncpbjegaaDoor
open Go.RowKit

section mono
variable {P : Program} {st : AS}

theorem TRun.mono {α : Type} {sem : Sem α} {K K' : α → Prop} (hk : ∀ v, K v → K' v) (h : TRun P sem K) : TRun P sem K' := by
  obtain ⟨v, h1, h2⟩ := h
  exact ⟨v, h1, hk v h2⟩
variable {K K' : AV → Prop} {J J' : AV → AS → Prop}
theorem apick_mono (hk : ∀ v, K v → K' v) {c a b : AV} (h : apick c a b K) : apick c a b K' := by
  unfold apick at *
  split at h
  · exact ⟨fun e => hk _ (h.1 e), fun e => hk _ (h.2 e)⟩
  · exact h.elim
theorem aalloc_mono (hk : ∀ v s, J v s → J' v s) {t : Option TyI} (h : aalloc t st J) : aalloc t st J' := by
  unfold aalloc at *
  split at h
  · exact ⟨h.1, h.2.1, hk _ _ h.2.2⟩
  · exact h.elim
theorem abuild_mono (hk : ∀ v, K v → K' v) {t : Option TyI} {ps : List (Nat × AV)} (h : abuild t ps K) : abuild t ps K' := by
  unfold abuild at *
  split at h
  · try dsimp only at *
    split at h
    · exact ⟨h.1, hk _ h.2⟩
    · exact h.elim
  · try dsimp only at *
    split at h
    · exact ⟨h.1, hk _ h.2⟩
    · exact h.elim
  · exact h.elim
theorem abuildSlice_mono (hk : ∀ v, K v → K' v) {t : Option TyI} {n : Nat} {ps : List (Nat × AV)} (h : abuildSlice P t n ps K) : abuildSlice P t n ps K' := by
  unfold abuildSlice at *
  split at h
  · try dsimp only at *
    split at h
    · obtain ⟨a, b, c, d, e, h⟩ := h
      refine ⟨a, b, c, d, e, ?_⟩
      split at h
      · exact hk _ h
      · exact h.elim
    · exact h.elim
  · exact h.elim
theorem aload_mono (hk : ∀ v, K v → K' v) {t : Option TyI} {a : AV} (h : aload t a st K) : aload t a st K' := by
  unfold aload at *
  split at h
  · try dsimp only at *
    split at h
    · try dsimp only at *
      split at h
      · rename_i c; rw [if_pos c]; exact ⟨h.1, hk _ h.2⟩
      · rename_i c; rw [if_neg c]
        split at h
        · exact hk _ h
        · exact h.elim
    · try dsimp only at *
      split at h
      · try dsimp only at *
        split at h
        · rename_i c; rw [if_pos c]; exact ⟨h.1, h.2.1, hk _ h.2.2⟩
        · rename_i c; rw [if_neg c]
          split at h
          · exact ⟨h.1, hk _ h.2⟩
          · exact h.elim
      · exact h.elim
    · exact h.elim
  · exact h.elim
theorem astore_mono {L L' : AS → Prop} (hk : ∀ s, L s → L' s) {t : Option TyI} {a v : AV} (h : astore t a v st L) : astore t a v st L' := by
  unfold astore at *
  split at h
  · try dsimp only at *
    split at h
    · exact ⟨h.1, h.2.1, h.2.2.1, h.2.2.2.1, h.2.2.2.2.1, hk _ h.2.2.2.2.2⟩
    · exact h.elim
  · exact h.elim
theorem anil_mono (hk : ∀ v, K v → K' v) {a : AV} (h : anil a K) : anil a K' := by
  unfold anil at *
  split at h
  · exact hk _ h
  · exact hk _ h
  · exact hk _ h
  · exact h.elim
theorem abin_mono (hk : ∀ v, K v → K' v) {op : BinOp} {t : TypeId} {x y : Operand} {a b : AV} (h : abin P op t x y a b K) : abin P op t x y a b K' := by
  unfold abin at *
  split at h
  · exact h.mono fun r hr => hk _ hr
  · exact h.elim
theorem aconv_mono (hk : ∀ v, K v → K' v) {s d : TypeId} {a : AV} {ln : List (Nat × Nat × Nat)} (h : aconv P s d a ln K) : aconv P s d a ln K' := by
  unfold aconv at *
  split at h
  · try dsimp only at *
    split at h
    · try dsimp only at *
      split at h
      · obtain ⟨l, e, h⟩ := h
        exact ⟨l, e, hk _ h⟩
      · exact h.elim
    · try dsimp only at *
      split at h
      · exact ⟨h.1, h.2.1, h.2.2.1, h.2.2.2.1, hk _ h.2.2.2.2⟩
      · exact h.elim
    · exact h.elim
  · split at h
    · exact h.mono fun r hr => hk _ hr
    · exact h.elim
theorem aiface_mono (hk : ∀ v, K v → K' v) {t : Option TyI} {x : TypeId} {a : AV} (h : aiface t x a K) : aiface t x a K' := by
  unfold aiface at *
  split at h
  · exact h.elim
  · exact hk _ h
  · exact h.elim
theorem aslice_mono (hk : ∀ v, K v → K' v) {t : TypeId} {a : AV} {lo hi : Option AV} (h : aslice P t a lo hi K) : aslice P t a lo hi K' := by
  unfold aslice at *
  split at h
  · try dsimp only at *
    split at h
    · try dsimp only at *
      split at h
      · exact ⟨h.1, h.2.1, h.2.2.1, h.2.2.2.1, h.2.2.2.2.1, hk _ h.2.2.2.2.2⟩
      · exact h.elim
    · exact h.elim
  · split at h
    · try dsimp only at *
      split at h
      · exact h.mono fun r hr => hk _ hr
      · exact h.mono fun r hr => hk _ hr
      · exact h.mono fun r hr => hk _ hr
      · exact h.mono fun r hr => hk _ hr
      · exact h.elim
    · exact h.elim
theorem afieldAddr_mono (hk : ∀ v, K v → K' v) {t : Option TyI} {a : AV} {f : Nat} (h : afieldAddr t a f K) : afieldAddr t a f K' := by
  unfold afieldAddr at *
  split at h
  · try dsimp only at *
    split at h
    · obtain ⟨c, h⟩ := h
      refine ⟨c, ?_⟩
      split at h
      · exact hk _ h
      · exact hk _ h
      · exact h.elim
    · exact h.elim
  · exact h.elim
theorem afield_mono (hk : ∀ v, K v → K' v) {t : Option TyI} {a : AV} {f : Nat} (h : afield t a f K) : afield t a f K' := by
  unfold afield at *
  split at h
  · try dsimp only at *
    split at h
    · exact ⟨h.1, h.2.1, hk _ h.2.2⟩
    · obtain ⟨c, h⟩ := h
      refine ⟨c, ?_⟩
      split at h
      · exact hk _ h
      · exact h.elim
    · exact h.elim
  · exact h.elim
theorem aindexAddr_mono (hk : ∀ v, K v → K' v) {t : Option TyI} {a i : AV} (h : aindexAddr t a i K) : aindexAddr t a i K' := by
  unfold aindexAddr at *
  split at h
  · obtain ⟨c, d, h⟩ := h
    refine ⟨c, d, ?_⟩
    split at h
    · exact ⟨h.1, hk _ h.2⟩
    · exact h.elim
  · exact ⟨h.1, h.2.1, h.2.2.1, hk _ h.2.2.2⟩
  · exact h.elim
theorem aindex_mono (hk : ∀ v, K v → K' v) {t : TypeId} {a i : AV} (h : aindex P t a i K) : aindex P t a i K' := by
  unfold aindex at *
  split at h
  · try dsimp only at *
    split at h
    · obtain ⟨c, d, h⟩ := h
      refine ⟨c, d, ?_⟩
      split at h
      · exact hk _ h
      · exact h.elim
    · exact h.elim
  · split at h
    · exact h.mono fun r hr => hk _ hr
    · exact h.elim
theorem aextract_mono (hk : ∀ v, K v → K' v) {a : AV} {i : Nat} (h : aextract a i K) : aextract a i K' := by
  unfold aextract at *
  split at h
  · try dsimp only at *
    split at h
    · exact hk _ h
    · exact h.elim
  · exact h.elim
theorem aapp_mono (hk : ∀ v s, J v s → J' v s) {e sz by' : Nat} {a : AV} {ns : List (List AV)} (h : aapp e sz by' a ns st J) : aapp e sz by' a ns st J' := by
  unfold aapp at *
  split at h
  · exact ⟨h.1, hk _ _ h.2⟩
  · exact ⟨h.1, h.2.1, h.2.2.imp (fun q => ⟨q.1, hk _ _ q.2⟩) fun q => ⟨q.1, hk _ _ q.2⟩⟩
  · exact ⟨h.1, h.2.1, h.2.2.1, hk _ _ h.2.2.2⟩
  · exact h.elim
theorem aappend_mono (hk : ∀ v s, J v s → J' v s) {t : Option TyI} {b : Bool} {a x : AV} (h : aappend P t b a x st J) : aappend P t b a x st J' := by
  unfold aappend at *
  split at h
  · obtain ⟨c, d, e, h⟩ := h
    refine ⟨c, d, e, ?_⟩
    split at h
    · exact ⟨h.1, h.2.1, aapp_mono hk h.2.2⟩
    · exact ⟨h.1, aapp_mono hk h.2⟩
    · exact ⟨h.1, h.2.1, aapp_mono hk h.2.2⟩
    · exact h.elim
  · exact h.elim
theorem alen_mono (hk : ∀ v, K v → K' v) {ts : Array TypeId} {a : AV} (h : alen P ts a K) : alen P ts a K' := by
  unfold alen at *
  split at h
  · try dsimp only at *
    split at h
    · exact hk _ h
    · exact h.elim
  · split at h
    · exact h.mono fun r hr => hk _ hr
    · exact h.elim
theorem abuiltin_mono (hk : ∀ v s, J v s → J' v s) {b : Builtin} {ts : Array TypeId} {ty : TypeId} {l : List AV} (h : abuiltin P b ts ty l st J) : abuiltin P b ts ty l st J' := by
  unfold abuiltin at *
  split at h
  · exact alen_mono (fun v hv => hk _ _ hv) h
  · try dsimp only at *
    split at h
    · try dsimp only at *
      split at h
      · exact aappend_mono hk h
      · exact aappend_mono hk h
      · exact h.elim
    · exact h.elim
  · try dsimp only at *
    split at h
    · exact h.mono fun r hr => hk _ _ hr
    · exact h.elim
  · try dsimp only at *
    split at h
    · exact h.mono fun r hr => hk _ _ hr
    · exact h.elim
  · exact h.elim
theorem acall_mono {X X' : AV → AS → Prop} (hk : ∀ v s, J v s → J' v s) (hx : ∀ v s, X v s → X' v s) {ρ : Operand → AV} {c : Call} {ty : TypeId} (h : acall P ρ c ty st J X) : acall P ρ c ty st J' X' := by
  unfold acall at *
  split at h
  · unfold acallF at *
    try dsimp only at *
    split at h
    · try dsimp only at *
      rcases h with ⟨h1, h2⟩ | ⟨h1, h2⟩
      · refine .inl ⟨h1, h2.mono fun o s ho => ?_⟩
        cases o with
        | ret v => exact hk _ _ ho
        | panic v => exact hx _ _ ho
      · refine .inr ⟨h1, ?_⟩
        split at h2
        · refine h2.mono fun r hr => ?_
          split at hr
          · exact hk _ _ hr
          · exact hr.elim
        · exact h2.elim
    · exact h.elim
  · exact abuiltin_mono hk h
  · exact h.elim
theorem alookup_mono (hk : ∀ v, K v → K' v) {t : TypeId} {x k : AV} {c : Bool} (h : alookup P t x k c st K) : alookup P t x k c st K' := by
  unfold alookup at *
  split at h
  · obtain ⟨kt, e, m, r, h1, h2, h3, h4, h5, h6⟩ := h
    refine ⟨kt, e, m, r, h1, h2, h3, h4, h5, ?_⟩
    cases r with
    | some q => exact hk _ h6
    | none => obtain ⟨i, k1, k2, k3⟩ := h6; exact ⟨i, k1, k2, hk _ k3⟩
  · exact h.elim
theorem aupdate_mono {L L' : AS → Prop} (hk : ∀ s, L s → L' s) {t : TypeId} {x k v : AV} (h : aupdate P t x k v st L) : aupdate P t x k v st L' := by
  unfold aupdate at *
  split at h
  · obtain ⟨kt, e, m, r, h1, h2, h3, h4, h5, h6⟩ := h
    refine ⟨kt, e, m, r, h1, h2, h3, h4, h5, ?_⟩
    cases r with
    | some q => exact hk _ h6
    | none => exact hk _ h6
  · exact h.elim
theorem amapEntry_mono (hk : ∀ v s, J v s → J' v s) {t : TypeId} {x k : AV} (h : amapEntry P t x k st J) : amapEntry P t x k st J' := by
  unfold amapEntry at *
  split at h
  · obtain ⟨kt, e, m, r, h1, h2, h3, h4, h5, h6⟩ := h
    refine ⟨kt, e, m, r, h1, h2, h3, h4, h5, ?_⟩
    cases r with
    | some q => exact hk _ _ h6
    | none => obtain ⟨i, k1, k2, k3⟩ := h6; exact ⟨i, k1, k2, hk _ _ k3⟩
  · exact h.elim
theorem aentryStore_mono {L L' : AS → Prop} (hk : ∀ s, L s → L' s) {x s v : AV} (h : aentryStore x s v st L) : aentryStore x s v st L' := by
  unfold aentryStore at *
  split at h
  · obtain ⟨m, p, h1, h2, h3, h4⟩ := h
    exact ⟨m, p, h1, h2, h3, hk _ h4⟩
  · exact h.elim
theorem aarrAt_mono (hk : ∀ v, K v → K' v) {t : Option TyI} {x : AV} (h : aarrAt t x K) : aarrAt t x K' := by
  unfold aarrAt at *
  split at h
  · exact ⟨h.1, h.2.1, hk _ h.2.2⟩
  · exact h.elim
theorem amakeSlice_mono (hk : ∀ v, K v → K' v) {t : TypeId} {n c : AV} (h : amakeSlice P t n c K) : amakeSlice P t n c K' := by
  unfold amakeSlice at *
  split at h
  · try dsimp only at *
    split at h
    · obtain ⟨h1, h2, h3, h4, h5, h6, h7, h8, h9⟩ := h
      exact ⟨h1, h2, h3, h4, h5, h6, h7, h8, hk _ h9⟩
    · exact h.elim
  · exact h.elim
theorem aexec_mono {X X' : AV → AS → Prop} (hk : ∀ v s, J v s → J' v s) (hx : ∀ v s, X v s → X' v s) {ρ : Operand → AV} {op : Op} {ty : TypeId} (h : aexec P ρ op ty st J X) : aexec P ρ op ty st J' X' := by
  cases op <;> simp only [aexec] at h ⊢
  case move => exact hk _ _ h
  case assign => exact hk _ _ h
  case pick => exact apick_mono (fun v hv => hk _ _ hv) h
  case alloc => exact aalloc_mono hk h
  case box => exact ⟨h.1, h.2.1, hk _ _ h.2.2⟩
  case build => exact abuild_mono (fun v hv => hk _ _ hv) h
  case buildSlice => exact abuildSlice_mono (fun v hv => hk _ _ hv) h
  case load => exact aload_mono (fun v hv => hk _ _ hv) h
  case store => exact astore_mono (fun s hs => hk _ _ hs) h
  case nilCheck => exact anil_mono (fun v hv => hk _ _ hv) h
  case binOp => exact abin_mono (fun v hv => hk _ _ hv) h
  case unOp =>
    split at h
    · exact h.mono fun r hr => hk _ _ hr
    · exact h.elim
  case convert => exact aconv_mono (fun v hv => hk _ _ hv) h
  case makeInterface => exact aiface_mono (fun v hv => hk _ _ hv) h
  case makeFunc =>
    split at h
    · exact hk _ _ h
    · exact h.elim
  case slice =>
    split at h
    · exact aslice_mono (fun v hv => hk _ _ hv) h
    · exact h.elim
  case fieldAddr => exact afieldAddr_mono (fun v hv => hk _ _ hv) h
  case field => exact afield_mono (fun v hv => hk _ _ hv) h
  case indexAddr => exact aindexAddr_mono (fun v hv => hk _ _ hv) h
  case index => exact aindex_mono (fun v hv => hk _ _ hv) h
  case extract => exact aextract_mono (fun v hv => hk _ _ hv) h
  case call => exact acall_mono hk hx h
  case panic =>
    unfold apanic at *
    split at h
    · exact hx _ _ h
    · exact h.elim
  case makeMap =>
    split at h
    · exact ⟨h.1, hk _ _ h.2⟩
    · exact h.elim
  case lookup => exact alookup_mono (fun v hv => hk _ _ hv) h
  case mapUpdate => exact aupdate_mono (fun s hs => hk _ _ hs) h
  case mapEntry => exact amapEntry_mono hk h
  case entryStore => exact aentryStore_mono (fun s hs => hk _ _ hs) h
  case sliceToArrayPointer => exact aarrAt_mono (fun v hv => hk _ _ hv) h
  case makeSlice => exact amakeSlice_mono (fun v hv => hk _ _ hv) h
end mono

theorem aexec_congr {P : Program} {ρ ρ' : Operand → AV} {op : Op} (ty : TypeId) (st : AS) (K X : AV → AS → Prop) (h : ∀ x ∈ op.operands, ρ x = ρ' x) : aexec P ρ op ty st K X = aexec P ρ' op ty st K X := by
  have pairs : ∀ ps : Array (Nat × Operand), (∀ x ∈ (ps.toList.map (·.2)).toArray, ρ x = ρ' x) → (ps.toList.map fun p => (p.1, ρ p.2)) = (ps.toList.map fun p => (p.1, ρ' p.2)) := fun ps hp =>
    List.map_congr_left fun p hm => by
      rw [hp p.2 (by simp; exact ⟨p.1, by simpa using hm⟩)]
  cases op <;> simp only [Op.operands] at h <;> simp only [aexec]
  case move x => rw [h x (by simp)]
  case assign x => rw [h x (by simp)]
  case pick c a b => rw [h c (by simp), h a (by simp), h b (by simp)]
  case box t x => rw [h x (by simp)]
  case build t ps => rw [pairs ps h]
  case buildSlice t n ps => rw [pairs ps h]
  case load t x => rw [h x (by simp)]
  case store t a x => rw [h a (by simp), h x (by simp)]
  case nilCheck x => rw [h x (by simp)]
  case binOp o t x y u => rw [h x (by simp), h y (by simp)]
  case unOp o t x => rw [h x (by simp)]
  case convert s d x => rw [h x (by simp)]
  case makeInterface t x => rw [h x (by simp)]
  case makeFunc f a b =>
    have : b.toList.map ρ = b.toList.map ρ' := List.map_congr_left fun x hx => h x (by simp; exact .inr (by simpa using hx))
    rw [this]
  case slice t x lo hi mx =>
    rw [h x (by simp)]
    cases lo with
    | none => cases hi with
      | none => rfl
      | some b => simp only [Option.map_some]; rw [h b (by simp)]; rfl
    | some a => cases hi with
      | none => simp only [Option.map_some]; rw [h a (by simp)]; rfl
      | some b => simp only [Option.map_some]; rw [h a (by simp), h b (by simp)]
  case fieldAddr t x f => rw [h x (by simp)]
  case field t x f => rw [h x (by simp)]
  case indexAddr t x i => rw [h x (by simp), h i (by simp)]
  case index t x i => rw [h x (by simp), h i (by simp)]
  case extract x i => rw [h x (by simp)]
  case call c =>
    unfold acall
    have ha : c.args.toList.map ρ = c.args.toList.map ρ' := List.map_congr_left fun x hx => h x (by simp [Call.operands]; exact .inr (by simpa using hx))
    rw [ha]
    cases hc : c.callee with
    | value f => simp only []; rw [h f (by simp [Call.operands, hc])]
    | invoke r m => rfl
    | builtin b => rfl
  case panic x => rw [h x (by simp)]
  case lookup t x k c => rw [h x (by simp), h k (by simp)]
  case mapUpdate t x k v => rw [h x (by simp), h k (by simp), h v (by simp)]
  case mapEntry t x k => rw [h x (by simp), h k (by simp)]
  case entryStore t x s v => rw [h x (by simp), h s (by simp), h v (by simp)]
  case sliceToArrayPointer t x => rw [h x (by simp)]
  case makeSlice t n c => rw [h n (by simp), h c (by simp)]
end Go.Proofs.YtjodibncpbjegaaDoor
/- A region that draws its order, walked in ONE order of the prover's choice: an operation either yields its value whatever the world ('free': and then it may be taken at once), or is the only one that may come up ('forced'). -/
set_option linter.unusedVariables false
namespace Go.Proofs.YtjodibncpbjegaaDoor
open Go.RowKit

/-- At the end G; no other way out. -/
def onNormal (G : Act → World → Prop) : Exit → Act → World → Prop
  | .normal, a, w => G a w
  | _, _, _ => False
theorem wp_good {P : Program} {c : Code} {a : Act} {w : World} {Q : Exit → Act → World → Prop} (G : Act → World → Prop) (h : ∀ G' : Act → World → Prop, (∀ a w, G a w → G' a w) → c.wp P (onNormal G') a w) (hq : ∀ a w, G a w → Q .normal a w) : c.wp P Q a w :=
  wp_mono (h G fun _ _ h => h) fun e a w he => by
    cases e with
    | normal => exact hq a w he
    | _ => exact he.elim

section
variable {P : Program} {ops : Array Oper} {Q : Exit → Act → World → Prop} {md : Region.Mode} {G : Act → World → Prop}

/-- The walk in the order that is listed: (number, free?). -/
def wpOrd (P : Program) (ops : Array Oper) (Q : Exit → Act → World → Prop) : List (Nat × Bool) → Act → World → Prop
  | [], a, w => Q .normal a w
  | (i, false) :: r, a, w => wpOp P ops Q i (wpOrd P ops Q r) a w
  | (i, true) :: r, a, w => ∃ o v, ops[i]? = some o ∧ Yields P ops o v a ∧ wpOrd P ops Q r (a.put o.dst v) w

/-- Is the order that is listed one that serves? -/
def ordB (md : Region.Mode) (ops : Array Oper) : List (Nat × Bool) → Array Bool → Bool
  | [], listed => Region.ready md ops listed == []
  | (i, true) :: r, listed => Region.free md ops listed i && (Region.ready md ops listed).contains i && ordB md ops r (listed.setIfInBounds i true)
  | (i, false) :: r, listed => Region.ready md ops listed == [i] && ordB md ops r (listed.setIfInBounds i true)

theorem wpAny_of_ord (hs : Region.noSelect ops = true) : ∀ (l : List (Nat × Bool)) (listed : Array Bool) (a : Act) (w : World), ordB md ops l listed = true → wpOrd P ops (onNormal G) l a w → wpAny P md ops (onNormal G) l.length listed a w
  | [], listed, a, w, hB, h => ⟨by simpa [ordB] using hB, h⟩
  | (i, true) :: r, listed, a, w, hB, h => by
    simp only [ordB, Bool.and_eq_true] at hB
    obtain ⟨o, v, ho, hy, hr⟩ := h
    exact wpAny_take ho hs hB.1.1 hB.1.2 (fun _ _ _ h => h) hy (wpAny_of_ord hs r _ _ _ hB.2 hr)
  | (i, false) :: r, listed, a, w, hB, h => by
    simp only [ordB, Bool.and_eq_true, beq_iff_eq] at hB
    refine wpAny_all hB.1 (by simp) (fun j hj => ?_)
    obtain rfl : j = i := by simpa using hj
    exact wpOp_mono (fun a w => wpAny_of_ord hs r _ a w hB.2) h

/-- The region, by an order that serves. -/
theorem wp_region_ord {id : Nat} {a : Act} {w : World} {l : List Oper} (order : List (Nat × Bool)) (hm : P.follows .mixedOrders = true)
    (hB : (Region.noSelect l.toArray && order.length == l.toArray.size && ordB .any l.toArray order (Array.replicate l.toArray.size false)) = true)
    (h : wpOrd P l.toArray (onNormal G) order a w.drew) : (Code.region id l.toArray true).wp P (onNormal G) a w := by
  simp only [Bool.and_eq_true, beq_iff_eq] at hB
  refine wp_region_any hm ?_
  have := wpAny_of_ord (P := P) (G := G) hB.1.1 order _ a w.drew hB.2 h
  rw [hB.1.2] at this
  exact this

theorem wpOrd_nil {a : Act} {w : World} (h : G a w) : wpOrd P ops (onNormal G) [] a w := h
/-- A forced one: as in a list of operations. -/
theorem wpOrd_forced {i : Nat} {o : Oper} {r : List (Nat × Bool)} {a : Act} {w : World} (ho : ops[i]? = some o)
    (h : ∀ K : Act → World → Prop, (∀ a w, wpOrd P ops Q r a w → K a w) → if Region.wanted o (yielded ops a.tmps) = true then Oper.wp P o a w K Q else K (a.put o.dst undef) w) : wpOrd P ops Q ((i, false) :: r) a w := by
  have := h _ (fun _ _ h => h)
  show wpOp P ops Q i (wpOrd P ops Q r) a w
  unfold wpOp
  simp only [ho]
  split
  · rename_i hw; rw [if_pos hw] at this; exact .inl this
  · rename_i hw; rw [if_neg hw] at this; exact this
/-- A free one: its value, whatever the world. -/
theorem wpOrd_free {i : Nat} {o : Oper} {r : List (Nat × Bool)} {a : Act} {w : World} (ho : ops[i]? = some o)
    (h : ∀ K : Act → World → Prop, (∀ a w, wpOrd P ops Q r a w → K a w) → if Region.wanted o (yielded ops a.tmps) = true then (∃ v, (∀ w, (execOp a.eval o).run P w = .ok (.value v) w) ∧ K (a.put o.dst v) w) else K (a.put o.dst undef) w) : wpOrd P ops Q ((i, true) :: r) a w := by
  have := h _ (fun _ _ h => h)
  by_cases hw : Region.wanted o (yielded ops a.tmps) = true
  · rw [if_pos hw] at this
    obtain ⟨v, h1, h2⟩ := this
    exact ⟨o, v, ho, .inl ⟨hw, h1⟩, h2⟩
  · rw [if_neg hw] at this
    exact ⟨o, undef, ho, .inr ⟨by simpa using hw, rfl⟩, this⟩
end
end Go.Proofs.YtjodibncpbjegaaDoor
/- A region that draws its order, walked in one order of the prover's choice, its loads read in a CLASS of worlds: an operation is 'free' if it yields one value in every world of the class; each other one is the only one that may come up, and leaves a world of the class unless it waits for all the free ones ('late'). -/
set_option linter.unusedVariables false
namespace Go.Proofs.YtjodibncpbjegaaDoor
open Go.RowKit

/-- A region that ends as it should: what stands behind it is a variable's while it is walked. -/
theorem wp_normal {P : Program} {c : Code} {a : Act} {w : World} {Q : Exit → Act → World → Prop} (h : ∀ G : Act → World → Prop, (∀ a w, Q .normal a w → G a w) → c.wp P (onNormal G) a w) : c.wp P Q a w :=
  wp_mono (h _ fun _ _ h => h) fun e a w he => by
    cases e with
    | normal => exact he
    | _ => exact he.elim

section
variable {P : Program} {ops : Array Oper} {md : Region.Mode} {G : Act → World → Prop} {C : World → Prop} {late : List Nat}

/-- In every world of the class. -/
def YieldsC (P : Program) (ops : Array Oper) (C : World → Prop) (o : Oper) (v : Value) (a : Act) : Prop :=
  (Region.wanted o (yielded ops a.tmps) = true ∧ ∀ w, C w → (execOp a.eval o).run P w = .ok (.value v) w) ∨
  (Region.wanted o (yielded ops a.tmps) = false ∧ v = undef)
theorem YieldsC.of_same {o : Oper} {v : Value} {a a' : Act} (hy : YieldsC P ops C o v a) (he : execOp a'.eval o = execOp a.eval o)
    (hw : Region.wanted o (yielded ops a'.tmps) = Region.wanted o (yielded ops a.tmps)) : YieldsC P ops C o v a' := by
  unfold YieldsC at *
  rw [he, hw]
  exact hy
theorem YieldsC.wpOp {i : Nat} {o : Oper} {v : Value} {a : Act} {Q : Exit → Act → World → Prop} (hi : ops[i]? = some o) (hy : YieldsC P ops C o v a)
    {K : Act → World → Prop} {w : World} (hC : C w) (h : K (a.put o.dst v) w) : wpOp P ops Q i K a w := by
  unfold Go.wpOp
  simp only [hi]
  rcases hy with ⟨hw, hv⟩ | ⟨hw, rfl⟩
  · simp only [hw, if_true, Oper.wp, hv w hC, Oper.upon]; exact .inl h
  · simp only [hw, Bool.false_eq_true, if_false]; exact h
theorem YieldsC.put {j : Nat} {oi oj : Oper} {v : Value} (hj : ops[j]? = some oj) (hap : oi.apart ops oj = true)
    (hsi : ∀ cs b, oi.op ≠ .select cs b) (hsj : ∀ cs b, oj.op ≠ .select cs b) {K : Act → World → Prop} {a : Act} {w : World}
    (hy : YieldsC P ops C oi v a) (h : Go.wpOp P ops (onNormal G) j K (a.put oi.dst v) w) :
    Go.wpOp P ops (onNormal G) j (fun a' w' => YieldsC P ops C oi v a' ∧ K (a'.put oi.dst v) w') a w := by
  obtain ⟨h1, h2, h3⟩ := Oper.apart_spec hap
  have keep : ∀ (a : Act), YieldsC P ops C oi v a → ∀ u, YieldsC P ops C oi v (a.put oj.dst u) := fun a hy u =>
    hy.of_same (execOp_put oi hsi a oj.dst u h3) (wanted_put oi a oj.dst u h3)
  have keepD : ∀ d, YieldsC P ops C oi v { a with defers := d :: a.defers } := fun d => hy.of_same rfl rfl
  unfold Go.wpOp at *
  simp only [hj] at *
  rw [wanted_put oj a oi.dst v h1] at h
  split
  · rename_i hw
    simp only [hw, if_true] at h
    rcases h with h | ⟨hasks, hlets⟩
    case inr => exact .inr ⟨by unfold Oper.asks at *; rw [execOp_put oj hsj a oi.dst v h1] at hasks; exact hasks, hlets⟩
    refine .inl ?_
    unfold Oper.wp at *
    rw [execOp_put oj hsj a oi.dst v h1] at h
    generalize (execOp a.eval oj).run P w = r at *
    cases r with
    | ok n w' =>
      cases n <;> simp only [Oper.upon] at h ⊢
      case value u => exact ⟨keep a hy u, by rw [← Act.put_comm a v u h2]; exact h⟩
      case skip => exact ⟨keep a hy _, by rw [← Act.put_comm a v undef h2]; exact h⟩
      case defer d =>
        refine ⟨keep _ (keepD d) _, ?_⟩
        rw [← Act.put_comm _ v undef h2, ← Act.put_defers]
        exact h
      case enter f args =>
        refine Calls.mono h fun e w'' he => ?_
        cases e with
        | returned u => exact ⟨keep a hy u, by rw [← Act.put_comm a v u h2]; exact he⟩
        | panicked c => exact he
        | outgrown => exact he
      case row row args => exact Rows.mono h fun u w'' he => ⟨keep a hy u, by rw [← Act.put_comm a v u h2]; exact he⟩
    | halt x w' =>
      cases x <;> simp only [Oper.upon] at h ⊢
      case panic u => exact h
  · rename_i hw
    simp only [hw] at h
    exact ⟨keep a hy _, by rw [← Act.put_comm a v undef h2]; exact h⟩

/-- Whatever order is picked; behind each operation that is not late the world is one of the class. -/
def wpAnyD (P : Program) (md : Region.Mode) (ops : Array Oper) (C : World → Prop) (late : List Nat) (Q : Exit → Act → World → Prop) : Nat → Array Bool → Act → World → Prop
  | 0, listed, a, w => Region.ready md ops listed = [] ∧ Q .normal a w
  | fuel + 1, listed, a, w =>
    (Region.ready md ops listed = [] → Q .normal a w) ∧
    ∀ i ∈ Region.ready md ops listed, wpOp P ops Q i (fun a' w' => (i ∉ late → C w') ∧ wpAnyD P md ops C late Q fuel (listed.setIfInBounds i true) a' w') a w
theorem wpAnyD.any {Q : Exit → Act → World → Prop} : ∀ (fuel : Nat) (listed : Array Bool) (a : Act) (w : World), wpAnyD P md ops C late Q fuel listed a w → wpAny P md ops Q fuel listed a w
  | 0, _, _, _, h => h
  | fuel + 1, _, _, _, h => ⟨h.1, fun i hi => wpOp_mono (fun a w h2 => wpAnyD.any fuel _ a w h2.2) (h.2 i hi)⟩

/-- What is listed waits for nothing that is not. -/
def Closed (md : Region.Mode) (ops : Array Oper) (listed : Array Bool) : Prop := ∀ (j : Nat) (o : Oper), listed.getD j false = true → ops[j]? = some o → ∀ e ∈ o.after, Region.binds md e = true → listed.getD e.on false = true
theorem Closed.set {listed : Array Bool} {i : Nat} (h : Closed md ops listed) (hi : i ∈ Region.ready md ops listed) : Closed md ops (listed.setIfInBounds i true) := by
  intro j o hj ho e he hb
  refine getD_set_true ?_
  by_cases hij : i = j
  · subst hij
    obtain ⟨_, o', ho', hall⟩ := mem_ready.1 hi
    rw [ho] at ho'
    obtain rfl := Option.some.inj ho'
    exact hall e he hb
  · rw [getD_set_ne false hij] at hj
    exact h j o hj ho e he hb

/-- Does operation t wait for operation i? -/
def waitsB (md : Region.Mode) (ops : Array Oper) (i : Nat) : Nat → Nat → Bool
  | 0, _ => false
  | f + 1, t => match ops[t]? with
    | none => false
    | some o => o.after.any fun e => Region.binds md e && (e.on == i || waitsB md ops i f e.on)
theorem waits_listed {listed : Array Bool} (hc : Closed md ops listed) {i : Nat} : ∀ (f t : Nat), waitsB md ops i f t = true → listed.getD t false = true → listed.getD i false = true
  | 0, _, h, _ => by simp [waitsB] at h
  | f + 1, t, h, ht => by
    unfold waitsB at h
    split at h
    · cases h
    · rename_i o ho
      obtain ⟨e, he, hb⟩ := Array.any_eq_true'.1 h
      simp only [Bool.and_eq_true, Bool.or_eq_true, beq_iff_eq] at hb
      have h1 := hc t o ht ho e he hb.1
      rcases hb.2 with h2 | h2
      · rw [h2] at h1; exact h1
      · exact waits_listed hc f e.on h2 h1
theorem waits_ready {listed : Array Bool} (hc : Closed md ops listed) {i f t : Nat} (h : waitsB md ops i f t = true) (ht : t ∈ Region.ready md ops listed) : listed.getD i false = true := by
  cases f with
  | zero => simp [waitsB] at h
  | succ f =>
    obtain ⟨_, o, ho, hall⟩ := mem_ready.1 ht
    unfold waitsB at h
    rw [ho] at h
    obtain ⟨e, he, hb⟩ := Array.any_eq_true'.1 h
    simp only [Bool.and_eq_true, Bool.or_eq_true, beq_iff_eq] at hb
    have h1 := hall e he hb.1
    rcases hb.2 with h2 | h2
    · rw [h2] at h1; exact h1
    · exact waits_listed hc f e.on h2 h1
theorem ready_not_listed {listed : Array Bool} {i : Nat} (h : i ∈ Region.ready md ops listed) : listed.getD i false = false := by
  have h0 := (mem_ready.1 h).1
  rcases Nat.lt_or_ge i listed.size with h' | h'
  · simp [h'] at h0 ⊢; exact h0
  · simp [Array.getElem?_eq_none h']

theorem wpAnyD_first {i f : Nat} {oi : Oper} {v : Value} (hi : ops[i]? = some oi) (hsel : ∀ (j : Nat) (o : Oper) cs b, ops[j]? = some o → o.op ≠ .select cs b) (hl : ∀ t ∈ late, waitsB md ops i f t = true) :
    ∀ (fuel : Nat) (listed : Array Bool) (a : Act) (w : World), C w → Closed md ops listed →
      (∀ j oj, ops[j]? = some oj → j ≠ i → listed.getD j true = false → (∀ e ∈ oj.after, Region.binds md e = true → e.on ≠ i) → oi.apart ops oj = true) →
      i ∈ Region.ready md ops listed → YieldsC P ops C oi v a →
      wpAnyD P md ops C late (onNormal G) fuel (listed.setIfInBounds i true) (a.put oi.dst v) w → wpAnyD P md ops C late (onNormal G) (fuel + 1) listed a w := by
  intro fuel
  induction fuel with
  | zero =>
    intro listed a w hC hcl _ hr hy H
    refine ⟨fun h => (by rw [h] at hr; cases hr), fun j hj => ?_⟩
    by_cases hji : j = i
    · subst hji; exact hy.wpOp hi hC ⟨fun _ => hC, H⟩
    · have := ready_mono hj hji
      rw [H.1] at this
      cases this
  | succ fuel ih =>
    intro listed a w hC hcl hfree hr hy H
    refine ⟨fun h => (by rw [h] at hr; cases hr), fun j hj => ?_⟩
    by_cases hji : j = i
    · subst hji; exact hy.wpOp hi hC ⟨fun _ => hC, H⟩
    · have h1 := H.2 j (ready_mono hj hji)
      obtain ⟨hjun, oj, hoj, hall⟩ := mem_ready.1 hj
      have hnot : ∀ e ∈ oj.after, Region.binds md e = true → e.on ≠ i := fun e he hb heq => by
        have h1 := hall e he hb
        rw [heq, ready_not_listed hr] at h1
        cases h1
      have hjl : j ∉ late := fun hm => by
        have := waits_ready hcl (hl j hm) hj
        rw [ready_not_listed hr] at this
        cases this
      have h2 := YieldsC.put hoj (hfree j oj hoj hji hjun hnot) (fun cs b => hsel i oi cs b hi) (fun cs b => hsel j oj cs b hoj) hy h1
      have hfree' : ∀ k ok, ops[k]? = some ok → k ≠ i → (listed.setIfInBounds j true).getD k true = false →
          (∀ e ∈ ok.after, Region.binds md e = true → e.on ≠ i) → oi.apart ops ok = true := fun k ok hk hki hun hno => by
        refine hfree k ok hk hki ?_ hno
        by_cases hjk : j = k
        · subst hjk; exact hjun
        · rw [getD_set_ne true hjk] at hun; exact hun
      refine wpOp_mono (fun a' w' h3 => ?_) h2
      have hC' := h3.2.1 hjl
      refine ⟨fun _ => hC', ih (listed.setIfInBounds j true) a' w' hC' (hcl.set hj) hfree' (ready_mono hr (Ne.symm hji)) h3.1 ?_⟩
      rw [Array.setIfInBounds_comm _ _ hji]
      exact h3.2.2

/-- The walk in the order that is listed: (number, free?). -/
def wpOrdC (P : Program) (ops : Array Oper) (C : World → Prop) (late : List Nat) (Q : Exit → Act → World → Prop) : List (Nat × Bool) → Act → World → Prop
  | [], a, w => Q .normal a w
  | (i, false) :: r, a, w => wpOp P ops Q i (fun a' w' => (i ∉ late → C w') ∧ ((i ∉ late → C w') → wpOrdC P ops C late Q r a' w')) a w
  | (i, true) :: r, a, w => C w ∧ ∃ o v, ops[i]? = some o ∧ YieldsC P ops C o v a ∧ wpOrdC P ops C late Q r (a.put o.dst v) w

/-- Does the order serve? -/
def ordC (md : Region.Mode) (ops : Array Oper) (late : List Nat) : List (Nat × Bool) → Array Bool → Bool
  | [], listed => Region.ready md ops listed == []
  | (i, true) :: r, listed => Region.free md ops listed i && (Region.ready md ops listed).contains i && late.all (waitsB md ops i ops.size) && ordC md ops late r (listed.setIfInBounds i true)
  | (i, false) :: r, listed => Region.ready md ops listed == [i] && ordC md ops late r (listed.setIfInBounds i true)

theorem wpAnyD_of_ord (hs : Region.noSelect ops = true) : ∀ (l : List (Nat × Bool)) (listed : Array Bool) (a : Act) (w : World), Closed md ops listed → ordC md ops late l listed = true → wpOrdC P ops C late (onNormal G) l a w →
    wpAnyD P md ops C late (onNormal G) l.length listed a w
  | [], listed, a, w, _, hB, h => ⟨by simpa [ordC] using hB, h⟩
  | (i, true) :: r, listed, a, w, hcl, hB, h => by
    simp only [ordC, Bool.and_eq_true] at hB
    obtain ⟨⟨⟨hf, hr⟩, hl⟩, hB⟩ := hB
    obtain ⟨hC, o, v, ho, hy, hrest⟩ := h
    have hr' : i ∈ Region.ready md ops listed := by simpa using hr
    exact wpAnyD_first ho (Region.noSelect_spec hs) (by simpa using hl) r.length listed a w hC hcl (Region.free_spec ho hf) hr' hy (wpAnyD_of_ord hs r _ _ _ (hcl.set hr') hB hrest)
  | (i, false) :: r, listed, a, w, hcl, hB, h => by
    simp only [ordC, Bool.and_eq_true, beq_iff_eq] at hB
    have hi : i ∈ Region.ready md ops listed := by rw [hB.1]; simp
    refine ⟨fun h0 => (by rw [h0] at hi; cases hi), fun j hj => ?_⟩
    obtain rfl : j = i := by rw [hB.1] at hj; simpa using hj
    exact wpOp_mono (fun a' w' h2 => ⟨h2.1, wpAnyD_of_ord hs r _ a' w' (hcl.set hi) hB.2 (h2.2 h2.1)⟩) h

theorem closed_none (n : Nat) : Closed md ops (Array.replicate n false) := by
  intro j o hj
  rw [Array.getD_eq_getD_getElem?, Array.getElem?_replicate] at hj
  split at hj <;> simp at hj

/-- The region. -/
theorem wp_region_ordC {id : Nat} {a : Act} {w : World} {l : List Oper} (C : World → Prop) (late : List Nat) (order : List (Nat × Bool)) (hm : P.follows .mixedOrders = true)
    (hB : (Region.noSelect l.toArray && order.length == l.toArray.size && ordC .any l.toArray late order (Array.replicate l.toArray.size false)) = true)
    (h : wpOrdC P l.toArray C late (onNormal G) order a w.drew) : (Code.region id l.toArray true).wp P (onNormal G) a w := by
  simp only [Bool.and_eq_true, beq_iff_eq] at hB
  refine wp_region_any hm ?_
  have := wpAnyD.any _ _ _ _ (wpAnyD_of_ord (P := P) (G := G) (C := C) hB.1.1 order _ a w.drew (closed_none _) hB.2 h)
  rw [hB.1.2] at this
  exact this

theorem wpOrdC_nil {a : Act} {w : World} (h : G a w) : wpOrdC P ops C late (onNormal G) [] a w := h
/-- One that is alone: behind it the class, or it is late. -/
theorem wpOrdC_forced {i : Nat} {o : Oper} {r : List (Nat × Bool)} {a : Act} {w : World} {Q : Exit → Act → World → Prop} (ho : ops[i]? = some o)
    (h : ∀ K : Act → World → Prop, (∀ a w, (i ∉ late → C w) → wpOrdC P ops C late Q r a w → K a w) → if Region.wanted o (yielded ops a.tmps) = true then Oper.wp P o a w K Q else K (a.put o.dst undef) w) : wpOrdC P ops C late Q ((i, false) :: r) a w := by
  have := h (fun a' w' => (i ∉ late → C w') ∧ ((i ∉ late → C w') → wpOrdC P ops C late Q r a' w')) (fun a w hC h => ⟨hC, fun _ => h⟩)
  show wpOp P ops Q i _ a w
  unfold wpOp
  simp only [ho]
  split
  · rename_i hw; rw [if_pos hw] at this; exact .inl this
  · rename_i hw; rw [if_neg hw] at this; exact this
/-- A free one: its value in every world of the class. -/
theorem wpOrdC_free {i : Nat} {o : Oper} {r : List (Nat × Bool)} {a : Act} {w : World} {Q : Exit → Act → World → Prop} (ho : ops[i]? = some o) (hC : C w)
    (h : ∀ K : Act → World → Prop, (∀ a w, wpOrdC P ops C late Q r a w → K a w) → if Region.wanted o (yielded ops a.tmps) = true then (∃ v, (∀ w, C w → (execOp a.eval o).run P w = .ok (.value v) w) ∧ K (a.put o.dst v) w) else K (a.put o.dst undef) w) : wpOrdC P ops C late Q ((i, true) :: r) a w := by
  have := h _ (fun _ _ h => h)
  by_cases hw : Region.wanted o (yielded ops a.tmps) = true
  · rw [if_pos hw] at this
    obtain ⟨v, h1, h2⟩ := this
    exact ⟨hC, o, v, ho, .inl ⟨hw, h1⟩, h2⟩
  · rw [if_neg hw] at this
    exact ⟨hC, o, undef, ho, .inr ⟨by simpa using hw, rfl⟩, this⟩
end
end Go.Proofs.YtjodibncpbjegaaDoor
