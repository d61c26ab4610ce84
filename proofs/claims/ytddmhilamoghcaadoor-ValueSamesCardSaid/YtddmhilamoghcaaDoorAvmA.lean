/- What holds of an operation's value may be weakened; an operation looks at its operands alone. No program. -/
import Derived.Test.YtddmhilamoghcaaDoorAvm9
set_option linter.unusedVariables false
set_option linter.unusedSimpArgs false
namespace Go.Proofs.YtddmhilamoghcaaDoor
open Go.RowKit

section mono
variable {P : Program} {st : AS}

theorem TRun.mono {α : Type} {sem : Sem α} {K K' : α → Prop} (hk : ∀ v, K v → K' v) (h : TRun P sem K) : TRun P sem K' := by
  obtain ⟨v, h1, h2⟩ := h
  exact ⟨v, h1, hk v h2⟩
variable {K K' : AV → Prop} {J J' : AV → AS → Prop}
theorem apick_mono (hk : ∀ v, K v → K' v) {c a b : AV} (h : apick c a b K) : apick c a b K' := by
  unfold apick at *
  split at h
  · exact ⟨fun e => hk _ (h.1 e), fun e => hk _ (h.2 e)⟩
  · exact h.elim
theorem aalloc_mono (hk : ∀ v s, J v s → J' v s) {t : Option TyI} (h : aalloc t st J) : aalloc t st J' := by
  unfold aalloc at *
  split at h
  · exact ⟨h.1, hk _ _ h.2⟩
  · exact h.elim
theorem abuild_mono (hk : ∀ v, K v → K' v) {t : Option TyI} {ps : List (Nat × AV)} (h : abuild t ps K) : abuild t ps K' := by
  unfold abuild at *
  split at h
  · try dsimp only at *
    split at h
    · exact ⟨h.1, hk _ h.2⟩
    · exact h.elim
  · try dsimp only at *
    split at h
    · exact ⟨h.1, hk _ h.2⟩
    · exact h.elim
  · exact h.elim
theorem abuildSlice_mono (hk : ∀ v, K v → K' v) {t : Option TyI} {n : Nat} {ps : List (Nat × AV)} (h : abuildSlice P t n ps K) : abuildSlice P t n ps K' := by
  unfold abuildSlice at *
  split at h
  · try dsimp only at *
    split at h
    · obtain ⟨a, b, c, d, e, h⟩ := h
      refine ⟨a, b, c, d, e, ?_⟩
      split at h
      · exact hk _ h
      · exact h.elim
    · exact h.elim
  · exact h.elim
theorem aload_mono (hk : ∀ v, K v → K' v) {t : Option TyI} {a : AV} (h : aload t a st K) : aload t a st K' := by
  unfold aload at *
  split at h
  · try dsimp only at *
    split at h
    · try dsimp only at *
      split at h
      · rename_i c; rw [if_pos c]; exact ⟨h.1, hk _ h.2⟩
      · rename_i c; rw [if_neg c]
        split at h
        · exact hk _ h
        · exact h.elim
    · try dsimp only at *
      split at h
      · try dsimp only at *
        split at h
        · rename_i c; rw [if_pos c]; exact ⟨h.1, h.2.1, hk _ h.2.2⟩
        · rename_i c; rw [if_neg c]
          split at h
          · exact hk _ h
          · exact h.elim
      · exact h.elim
    · exact h.elim
  · exact h.elim
theorem astore_mono {L L' : AS → Prop} (hk : ∀ s, L s → L' s) {t : Option TyI} {a v : AV} (h : astore t a v st L) : astore t a v st L' := by
  unfold astore at *
  split at h
  · try dsimp only at *
    split at h
    · exact ⟨h.1, h.2.1, h.2.2.1, h.2.2.2.1, hk _ h.2.2.2.2⟩
    · exact h.elim
  · exact h.elim
theorem anil_mono (hk : ∀ v, K v → K' v) {a : AV} (h : anil a K) : anil a K' := by
  unfold anil at *
  split at h
  · exact hk _ h
  · exact hk _ h
  · exact hk _ h
  · exact h.elim
theorem abin_mono (hk : ∀ v, K v → K' v) {op : BinOp} {t : TypeId} {x y : Operand} {a b : AV} (h : abin P op t x y a b K) : abin P op t x y a b K' := by
  unfold abin at *
  split at h
  · exact h.mono fun r hr => hk _ hr
  · exact h.elim
theorem aconv_mono (hk : ∀ v, K v → K' v) {s d : TypeId} {a : AV} (h : aconv P s d a K) : aconv P s d a K' := by
  unfold aconv at *
  split at h
  · try dsimp only at *
    split at h
    · try dsimp only at *
      split at h
      · obtain ⟨l, e, h⟩ := h
        exact ⟨l, e, hk _ h⟩
      · exact h.elim
    · exact h.elim
  · split at h
    · exact h.mono fun r hr => hk _ hr
    · exact h.elim
theorem aiface_mono (hk : ∀ v, K v → K' v) {t : Option TyI} {x : TypeId} {a : AV} (h : aiface t x a K) : aiface t x a K' := by
  unfold aiface at *
  split at h
  · exact h.elim
  · exact hk _ h
  · exact h.elim
theorem aslice_mono (hk : ∀ v, K v → K' v) {t : TypeId} {a : AV} {lo hi : Option AV} (h : aslice P t a lo hi K) : aslice P t a lo hi K' := by
  unfold aslice at *
  split at h
  · try dsimp only at *
    split at h
    · try dsimp only at *
      split at h
      · exact ⟨h.1, h.2.1, h.2.2.1, h.2.2.2.1, h.2.2.2.2.1, hk _ h.2.2.2.2.2⟩
      · exact h.elim
    · exact h.elim
  · split at h
    · try dsimp only at *
      split at h
      · exact h.mono fun r hr => hk _ hr
      · exact h.mono fun r hr => hk _ hr
      · exact h.mono fun r hr => hk _ hr
      · exact h.mono fun r hr => hk _ hr
      · exact h.elim
    · exact h.elim
theorem afieldAddr_mono (hk : ∀ v, K v → K' v) {t : Option TyI} {a : AV} {f : Nat} (h : afieldAddr t a f K) : afieldAddr t a f K' := by
  unfold afieldAddr at *
  split at h
  · try dsimp only at *
    split at h
    · obtain ⟨c, h⟩ := h
      refine ⟨c, ?_⟩
      split at h
      · exact hk _ h
      · exact hk _ h
      · exact h.elim
    · exact h.elim
  · exact h.elim
theorem afield_mono (hk : ∀ v, K v → K' v) {t : Option TyI} {a : AV} {f : Nat} (h : afield t a f K) : afield t a f K' := by
  unfold afield at *
  split at h
  · try dsimp only at *
    split at h
    · exact ⟨h.1, h.2.1, hk _ h.2.2⟩
    · obtain ⟨c, h⟩ := h
      refine ⟨c, ?_⟩
      split at h
      · exact hk _ h
      · exact h.elim
    · exact h.elim
  · exact h.elim
theorem aindexAddr_mono (hk : ∀ v, K v → K' v) {t : Option TyI} {a i : AV} (h : aindexAddr t a i K) : aindexAddr t a i K' := by
  unfold aindexAddr at *
  split at h
  · obtain ⟨c, d, h⟩ := h
    refine ⟨c, d, ?_⟩
    split at h
    · exact ⟨h.1, hk _ h.2⟩
    · exact h.elim
  · exact ⟨h.1, h.2.1, h.2.2.1, hk _ h.2.2.2⟩
  · exact h.elim
theorem aindex_mono (hk : ∀ v, K v → K' v) {t : TypeId} {a i : AV} (h : aindex P t a i K) : aindex P t a i K' := by
  unfold aindex at *
  split at h
  · try dsimp only at *
    split at h
    · obtain ⟨c, d, h⟩ := h
      refine ⟨c, d, ?_⟩
      split at h
      · exact hk _ h
      · exact h.elim
    · exact h.elim
  · split at h
    · exact h.mono fun r hr => hk _ hr
    · exact h.elim
theorem aextract_mono (hk : ∀ v, K v → K' v) {a : AV} {i : Nat} (h : aextract a i K) : aextract a i K' := by
  unfold aextract at *
  split at h
  · try dsimp only at *
    split at h
    · exact hk _ h
    · exact h.elim
  · exact h.elim
theorem aapp_mono (hk : ∀ v s, J v s → J' v s) {e sz by' : Nat} {a : AV} {ns : List (List AV)} (h : aapp e sz by' a ns st J) : aapp e sz by' a ns st J' := by
  unfold aapp at *
  split at h
  · exact ⟨h.1, hk _ _ h.2⟩
  · exact ⟨h.1, h.2.1, h.2.2.1, hk _ _ h.2.2.2⟩
  · exact ⟨h.1, h.2.1, h.2.2.1, hk _ _ h.2.2.2⟩
  · exact h.elim
theorem aappend_mono (hk : ∀ v s, J v s → J' v s) {t : Option TyI} {b : Bool} {a x : AV} (h : aappend P t b a x st J) : aappend P t b a x st J' := by
  unfold aappend at *
  split at h
  · obtain ⟨c, d, e, h⟩ := h
    refine ⟨c, d, e, ?_⟩
    split at h
    · exact ⟨h.1, h.2.1, aapp_mono hk h.2.2⟩
    · exact ⟨h.1, aapp_mono hk h.2⟩
    · exact ⟨h.1, h.2.1, aapp_mono hk h.2.2⟩
    · exact h.elim
  · exact h.elim
theorem alen_mono (hk : ∀ v, K v → K' v) {ts : Array TypeId} {a : AV} (h : alen P ts a K) : alen P ts a K' := by
  unfold alen at *
  split at h
  · try dsimp only at *
    split at h
    · exact hk _ h
    · exact h.elim
  · split at h
    · exact h.mono fun r hr => hk _ hr
    · exact h.elim
theorem abuiltin_mono (hk : ∀ v s, J v s → J' v s) {b : Builtin} {ts : Array TypeId} {ty : TypeId} {l : List AV} (h : abuiltin P b ts ty l st J) : abuiltin P b ts ty l st J' := by
  unfold abuiltin at *
  split at h
  · exact alen_mono (fun v hv => hk _ _ hv) h
  · try dsimp only at *
    split at h
    · try dsimp only at *
      split at h
      · exact aappend_mono hk h
      · exact aappend_mono hk h
      · exact h.elim
    · exact h.elim
  · try dsimp only at *
    split at h
    · exact h.mono fun r hr => hk _ _ hr
    · exact h.elim
  · try dsimp only at *
    split at h
    · exact h.mono fun r hr => hk _ _ hr
    · exact h.elim
  · exact h.elim
theorem acall_mono {X X' : AV → AS → Prop} (hk : ∀ v s, J v s → J' v s) (hx : ∀ v s, X v s → X' v s) {ρ : Operand → AV} {c : Call} {ty : TypeId} (h : acall P ρ c ty st J X) : acall P ρ c ty st J' X' := by
  unfold acall at *
  split at h
  · unfold acallF at *
    try dsimp only at *
    split at h
    · try dsimp only at *
      rcases h with ⟨h1, h2⟩ | ⟨h1, h2⟩
      · refine .inl ⟨h1, h2.mono fun o s ho => ?_⟩
        cases o with
        | ret v => exact hk _ _ ho
        | panic v => exact hx _ _ ho
      · refine .inr ⟨h1, ?_⟩
        split at h2
        · refine h2.mono fun r hr => ?_
          split at hr
          · exact hk _ _ hr
          · exact hr.elim
        · exact h2.elim
    · exact h.elim
  · exact abuiltin_mono hk h
  · exact h.elim
theorem aexec_mono {X X' : AV → AS → Prop} (hk : ∀ v s, J v s → J' v s) (hx : ∀ v s, X v s → X' v s) {ρ : Operand → AV} {op : Op} {ty : TypeId} (h : aexec P ρ op ty st J X) : aexec P ρ op ty st J' X' := by
  cases op <;> simp only [aexec] at h ⊢
  case move => exact hk _ _ h
  case assign => exact hk _ _ h
  case pick => exact apick_mono (fun v hv => hk _ _ hv) h
  case alloc => exact aalloc_mono hk h
  case box => exact ⟨h.1, hk _ _ h.2⟩
  case build => exact abuild_mono (fun v hv => hk _ _ hv) h
  case buildSlice => exact abuildSlice_mono (fun v hv => hk _ _ hv) h
  case load => exact aload_mono (fun v hv => hk _ _ hv) h
  case store => exact astore_mono (fun s hs => hk _ _ hs) h
  case nilCheck => exact anil_mono (fun v hv => hk _ _ hv) h
  case binOp => exact abin_mono (fun v hv => hk _ _ hv) h
  case unOp =>
    split at h
    · exact h.mono fun r hr => hk _ _ hr
    · exact h.elim
  case convert => exact aconv_mono (fun v hv => hk _ _ hv) h
  case makeInterface => exact aiface_mono (fun v hv => hk _ _ hv) h
  case makeFunc =>
    split at h
    · exact hk _ _ h
    · exact h.elim
  case slice =>
    split at h
    · exact aslice_mono (fun v hv => hk _ _ hv) h
    · exact h.elim
  case fieldAddr => exact afieldAddr_mono (fun v hv => hk _ _ hv) h
  case field => exact afield_mono (fun v hv => hk _ _ hv) h
  case indexAddr => exact aindexAddr_mono (fun v hv => hk _ _ hv) h
  case index => exact aindex_mono (fun v hv => hk _ _ hv) h
  case extract => exact aextract_mono (fun v hv => hk _ _ hv) h
  case call => exact acall_mono hk hx h
  case panic =>
    unfold apanic at *
    split at h
    · exact hx _ _ h
    · exact h.elim
end mono

theorem aexec_congr {P : Program} {ρ ρ' : Operand → AV} {op : Op} (ty : TypeId) (st : AS) (K X : AV → AS → Prop) (h : ∀ x ∈ op.operands, ρ x = ρ' x) : aexec P ρ op ty st K X = aexec P ρ' op ty st K X := by
  have pairs : ∀ ps : Array (Nat × Operand), (∀ x ∈ (ps.toList.map (·.2)).toArray, ρ x = ρ' x) → (ps.toList.map fun p => (p.1, ρ p.2)) = (ps.toList.map fun p => (p.1, ρ' p.2)) := fun ps hp =>
    List.map_congr_left fun p hm => by
      rw [hp p.2 (by simp; exact ⟨p.1, by simpa using hm⟩)]
  cases op <;> simp only [Op.operands] at h <;> simp only [aexec]
  case move x => rw [h x (by simp)]
  case assign x => rw [h x (by simp)]
  case pick c a b => rw [h c (by simp), h a (by simp), h b (by simp)]
  case box t x => rw [h x (by simp)]
  case build t ps => rw [pairs ps h]
  case buildSlice t n ps => rw [pairs ps h]
  case load t x => rw [h x (by simp)]
  case store t a x => rw [h a (by simp), h x (by simp)]
  case nilCheck x => rw [h x (by simp)]
  case binOp o t x y u => rw [h x (by simp), h y (by simp)]
  case unOp o t x => rw [h x (by simp)]
  case convert s d x => rw [h x (by simp)]
  case makeInterface t x => rw [h x (by simp)]
  case makeFunc f a b =>
    have : b.toList.map ρ = b.toList.map ρ' := List.map_congr_left fun x hx => h x (by simp; exact .inr (by simpa using hx))
    rw [this]
  case slice t x lo hi mx =>
    rw [h x (by simp)]
    cases lo with
    | none => cases hi with
      | none => rfl
      | some b => simp only [Option.map_some]; rw [h b (by simp)]; rfl
    | some a => cases hi with
      | none => simp only [Option.map_some]; rw [h a (by simp)]; rfl
      | some b => simp only [Option.map_some]; rw [h a (by simp), h b (by simp)]
  case fieldAddr t x f => rw [h x (by simp)]
  case field t x f => rw [h x (by simp)]
  case indexAddr t x i => rw [h x (by simp), h i (by simp)]
  case index t x i => rw [h x (by simp), h i (by simp)]
  case extract x i => rw [h x (by simp)]
  case call c =>
    unfold acall
    have ha : c.args.toList.map ρ = c.args.toList.map ρ' := List.map_congr_left fun x hx => h x (by simp [Call.operands]; exact .inr (by simpa using hx))
    rw [ha]
    cases hc : c.callee with
    | value f => simp only []; rw [h f (by simp [Call.operands, hc])]
    | invoke r m => rfl
    | builtin b => rfl
  case panic x => rw [h x (by simp)]
end Go.Proofs.YtddmhilamoghcaaDoor
