/- Rows that grow: one more element, and what a round leaves. -/
import Derived.Test.YtddmhilamoghcaaDoorAvmF
set_option linter.unusedVariables false
set_option linter.unusedSimpArgs false
namespace Go.Proofs.YtddmhilamoghcaaDoor
open Go.RowKit
theorem aapp_last {e sz bytes n : Nat} {own : Bool} {es news es' : List (List AV)} {B : List (List AV)} {L : List (Nat × Nat × Nat)} {K : AV → AS → Prop} (hes : es ++ news = es') (hn : es.length = n)
    (hb : (n + news.length) * bytes ≤ 140737488355328) (hz : ∀ x ∈ es, x.length = sz) (h : K (.sl true (.lin L.length) es') ⟨B, L ++ [(n + news.length, e, sz)]⟩) : aapp e sz bytes (.sl own (.lin L.length) es) news ⟨B, L ++ [(n, e, sz)]⟩ K := by
  subst hes
  subst hn
  refine ⟨hb, by simp, hz, ?_⟩
  simpa using h
theorem BoxesOk.mid {S r m : List (List AV)} {c c' : List AV} {ln ln' : List (Nat × Nat × Nat)} (h : ∀ x ∈ c', InB (S ++ c :: r).length ln.length x) : BoxesOk ⟨S ++ c :: r, ln⟩ ⟨S ++ c' :: (r ++ m), ln'⟩ := fun i cs hi he => by
  simp only at hi he ⊢
  rcases Nat.lt_trichotomy i S.length with hl | rfl | hl
  · rw [List.getElem?_append_left hl] at he ⊢
    exact .inl he
  · right
    rw [List.getElem?_append_right (Nat.le_refl _)] at he
    simp only [Nat.sub_self, List.getElem?_cons_zero, Option.some.injEq] at he
    subst he
    exact h
  · left
    rw [List.getElem?_append_right (by omega)] at he ⊢
    obtain ⟨j, hj⟩ : ∃ j, i - S.length = j + 1 := ⟨i - S.length - 1, by omega⟩
    rw [hj] at he ⊢
    simp only [List.getElem?_cons_succ] at he ⊢
    simp only [List.length_append, List.length_cons] at hi
    rwa [List.getElem?_append_left (by omega)] at he
theorem cut_mid {S r m : List (List AV)} {c c' : List AV} {L : List (Nat × Nat × Nat)} {p p' : Nat × Nat × Nat} : AS.cut ⟨S ++ c' :: (r ++ m), L ++ [p']⟩ (S ++ c :: r).length (L ++ [p]).length = ⟨S ++ c' :: r, L ++ [p']⟩ := by
  have h1 : S ++ c' :: (r ++ m) = (S ++ c' :: r) ++ m := by simp
  have h2 : (S ++ c :: r).length = (S ++ c' :: r).length := by simp
  have h3 : (L ++ [p]).length = (L ++ [p']).length := by simp
  simp only [AS.cut]
  rw [h1, h2, h3, List.take_left, List.take_length]
theorem BoxesOk.midp {S p r m : List (List AV)} {c c' : List AV} {ln ln' : List (Nat × Nat × Nat)} (h : ∀ x ∈ c', InB (S ++ (p ++ c :: r)).length ln.length x) : BoxesOk ⟨S ++ (p ++ c :: r), ln⟩ ⟨S ++ (p ++ c' :: (r ++ m)), ln'⟩ := by
  rw [← List.append_assoc, ← List.append_assoc]
  exact .mid (by rwa [List.append_assoc])
theorem cut_midp {S p r m : List (List AV)} {c c' : List AV} {L : List (Nat × Nat × Nat)} {q q' : Nat × Nat × Nat} : AS.cut ⟨S ++ (p ++ c' :: (r ++ m)), L ++ [q']⟩ (S ++ (p ++ c :: r)).length (L ++ [q]).length = ⟨S ++ (p ++ c' :: r), L ++ [q']⟩ := by
  rw [← List.append_assoc, ← List.append_assoc, ← List.append_assoc]
  exact cut_mid
theorem InB_slin {n m id : Nat} {own : Bool} {es : List (List AV)} : InB n m (.sl own (.lin id) es) ↔ id < m := InB_lin
/-! ### What says less -/
def Wk (v u : AV) : Prop := ∀ g x, VSim g v x → VSim g u x
def Wks : List AV → List AV → Prop
  | [], [] => True
  | x :: l, y :: m => (Wk x y ∧ y.one = true ∧ y.dat0 = true) ∧ Wks l m
  | _, _ => False
def Wkss : List (List AV) → List (List AV) → Prop
  | [], [] => True
  | x :: l, y :: m => Wks x y ∧ Wkss l m
  | _, _ => False
def Wka : List AV → List AV → Prop
  | [], [] => True
  | x :: l, y :: m => Wk x y ∧ Wka l m
  | _, _ => False
theorem Wk.refl (v : AV) : Wk v v := fun _ _ h => h
theorem Wk.nil (own : Bool) : Wk (.s (.slice none 0 0)) (.sl own .none []) := by
  intro g x h
  cases h
  exact .sl own .none [] none 0 0 (fun _ => undef) (Nat.le_refl _) (Nat.zero_le _) (fun e he => by cases he) (fun j x hx => by simp at hx) (fun h => absurd rfl h) (fun j x hx => by simp at hx) trivial
theorem Wks.len : ∀ {l m : List AV}, Wks l m → l.length = m.length
  | [], [], _ => rfl
  | x :: l, y :: m, h => by simp [Wks.len h.2]
  | [], _ :: _, h => h.elim
  | _ :: _, [], h => h.elim
theorem Wks.at_ : ∀ {l m : List AV} {i : Nat} {y : AV}, Wks l m → m[i]? = some y → ∃ x, l[i]? = some x ∧ Wk x y ∧ y.one = true ∧ y.dat0 = true
  | x :: l, y :: m, 0, z, h, hz => by
    obtain rfl : y = z := by simpa using hz
    exact ⟨x, rfl, h.1.1, h.1.2.1, h.1.2.2⟩
  | x :: l, y :: m, i + 1, z, h, hz => by
    obtain ⟨x', h1, h2⟩ := Wks.at_ (i := i) h.2 (by simpa using hz)
    exact ⟨x', by simpa using h1, h2⟩
  | [], [], _, _, _, hz => by simp at hz
  | [], _ :: _, _, _, h, _ => h.elim
  | _ :: _, [], _, _, h, _ => h.elim
theorem Wks.app : ∀ {l m l' m' : List AV}, Wks l m → Wks l' m' → Wks (l ++ l') (m ++ m')
  | [], [], _, _, _, h => h
  | x :: l, y :: m, _, _, h, h' => ⟨h.1, Wks.app h.2 h'⟩
  | [], _ :: _, _, _, h, _ => h.elim
  | _ :: _, [], _, _, h, _ => h.elim
theorem Wkss.len : ∀ {l m : List (List AV)}, Wkss l m → l.length = m.length
  | [], [], _ => rfl
  | x :: l, y :: m, h => by simp [Wkss.len h.2]
  | [], _ :: _, h => h.elim
  | _ :: _, [], h => h.elim
theorem Wkss.flat : ∀ {l m : List (List AV)}, Wkss l m → Wks l.flatten m.flatten
  | [], [], _ => trivial
  | x :: l, y :: m, h => by simpa using Wks.app h.1 (Wkss.flat h.2)
  | [], _ :: _, h => h.elim
  | _ :: _, [], h => h.elim
theorem Wkss.sizes : ∀ {l m : List (List AV)}, Wkss l m → ∀ e ∈ m, ∃ e' ∈ l, e'.length = e.length
  | [], [], _, e, he => by cases he
  | x :: l, y :: m, h, e, he => by
    rcases List.mem_cons.1 he with rfl | he
    · exact ⟨x, List.mem_cons_self .., h.1.len⟩
    · obtain ⟨e', h1, h2⟩ := Wkss.sizes h.2 e he
      exact ⟨e', List.mem_cons_of_mem _ h1, h2⟩
  | [], _ :: _, h, _, _ => h.elim
  | _ :: _, [], h, _, _ => h.elim
theorem Wk.agg {l m : List AV} (h : Wks l m) : Wk (.agg l) (.agg m) := by
  intro g x hx
  cases hx with
  | agg _ a hs h1 hh =>
    exact .agg m a (by rw [hs, h.len]) (fun i y hy => by obtain ⟨_, _, _, h3, _⟩ := h.at_ hy; exact h3) (fun i y hy => by
      obtain ⟨x', q1, q2, _⟩ := h.at_ hy
      exact q2 _ _ (hh i x' q1))
theorem Wk.sl {own own' : Bool} {tag : Tag} {es es' : List (List AV)} (ho : own' = true → own = true) (h : Wkss es es') : Wk (.sl own tag es) (.sl own' .none es') := by
  intro g x hx
  cases hx with
  | sl _ _ _ A cap sz vs hl hc hsz h1 hA hh htag =>
    have hf := h.flat
    have e := h.len
    rw [e]
    refine .sl own' .none es' A cap sz vs (by omega) (by omega) (fun e he => by obtain ⟨e', q1, q2⟩ := h.sizes e he; rw [← q2]; exact hsz e' q1) (fun j y hy => by obtain ⟨_, _, _, q3, q4⟩ := hf.at_ hy; exact ⟨q3, q4⟩) (fun hne => ?_) (fun j y hy => by
      obtain ⟨x', q1, q2, _⟩ := hf.at_ hy
      exact q2 _ _ (hh j x' q1)) trivial
    obtain ⟨b, o, r1, r2, r3⟩ := hA (fun h0 => hne (by have := hf.len; rw [h0] at this; exact List.length_eq_zero_iff.1 this.symm))
    exact ⟨b, o, r1, fun h => r2 (ho h), fun j y hy => by obtain ⟨x', q1, _⟩ := hf.at_ hy; exact r3 j x' q1⟩
theorem ASim.weak : ∀ {g : Gh} {l m : List AV} {vs : List Value}, Wka l m → ASim g l vs → ASim g m vs
  | _, [], [], _, _, h => h
  | _, x :: l, y :: m, _, hw, h => by
    cases h with
    | cons h hr => exact .cons (hw.1 _ _ h) (ASim.weak hw.2 hr)
  | _, [], _ :: _, _, h, _ => h.elim
  | _, _ :: _, [], _, h, _ => h.elim
theorem DoesCall.weak {P : Program} {f : FuncId} {args args' : List AV} {st : AS} {R : AOut → AS → Prop} (h : DoesCall P f args' st R) (hw : Wka args args') : DoesCall P f args st R := fun g w vs hi ha => h g w vs hi (ha.weak hw)
theorem Gives.weak {P : Program} {f : FuncId} {args args' : List AV} {v : AV} (h : Gives P f args' v) (hw : Wka args args') : Gives P f args v := fun st => (h st).weak hw
end Go.Proofs.YtddmhilamoghcaaDoor
