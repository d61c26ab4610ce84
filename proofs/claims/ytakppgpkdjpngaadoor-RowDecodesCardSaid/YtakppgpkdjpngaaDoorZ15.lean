/- Merged: AvmJ, AvmW. -/
import Derived.Test.YtakppgpkdjpngaaDoorZ14
/- A box of the caller's that is written: a reader's. No program. -/
set_option linter.unusedVariables false
set_option linter.unusedSimpArgs false
namespace Go.Proofs.YtakppgpkdjpngaaDoor
open Go.RowKit
section
variable {α : Type} {B m : List α} {id k : Nat} {x y : α}
theorem bset_app (h : id < B.length) : (B ++ m).set id x = B.set id x ++ m := List.set_append_left _ _ h
theorem bget_app (h : id < B.length) : (B.set id x ++ m)[id]? = some x := by
  rw [List.getElem?_append_left (by simpa using h), List.getElem?_set_self h]
theorem bget (h : id < B.length) : (B.set id x)[id]? = some x := List.getElem?_set_self h
theorem bown : (B.set id x ++ m)[B.length + k]? = m[k]? := by rw [List.getElem?_append_right (by simp)]; simp
theorem bown0 : (B.set id x ++ m)[B.length]? = m[0]? := by rw [List.getElem?_append_right (by simp)]; simp
theorem bsown : (B.set id x ++ m).set (B.length + k) y = B.set id x ++ m.set k y := by rw [List.set_append_right _ _ (by simp)]; simp
theorem bsown0 : (B.set id x ++ m).set B.length y = B.set id x ++ m.set 0 y := by rw [List.set_append_right _ _ (by simp)]; simp
theorem bset_app2 (h : id < B.length) : (B.set id x ++ m).set id y = B.set id y ++ m := by rw [bset_app (by simpa using h), List.set_set]
end
section
variable {st : AS} {id : Nat} {c' : List AV} {m : List (List AV)} {K k : List (Nat × Nat × Nat)} {R : AOut → AS → Prop}
theorem boxes_set (hc : ∀ x ∈ c', InB st.bx.length st.ln.length x) : BoxesOk st ⟨st.bx.set id c' ++ m, K⟩ := by
  intro i cs hi hcs
  simp only at hcs
  rw [List.getElem?_append_left (by simpa using hi), List.getElem?_set] at hcs
  split at hcs
  · split at hcs
    · obtain rfl := Option.some.inj hcs
      exact .inr hc
    · cases hcs
  · exact .inl hcs
theorem cut_set : AS.cut ⟨st.bx.set id c' ++ m, st.ln ++ k⟩ st.bx.length st.ln.length = ⟨st.bx.set id c', st.ln⟩ := by
  unfold AS.cut
  rw [List.take_left, show st.bx.length = (st.bx.set id c').length by simp, List.take_left]
/-- The end of a function that has written a box of its caller's. -/
theorem end_rd {v r : AV} (hc : ∀ x ∈ c', InB st.bx.length st.ln.length x) (hv : v.forget = r) (hb : InB st.bx.length st.ln.length r) (hR : R (.ret r) ⟨st.bx.set id c', st.ln⟩) : RetForm st v ⟨st.bx.set id c' ++ m, st.ln ++ k⟩ R := by
  subst hv
  exact .forget hb (boxes_set hc) (by rw [cut_set]; exact hR)
theorem end_rd1 {v r : AV} (hc : ∀ x ∈ c', InB st.bx.length st.ln.length x) (hv : v.forget = r) (hb : InB st.bx.length st.ln.length r) (hR : R (.ret r) ⟨st.bx.set id c', st.ln⟩) : RetForm st v ⟨st.bx.set id c' ++ m, st.ln⟩ R := by
  have := end_rd (m := m) (k := []) hc hv hb hR
  simpa using this
theorem end_rd0 {v r : AV} (hc : ∀ x ∈ c', InB st.bx.length st.ln.length x) (hv : v.forget = r) (hb : InB st.bx.length st.ln.length r) (hR : R (.ret r) ⟨st.bx.set id c', st.ln⟩) : RetForm st v ⟨st.bx.set id c', st.ln⟩ R := by
  have := end_rd (m := []) (k := []) hc hv hb hR
  simpa using this
theorem pan_rd {v : AV} (hc : ∀ x ∈ c', InB st.bx.length st.ln.length x) (hb : InB st.bx.length st.ln.length v) (hR : R (.panic v) ⟨st.bx.set id c', st.ln⟩) :
    InB st.bx.length st.ln.length v ∧ BoxesOk st ⟨st.bx.set id c' ++ m, st.ln ++ k⟩ ∧ R (.panic v) (AS.cut ⟨st.bx.set id c' ++ m, st.ln ++ k⟩ st.bx.length st.ln.length) :=
  ⟨hb, boxes_set hc, by rw [cut_set]; exact hR⟩
theorem pan_rd1 {v : AV} (hc : ∀ x ∈ c', InB st.bx.length st.ln.length x) (hb : InB st.bx.length st.ln.length v) (hR : R (.panic v) ⟨st.bx.set id c', st.ln⟩) :
    InB st.bx.length st.ln.length v ∧ BoxesOk st ⟨st.bx.set id c' ++ m, st.ln⟩ ∧ R (.panic v) (AS.cut ⟨st.bx.set id c' ++ m, st.ln⟩ st.bx.length st.ln.length) := by
  have := pan_rd (m := m) (k := []) hc hb hR
  simpa using this
theorem pan_rd0 {v : AV} (hc : ∀ x ∈ c', InB st.bx.length st.ln.length x) (hb : InB st.bx.length st.ln.length v) (hR : R (.panic v) ⟨st.bx.set id c', st.ln⟩) :
    InB st.bx.length st.ln.length v ∧ BoxesOk st ⟨st.bx.set id c', st.ln⟩ ∧ R (.panic v) (AS.cut ⟨st.bx.set id c', st.ln⟩ st.bx.length st.ln.length) := by
  have := pan_rd (m := []) (k := []) hc hb hR
  simpa using this
end
/-- What a call answers may be told less exactly. -/
def WkR (R : AOut → AS → Prop) : AOut → AS → Prop := fun o st' => (∃ v, o = .panic v ∧ R o st') ∨ ∃ v v', o = .ret v ∧ Wk v v' ∧ R (.ret v') st'
theorem wkr_ret {R : AOut → AS → Prop} {v v' : AV} {st : AS} (h : Wk v v') (hR : R (.ret v') st) : WkR R (.ret v) st := .inr ⟨v, v', rfl, h, hR⟩
theorem wkr_pan {R : AOut → AS → Prop} {v : AV} {st : AS} (hR : R (.panic v) st) : WkR R (.panic v) st := .inl ⟨v, rfl, hR⟩
theorem DoesCall.weakR {P : Program} {f : FuncId} {args : List AV} {st : AS} {R : AOut → AS → Prop}
    (h : DoesCall P f args st (WkR R)) : DoesCall P f args st R :=
  fun g w vs hi ha => (h g w vs hi ha).mono fun e w' ⟨g', o, st', h1, h2, h3, h4⟩ => by
    rcases h4 with ⟨v, rfl, h4⟩ | ⟨v, v', rfl, h4, h5⟩
    · exact ⟨g', _, st', h1, h2, h3, h4⟩
    · cases h3 with
      | ret _ x hx => exact ⟨g', .ret v', st', h1, h2, .ret _ _ (h4 _ _ hx), h5⟩
def retCT (st st' : AS) (R : AOut → AS → Prop) (ws : List AV) : AV → Prop := fun v => RetForm st (.tup (v :: ws)) st' R
theorem retCT_app {st st' : AS} {R : AOut → AS → Prop} {ws : List AV} {v : AV} : retCT st st' R ws v = RetForm st (.tup (v :: ws)) st' R := no_rfl rfl
theorem endsCT {P : Program} {st st' : AS} {R : AOut → AS → Prop} {fr : AFr} {a u : Tmp} {t : TypeId} : Ends P [.cell a t, .tmp u] st R fr st' = aload (tyOf P t) (look fr.l a) st' (retCT st st' R [look fr.l u]) := no_rfl rfl
theorem endsCTT {P : Program} {st st' : AS} {R : AOut → AS → Prop} {fr : AFr} {a u v : Tmp} {t : TypeId} : Ends P [.cell a t, .tmp u, .tmp v] st R fr st' = aload (tyOf P t) (look fr.l a) st' (retCT st st' R [look fr.l u, look fr.l v]) := no_rfl rfl
theorem panic_ifc {t : TypeId} {v : AV} {st : AS} {X : AV → AS → Prop} : apanic (.ifc t v) st X = X (.ifc t v) st := no_rfl rfl
/-- It answers what says at least v. -/
def GW (st : AS) (v : AV) : AOut → AS → Prop := fun o st' => ∃ v', o = .ret v' ∧ Wk v' v ∧ st' = st
theorem Gives.of_GW {P : Program} {f : FuncId} {args : List AV} {v : AV} (h : ∀ st, DoesCall P f args st (GW st v)) : Gives P f args v :=
  fun st => .weakR ((h st).mono fun o st' ⟨v', h1, h2, h3⟩ => .inr ⟨v', v, h1, h2, rfl, h3⟩)
theorem end_w {st : AS} {u v : AV} {l : List (List AV)} {k : List (Nat × Nat × Nat)} (hb : InB st.bx.length st.ln.length u.forget) (hw : Wk u.forget v) : RetForm st u ⟨st.bx ++ l, st.ln ++ k⟩ (GW st v) :=
  .forget hb .app ⟨_, rfl, hw, cut_app⟩
theorem end_w1 {st : AS} {u v : AV} {l : List (List AV)} (hb : InB st.bx.length st.ln.length u.forget) (hw : Wk u.forget v) : RetForm st u ⟨st.bx ++ l, st.ln⟩ (GW st v) :=
  .forget hb .app ⟨_, rfl, hw, cut_app1⟩
theorem Wk.tup3 {a a' b c : AV} (h : Wk a a') : Wk (.tup [a, b, c]) (.tup [a', b, c]) := by
  intro g x hx
  cases hx with
  | tup l y hs hh =>
    refine .tup _ y hs fun i z hz => ?_
    match i, hz with
    | 0, hz => obtain rfl := Option.some.inj hz; exact h _ _ (hh 0 _ rfl)
    | 1, hz => obtain rfl := Option.some.inj hz; exact hh 1 _ rfl
    | 2, hz => obtain rfl := Option.some.inj hz; exact hh 2 _ rfl
theorem Wk.tup2 {a a' b : AV} (h : Wk a a') : Wk (.tup [a, b]) (.tup [a', b]) := by
  intro g x hx
  cases hx with
  | tup l y hs hh =>
    refine .tup _ y hs fun i z hz => ?_
    match i, hz with
    | 0, hz => obtain rfl := Option.some.inj hz; exact h _ _ (hh 0 _ rfl)
    | 1, hz => obtain rfl := Option.some.inj hz; exact hh 1 _ rfl
/-- A reader's two cells. -/
def rdr (o : Bool) (l : List UInt8) (p : Nat) : List AV := [.sl o .none (encB l), .s (.int .i64 p)]
theorem rdr_InB {o : Bool} {l : List UInt8} {p n m : Nat} : ∀ x ∈ rdr o l p, InB n m x := by
  intro x hx
  simp only [rdr, List.mem_cons, List.mem_nil_iff, or_false] at hx
  rcases hx with rfl | rfl
  · exact InB_none.2 trivial
  · exact .s _
/-- What is read, and the place behind it; or why nothing. -/
inductive Rd (α : Type) where
  | ok (a : α) (p : Nat)
  | no (e : Int)
/-- A reader's method: it reads r, or panics with the error. -/
def RdCall {α : Type} (P : Program) (T : TypeId) (f : FuncId) (args : List AV) (l : List UInt8) (p : Nat) (r : Rd α) (enc : α → AV) : Prop :=
  ∀ (st : AS) (id : Nat) (o : Bool) (R : AOut → AS → Prop), st.bx[id]? = some (rdr o l p) → (∀ a q, r = .ok a q → R (.ret (enc a)) ⟨st.bx.set id (rdr o l q), st.ln⟩) →
    (∀ e q, r = .no e → R (.panic (.ifc T (.agg [.s (.int .i64 e)]))) ⟨st.bx.set id (rdr o l q), st.ln⟩) → DoesCall P f (.bp id 0 :: args) st R
theorem wrong_InB {n m : Nat} {T : TypeId} {e : Int} : InB n m (.ifc T (.agg [.s (.int .i64 e)])) := by simp [InB_ifc, InB_agg, InB_s]
/-! ### Every order, where an operation in between turns the store -/
def ordS (P : Program) (ops : Array Oper) (X : AV → AS → Prop) (N : AFr → AS → Prop) (S : AS → Prop) : List (Bool × Bool) → List Oper → AFr → AS → Prop
  | [], [], fr, st => N fr st
  | (true, _) :: fl, o :: os, fr, st => S st ∧ awant (wantB ops fr o) (∃ v, (∀ s, S s → afree P fr.eval o.op o.type s (fun u => u = v)) ∧ ordS P ops X N S fl os (fr.put o.dst v) st) (ordS P ops X N S fl os (fr.put o.dst .und) st)
  | (false, late) :: fl, o :: os, fr, st => awant (wantB ops fr o) (aexec P fr.eval o.op o.type st (fun v st' => (late = false → S st') ∧ ordS P ops X N S fl os (fr.put o.dst v) st') X) ((late = false → S st) ∧ ordS P ops X N S fl os (fr.put o.dst .und) st)
  | _, _, _, _ => False
theorem ordS_ord {P : Program} {l : List Oper} {X : AV → AS → Prop} {N : AFr → AS → Prop} {S : AS → Prop} (all : List Nat) : ∀ (fl : List (Bool × Bool)) (os : List Oper) (k : Nat) (fr : AFr) (st : AS), (∀ j, os[j]? = l[k + j]?) → (∀ i, k ≤ i → (i ∈ all ↔ i ∈ lates k fl)) →
    ordS P l.toArray X N S fl os fr st → aord P l.toArray X N S all (orders k fl) fr st
  | [], [], k, fr, st, _, _, h => h
  | (true, lt) :: fl, o :: os, k, fr, st, hl, ha, h => by
    obtain ⟨h1, h2⟩ := h
    have ho : l.toArray[k]? = some o := by have := hl 0; simpa using this.symm
    have hl' : ∀ j, os[j]? = l[k + 1 + j]? := fun j => by have := hl (j + 1); simpa [Nat.add_assoc, Nat.add_comm 1 j] using this
    have ha' : ∀ i, k + 1 ≤ i → (i ∈ all ↔ i ∈ lates (k + 1) fl) := fun i hi => by
      have := ha i (by omega)
      rw [this]
      cases lt with
      | true => simp only [lates, List.mem_cons]; constructor
                · rintro (h | h)
                  · omega
                  · exact h
                · exact .inr
      | false => rfl
    refine ⟨h1, o, ?_⟩
    unfold awant at h2
    split at h2
    · rename_i t ht
      cases t with
      | true =>
        obtain ⟨v, k1, k2⟩ := h2.1 rfl
        refine ⟨v, ho, .inl ⟨ht, fun s J X' hs hj => ?_⟩, ordS_ord all fl os (k + 1) _ _ hl' ha' k2⟩
        obtain ⟨u, q1, q2⟩ := afree_yields (k1 s hs)
        subst q1
        exact q2 J X' hj
      | false => exact ⟨.und, ho, .inr ⟨ht, rfl⟩, ordS_ord all fl os (k + 1) _ _ hl' ha' (h2.2 rfl)⟩
    · exact h2.elim
  | (false, lt) :: fl, o :: os, k, fr, st, hl, ha, h => by
    have ho : l.toArray[k]? = some o := by have := hl 0; simpa using this.symm
    have hl' : ∀ j, os[j]? = l[k + 1 + j]? := fun j => by have := hl (j + 1); simpa [Nat.add_assoc, Nat.add_comm 1 j] using this
    have ha' : ∀ i, k + 1 ≤ i → (i ∈ all ↔ i ∈ lates (k + 1) fl) := fun i hi => by
      have := ha i (by omega)
      rw [this]
      cases lt with
      | true => simp only [lates, List.mem_cons]; constructor
                · rintro (h | h)
                  · omega
                  · exact h
                · exact .inr
      | false => rfl
    have hlate : k ∉ all → lt = false := fun hk => by
      cases lt with
      | true => exact absurd ((ha k (Nat.le_refl _)).2 (by simp [lates])) hk
      | false => rfl
    have go : ∀ fr' st', ((lt = false → S st') ∧ ordS P l.toArray X N S fl os fr' st') → (k ∉ all → S st') ∧ ((k ∉ all → S st') → aord P l.toArray X N S all (orders (k + 1) fl) fr' st') := fun fr' st' ⟨q1, q2⟩ =>
      ⟨fun hk => q1 (hlate hk), fun _ => ordS_ord all fl os (k + 1) fr' st' hl' ha' q2⟩
    unfold ordS at h
    show aopX P l.toArray X k _ fr st
    unfold aopX
    simp only [ho]
    unfold awant at h ⊢
    split at h
    · exact ⟨fun e => aexec_mono (fun v s hv => go _ _ hv) (fun _ _ h => h) (h.1 e), fun e => go _ _ (h.2 e)⟩
    · exact h.elim
  | [], _ :: _, k, fr, st, _, _, h => by simp [ordS] at h
  | (true, _) :: _, [], k, fr, st, _, _, h => by simp [ordS] at h
  | (false, _) :: _, [], k, fr, st, _, _, h => by simp [ordS] at h
theorem drawS {P : Program} {l : List Oper} {X : AV → AS → Prop} {N : AFr → AS → Prop} {fr : AFr} {st : AS} (S : AS → Prop) (fl : List (Bool × Bool)) (hm : P.follows .mixedOrders = true)
    (hB : (Region.noSelect l.toArray && (orders 0 fl).length == l.toArray.size && ordC .any l.toArray (lates 0 fl) (orders 0 fl) (Array.replicate l.toArray.size false)) = true)
    (h : ordS P l.toArray X N S fl l fr st) : ADraw P l.toArray X N fr st :=
  ADraw.of_ord (S := S) (lates 0 fl) (orders 0 fl) hm hB (ordS_ord (lates 0 fl) fl l 0 fr st (fun j => by simp) (fun i _ => .rfl) h)
section
variable {P : Program} {ops : Array Oper} {X : AV → AS → Prop} {N : AFr → AS → Prop} {S : AS → Prop} {st : AS} {fr : AFr} {ty : TypeId}
def ordSK (P : Program) (ops : Array Oper) (X : AV → AS → Prop) (N : AFr → AS → Prop) (S : AS → Prop) (late : Bool) (fl : List (Bool × Bool)) (os : List Oper) (fr : AFr) (dst : Option Tmp) : AV → AS → Prop := fun v st => (late = false → S st) ∧ ordS P ops X N S fl os (fr.put dst v) st
theorem ordSK_not {fl : List (Bool × Bool)} {os : List Oper} {dst : Option Tmp} {v : AV} : ordSK P ops X N S false fl os fr dst v st = (S st ∧ ordS P ops X N S fl os (fr.put dst v) st) := by simp [ordSK]
theorem ordSK_late {fl : List (Bool × Bool)} {os : List Oper} {dst : Option Tmp} {v : AV} : ordSK P ops X N S true fl os fr dst v st = ordS P ops X N S fl os (fr.put dst v) st := by simp [ordSK]
theorem ordS_nil : ordS P ops X N S [] [] fr st = N fr st := no_rfl rfl
theorem ordS_solo {b : Bool} {fl : List (Bool × Bool)} {dst : Option Tmp} {op : Op} {pos : String} {after : Array Edge} {os : List Oper} : ordS P ops X N S ((false, b) :: fl) (⟨dst, op, ty, pos, after, none⟩ :: os) fr st =
    aexec P fr.eval op ty st (ordSK P ops X N S b fl os fr dst) X :=
  propext ⟨fun h => h.1 rfl, fun h => ⟨fun _ => h, fun e => by cases e⟩⟩
theorem ordS_free {b : Bool} {fl : List (Bool × Bool)} {dst : Option Tmp} {op : Op} {pos : String} {after : Array Edge} {os : List Oper} (v : AV) (hS : S st) (h : ∀ s, S s → afree P fr.eval op ty s (fun u => u = v)) (k : ordS P ops X N S fl os (fr.put dst v) st) :
    ordS P ops X N S ((true, b) :: fl) (⟨dst, op, ty, pos, after, none⟩ :: os) fr st := ⟨hS, fun _ => ⟨v, h, k⟩, fun e => by cases e⟩
end
/-- The store, but for where a reader stands. -/
def AtSome (B : List (List AV)) (id : Nat) (o : Bool) (l : List UInt8) (m : List (List AV)) (ln : List (Nat × Nat × Nat)) : AS → Prop := fun s => ∃ q, s = ⟨B.set id (rdr o l q) ++ m, ln⟩
/-! ### Rounds -/
theorem cut_len {st : AS} {n m : Nat} (h1 : st.bx.length = n) (h2 : st.ln.length = m) : st.cut n m = st := by
  subst h1 h2
  exact cut_same
theorem cut_to2 {B l' m : List (List AV)} {K' : List (Nat × Nat × Nat)} {n k : Nat} (h1 : (B ++ l').length = n) (h2 : K'.length = k) : AS.cut ⟨B ++ (l' ++ m), K'⟩ n k = ⟨B ++ l', K'⟩ := by
  subst h1 h2
  unfold AS.cut
  rw [List.take_length, ← List.append_assoc, List.take_left]
theorem boxes_as0 {S l l' : List (List AV)} {K K' : List (Nat × Nat × Nat)} (hl : l'.length = l.length) (h : ∀ (i : Nat) c, l'[i]? = some c → l[i]? = some c ∨ ∀ x ∈ c, InB (S ++ l).length K.length x) : BoxesOk ⟨S ++ l, K⟩ ⟨S ++ l', K'⟩ := by
  have := boxes_as (m := []) (K' := K') hl h
  rwa [List.append_nil] at this
theorem boxes_rd {B l l' m : List (List AV)} {x x' : List AV} {id : Nat} {K K' : List (Nat × Nat × Nat)} (hl : l'.length = l.length) (hx : ∀ c ∈ x', InB (B.set id x ++ l).length K.length c)
    (h : ∀ (i : Nat) c, l'[i]? = some c → l[i]? = some c ∨ ∀ y ∈ c, InB (B.set id x ++ l).length K.length y) : BoxesOk ⟨B.set id x ++ l, K⟩ ⟨B.set id x' ++ (l' ++ m), K'⟩ := by
  intro i cs hi hc
  simp only at hi hc ⊢
  rcases Nat.lt_or_ge i B.length with hlt | hge
  · rw [List.getElem?_append_left (by simpa using hlt), List.getElem?_set] at hc
    rw [List.getElem?_append_left (by simpa using hlt), List.getElem?_set]
    split at hc
    · rename_i he
      rw [if_pos (he ▸ hlt)] at hc
      obtain rfl := Option.some.inj hc
      exact .inr hx
    · rename_i he
      rw [if_neg he]
      exact .inl hc
  · rw [List.getElem?_append_right (by simpa using hge)] at hc
    rw [List.getElem?_append_right (by simpa using hge)]
    simp only [List.length_set] at hc hi ⊢
    have hil : i - B.length < l'.length := by simp at hi; omega
    rw [List.getElem?_append_left hil] at hc
    exact h _ _ hc
theorem boxes_rd0 {B l l' : List (List AV)} {x x' : List AV} {id : Nat} {K K' : List (Nat × Nat × Nat)} (hl : l'.length = l.length) (hx : ∀ c ∈ x', InB (B.set id x ++ l).length K.length c)
    (h : ∀ (i : Nat) c, l'[i]? = some c → l[i]? = some c ∨ ∀ y ∈ c, InB (B.set id x ++ l).length K.length y) : BoxesOk ⟨B.set id x ++ l, K⟩ ⟨B.set id x' ++ l', K'⟩ := by
  have := boxes_rd (m := []) (K' := K') hl hx h
  rwa [List.append_nil] at this
end Go.Proofs.YtakppgpkdjpngaaDoor
/- A box of the caller that holds a row of bytes that grows: what a writer's method does to it. -/
set_option linter.unusedVariables false
set_option linter.unusedSimpArgs false
namespace Go.Proofs.YtakppgpkdjpngaaDoor
open Go.RowKit
/-- The stores whose boxes are these. -/
def BxIs (B : List (List AV)) : AS → Prop := fun s => s.bx = B
theorem bxIs_self {st : AS} : BxIs st.bx st = True := by simp [BxIs]
theorem bxIs_mk {B : List (List AV)} {L : List (Nat × Nat × Nat)} : BxIs B ⟨B, L⟩ = True := by simp [BxIs]
/-- A writer's one cell. -/
def wrt (m : Nat) (l : List UInt8) : List AV := [.sl true (.lin m) (encB l)]
theorem wrt_InB {m n k : Nat} {l : List UInt8} (h : m < k) : ∀ x ∈ wrt m l, InB n k x := by
  intro x hx
  obtain rfl := List.mem_singleton.1 hx
  exact InB_lin.2 h
/-- A method of a writer: it lays bytes behind those that are there. -/
def WrCall (P : Program) (e : Nat) (f : FuncId) (args : List AV) (out : List UInt8) : Prop :=
  ∀ (st : AS) (id m : Nat) (l : List UInt8) (R : AOut → AS → Prop), st.bx[id]? = some (wrt m l) → st.ln[m]? = some (l.length, e, 1) → l.length + out.length ≤ 140737488355328 →
    R (.ret (.tup [])) ⟨st.bx.set id (wrt m (l ++ out)), st.ln.set m ((l ++ out).length, e, 1)⟩ → DoesCall P f (.bp id 0 :: args) st R
theorem cut_wr {st : AS} {id m : Nat} {c : List AV} {y : Nat × Nat × Nat} {r : List (List AV)} {k : List (Nat × Nat × Nat)} : AS.cut ⟨st.bx.set id c ++ r, st.ln.set m y ++ k⟩ st.bx.length st.ln.length = ⟨st.bx.set id c, st.ln.set m y⟩ := by
  simp only [AS.cut]
  rw [List.take_append_of_le_length (by simp), List.take_append_of_le_length (by simp), List.take_of_length_le (by simp), List.take_of_length_le (by simp)]
theorem boxes_setW {st : AS} {id : Nat} {c : List AV} {r : List (List AV)} {K : List (Nat × Nat × Nat)} (hc : ∀ x ∈ c, InB st.bx.length st.ln.length x) : BoxesOk st ⟨st.bx.set id c ++ r, K⟩ := boxes_set hc
theorem end_wr {st : AS} {id m n : Nat} {l : List UInt8} {e : Nat} {r : List (List AV)} {k : List (Nat × Nat × Nat)} {R : AOut → AS → Prop} (hm : m < st.ln.length) (hR : R (.ret (.tup [])) ⟨st.bx.set id (wrt m l), st.ln.set m (n, e, 1)⟩) :
    RetForm st (.tup []) ⟨st.bx.set id (wrt m l) ++ r, st.ln.set m (n, e, 1) ++ k⟩ R :=
  .forget (by simp [AV.forget, InB_tup]) (boxes_setW (wrt_InB hm)) (by rw [cut_wr]; exact hR)
theorem end_wr1 {st : AS} {id m n : Nat} {l : List UInt8} {e : Nat} {r : List (List AV)} {R : AOut → AS → Prop} (hm : m < st.ln.length) (hR : R (.ret (.tup [])) ⟨st.bx.set id (wrt m l), st.ln.set m (n, e, 1)⟩) :
    RetForm st (.tup []) ⟨st.bx.set id (wrt m l) ++ r, st.ln.set m (n, e, 1)⟩ R := by
  have := end_wr (r := r) (k := []) hm hR
  simpa using this
theorem end_wr0 {st : AS} {id m n : Nat} {l : List UInt8} {e : Nat} {R : AOut → AS → Prop} (hm : m < st.ln.length) (hR : R (.ret (.tup [])) ⟨st.bx.set id (wrt m l), st.ln.set m (n, e, 1)⟩) :
    RetForm st (.tup []) ⟨st.bx.set id (wrt m l), st.ln.set m (n, e, 1)⟩ R := by
  have := end_wr (r := []) (k := []) hm hR
  simpa using this
theorem end_wr2 {st : AS} {id m n : Nat} {l : List UInt8} {e : Nat} {k : List (Nat × Nat × Nat)} {R : AOut → AS → Prop} (hm : m < st.ln.length) (hR : R (.ret (.tup [])) ⟨st.bx.set id (wrt m l), st.ln.set m (n, e, 1)⟩) :
    RetForm st (.tup []) ⟨st.bx.set id (wrt m l), st.ln.set m (n, e, 1) ++ k⟩ R := by
  have := end_wr (r := []) (k := k) hm hR
  simpa using this
end Go.Proofs.YtakppgpkdjpngaaDoor
