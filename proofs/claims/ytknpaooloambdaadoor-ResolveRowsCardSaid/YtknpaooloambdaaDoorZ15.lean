/- Merged: AvmJ, ValPure, TyPure, SchPure, UtfPure, CheckPure. -/
import Derived.Test.YtknpaooloambdaaDoorZ14
import Derived.WalkKit
import Derived.WalkLawsBesides
import Derived.Lib.DecodeNEq
import Derived.Laws.RangeAny
import Derived.Shelf.Unicode.DecodeAny
/- A box of the caller's that is written: a reader's. No program. -/
set_option linter.unusedVariables false
set_option linter.unusedSimpArgs false
namespace Go.Proofs.YtknpaooloambdaaDoor
open Go.RowKit
section
variable {α : Type} {B m : List α} {id k : Nat} {x y : α}
theorem bset_app (h : id < B.length) : (B ++ m).set id x = B.set id x ++ m := List.set_append_left _ _ h
theorem bget_app (h : id < B.length) : (B.set id x ++ m)[id]? = some x := by
  rw [List.getElem?_append_left (by simpa using h), List.getElem?_set_self h]
theorem bget (h : id < B.length) : (B.set id x)[id]? = some x := List.getElem?_set_self h
theorem bown : (B.set id x ++ m)[B.length + k]? = m[k]? := by rw [List.getElem?_append_right (by simp)]; simp
theorem bown0 : (B.set id x ++ m)[B.length]? = m[0]? := by rw [List.getElem?_append_right (by simp)]; simp
theorem bsown : (B.set id x ++ m).set (B.length + k) y = B.set id x ++ m.set k y := by rw [List.set_append_right _ _ (by simp)]; simp
theorem bsown0 : (B.set id x ++ m).set B.length y = B.set id x ++ m.set 0 y := by rw [List.set_append_right _ _ (by simp)]; simp
theorem bset_app2 (h : id < B.length) : (B.set id x ++ m).set id y = B.set id y ++ m := by rw [bset_app (by simpa using h), List.set_set]
end
section
variable {st : AS} {id : Nat} {c' : List AV} {m : List (List AV)} {K k : List (Nat × Nat × Nat)} {R : AOut → AS → Prop}
theorem boxes_set (hc : ∀ x ∈ c', InB st.bx.length st.ln.length x) : BoxesOk st ⟨st.bx.set id c' ++ m, K⟩ := by
  intro i cs hi hcs
  simp only at hcs
  rw [List.getElem?_append_left (by simpa using hi), List.getElem?_set] at hcs
  split at hcs
  · split at hcs
    · obtain rfl := Option.some.inj hcs
      exact .inr hc
    · cases hcs
  · exact .inl hcs
theorem cut_set : AS.cut ⟨st.bx.set id c' ++ m, st.ln ++ k⟩ st.bx.length st.ln.length = ⟨st.bx.set id c', st.ln⟩ := by
  unfold AS.cut
  rw [List.take_left, show st.bx.length = (st.bx.set id c').length by simp, List.take_left]
/-- The end of a function that has written a box of its caller's. -/
theorem end_rd {v r : AV} (hc : ∀ x ∈ c', InB st.bx.length st.ln.length x) (hv : v.forget = r) (hb : InB st.bx.length st.ln.length r) (hR : R (.ret r) ⟨st.bx.set id c', st.ln⟩) : RetForm st v ⟨st.bx.set id c' ++ m, st.ln ++ k⟩ R := by
  subst hv
  exact .forget hb (boxes_set hc) (by rw [cut_set]; exact hR)
theorem end_rd1 {v r : AV} (hc : ∀ x ∈ c', InB st.bx.length st.ln.length x) (hv : v.forget = r) (hb : InB st.bx.length st.ln.length r) (hR : R (.ret r) ⟨st.bx.set id c', st.ln⟩) : RetForm st v ⟨st.bx.set id c' ++ m, st.ln⟩ R := by
  have := end_rd (m := m) (k := []) hc hv hb hR
  simpa using this
theorem end_rd0 {v r : AV} (hc : ∀ x ∈ c', InB st.bx.length st.ln.length x) (hv : v.forget = r) (hb : InB st.bx.length st.ln.length r) (hR : R (.ret r) ⟨st.bx.set id c', st.ln⟩) : RetForm st v ⟨st.bx.set id c', st.ln⟩ R := by
  have := end_rd (m := []) (k := []) hc hv hb hR
  simpa using this
theorem pan_rd {v : AV} (hc : ∀ x ∈ c', InB st.bx.length st.ln.length x) (hb : InB st.bx.length st.ln.length v) (hR : R (.panic v) ⟨st.bx.set id c', st.ln⟩) :
    InB st.bx.length st.ln.length v ∧ BoxesOk st ⟨st.bx.set id c' ++ m, st.ln ++ k⟩ ∧ R (.panic v) (AS.cut ⟨st.bx.set id c' ++ m, st.ln ++ k⟩ st.bx.length st.ln.length) :=
  ⟨hb, boxes_set hc, by rw [cut_set]; exact hR⟩
theorem pan_rd1 {v : AV} (hc : ∀ x ∈ c', InB st.bx.length st.ln.length x) (hb : InB st.bx.length st.ln.length v) (hR : R (.panic v) ⟨st.bx.set id c', st.ln⟩) :
    InB st.bx.length st.ln.length v ∧ BoxesOk st ⟨st.bx.set id c' ++ m, st.ln⟩ ∧ R (.panic v) (AS.cut ⟨st.bx.set id c' ++ m, st.ln⟩ st.bx.length st.ln.length) := by
  have := pan_rd (m := m) (k := []) hc hb hR
  simpa using this
theorem pan_rd0 {v : AV} (hc : ∀ x ∈ c', InB st.bx.length st.ln.length x) (hb : InB st.bx.length st.ln.length v) (hR : R (.panic v) ⟨st.bx.set id c', st.ln⟩) :
    InB st.bx.length st.ln.length v ∧ BoxesOk st ⟨st.bx.set id c', st.ln⟩ ∧ R (.panic v) (AS.cut ⟨st.bx.set id c', st.ln⟩ st.bx.length st.ln.length) := by
  have := pan_rd (m := []) (k := []) hc hb hR
  simpa using this
end
/-- What a call answers may be told less exactly. -/
def WkR (R : AOut → AS → Prop) : AOut → AS → Prop := fun o st' => (∃ v, o = .panic v ∧ R o st') ∨ ∃ v v', o = .ret v ∧ Wk v v' ∧ R (.ret v') st'
theorem wkr_ret {R : AOut → AS → Prop} {v v' : AV} {st : AS} (h : Wk v v') (hR : R (.ret v') st) : WkR R (.ret v) st := .inr ⟨v, v', rfl, h, hR⟩
theorem wkr_pan {R : AOut → AS → Prop} {v : AV} {st : AS} (hR : R (.panic v) st) : WkR R (.panic v) st := .inl ⟨v, rfl, hR⟩
theorem DoesCall.weakR {P : Program} {f : FuncId} {args : List AV} {st : AS} {R : AOut → AS → Prop}
    (h : DoesCall P f args st (WkR R)) : DoesCall P f args st R :=
  fun g w vs hi ha => (h g w vs hi ha).mono fun e w' ⟨g', o, st', h1, h2, h3, h4⟩ => by
    rcases h4 with ⟨v, rfl, h4⟩ | ⟨v, v', rfl, h4, h5⟩
    · exact ⟨g', _, st', h1, h2, h3, h4⟩
    · cases h3 with
      | ret _ x hx => exact ⟨g', .ret v', st', h1, h2, .ret _ _ (h4 _ _ hx), h5⟩
def retCT (st st' : AS) (R : AOut → AS → Prop) (ws : List AV) : AV → Prop := fun v => RetForm st (.tup (v :: ws)) st' R
theorem retCT_app {st st' : AS} {R : AOut → AS → Prop} {ws : List AV} {v : AV} : retCT st st' R ws v = RetForm st (.tup (v :: ws)) st' R := no_rfl rfl
theorem endsCT {P : Program} {st st' : AS} {R : AOut → AS → Prop} {fr : AFr} {a u : Tmp} {t : TypeId} : Ends P [.cell a t, .tmp u] st R fr st' = aload (tyOf P t) (look fr.l a) st' (retCT st st' R [look fr.l u]) := no_rfl rfl
theorem endsCTT {P : Program} {st st' : AS} {R : AOut → AS → Prop} {fr : AFr} {a u v : Tmp} {t : TypeId} : Ends P [.cell a t, .tmp u, .tmp v] st R fr st' = aload (tyOf P t) (look fr.l a) st' (retCT st st' R [look fr.l u, look fr.l v]) := no_rfl rfl
theorem panic_ifc {t : TypeId} {v : AV} {st : AS} {X : AV → AS → Prop} : apanic (.ifc t v) st X = X (.ifc t v) st := no_rfl rfl
/-- It answers what says at least v. -/
def GW (st : AS) (v : AV) : AOut → AS → Prop := fun o st' => ∃ v', o = .ret v' ∧ Wk v' v ∧ st' = st
theorem Gives.of_GW {P : Program} {f : FuncId} {args : List AV} {v : AV} (h : ∀ st, DoesCall P f args st (GW st v)) : Gives P f args v :=
  fun st => .weakR ((h st).mono fun o st' ⟨v', h1, h2, h3⟩ => .inr ⟨v', v, h1, h2, rfl, h3⟩)
theorem end_w {st : AS} {u v : AV} {l : List (List AV)} {k : List (Nat × Nat × Nat)} (hb : InB st.bx.length st.ln.length u.forget) (hw : Wk u.forget v) : RetForm st u ⟨st.bx ++ l, st.ln ++ k⟩ (GW st v) :=
  .forget hb .app ⟨_, rfl, hw, cut_app⟩
theorem end_w1 {st : AS} {u v : AV} {l : List (List AV)} (hb : InB st.bx.length st.ln.length u.forget) (hw : Wk u.forget v) : RetForm st u ⟨st.bx ++ l, st.ln⟩ (GW st v) :=
  .forget hb .app ⟨_, rfl, hw, cut_app1⟩
theorem Wk.tup3 {a a' b c : AV} (h : Wk a a') : Wk (.tup [a, b, c]) (.tup [a', b, c]) := by
  intro g x hx
  cases hx with
  | tup l y hs hh =>
    refine .tup _ y hs fun i z hz => ?_
    match i, hz with
    | 0, hz => obtain rfl := Option.some.inj hz; exact h _ _ (hh 0 _ rfl)
    | 1, hz => obtain rfl := Option.some.inj hz; exact hh 1 _ rfl
    | 2, hz => obtain rfl := Option.some.inj hz; exact hh 2 _ rfl
theorem Wk.tup2 {a a' b : AV} (h : Wk a a') : Wk (.tup [a, b]) (.tup [a', b]) := by
  intro g x hx
  cases hx with
  | tup l y hs hh =>
    refine .tup _ y hs fun i z hz => ?_
    match i, hz with
    | 0, hz => obtain rfl := Option.some.inj hz; exact h _ _ (hh 0 _ rfl)
    | 1, hz => obtain rfl := Option.some.inj hz; exact hh 1 _ rfl
/-- A reader's two cells. -/
def rdr (o : Bool) (l : List UInt8) (p : Nat) : List AV := [.sl o .none (encB l), .s (.int .i64 p)]
theorem rdr_InB {o : Bool} {l : List UInt8} {p n m : Nat} : ∀ x ∈ rdr o l p, InB n m x := by
  intro x hx
  simp only [rdr, List.mem_cons, List.mem_nil_iff, or_false] at hx
  rcases hx with rfl | rfl
  · exact InB_none.2 trivial
  · exact .s _
/-- What is read, and the place behind it; or why nothing. -/
inductive Rd (α : Type) where
  | ok (a : α) (p : Nat)
  | no (e : Int)
/-- A reader's method: it reads r, or panics with the error. -/
def RdCall {α : Type} (P : Program) (T : TypeId) (f : FuncId) (args : List AV) (l : List UInt8) (p : Nat) (r : Rd α) (enc : α → AV) : Prop :=
  ∀ (st : AS) (id : Nat) (o : Bool) (R : AOut → AS → Prop), st.bx[id]? = some (rdr o l p) → (∀ a q, r = .ok a q → R (.ret (enc a)) ⟨st.bx.set id (rdr o l q), st.ln⟩) →
    (∀ e q, r = .no e → R (.panic (.ifc T (.agg [.s (.int .i64 e)]))) ⟨st.bx.set id (rdr o l q), st.ln⟩) → DoesCall P f (.bp id 0 :: args) st R
theorem wrong_InB {n m : Nat} {T : TypeId} {e : Int} : InB n m (.ifc T (.agg [.s (.int .i64 e)])) := by simp [InB_ifc, InB_agg, InB_s]
/-! ### Every order, where an operation in between turns the store -/
def ordS (P : Program) (ops : Array Oper) (X : AV → AS → Prop) (N : AFr → AS → Prop) (S : AS → Prop) : List (Bool × Bool) → List Oper → AFr → AS → Prop
  | [], [], fr, st => N fr st
  | (true, _) :: fl, o :: os, fr, st => S st ∧ awant (wantB ops fr o) (∃ v, (∀ s, S s → afree P fr.eval o.op o.type s (fun u => u = v)) ∧ ordS P ops X N S fl os (fr.put o.dst v) st) (ordS P ops X N S fl os (fr.put o.dst .und) st)
  | (false, late) :: fl, o :: os, fr, st => awant (wantB ops fr o) (aexec P fr.eval o.op o.type st (fun v st' => (late = false → S st') ∧ ordS P ops X N S fl os (fr.put o.dst v) st') X) ((late = false → S st) ∧ ordS P ops X N S fl os (fr.put o.dst .und) st)
  | _, _, _, _ => False
theorem ordS_ord {P : Program} {l : List Oper} {X : AV → AS → Prop} {N : AFr → AS → Prop} {S : AS → Prop} (all : List Nat) : ∀ (fl : List (Bool × Bool)) (os : List Oper) (k : Nat) (fr : AFr) (st : AS), (∀ j, os[j]? = l[k + j]?) → (∀ i, k ≤ i → (i ∈ all ↔ i ∈ lates k fl)) →
    ordS P l.toArray X N S fl os fr st → aord P l.toArray X N S all (orders k fl) fr st
  | [], [], k, fr, st, _, _, h => h
  | (true, lt) :: fl, o :: os, k, fr, st, hl, ha, h => by
    obtain ⟨h1, h2⟩ := h
    have ho : l.toArray[k]? = some o := by have := hl 0; simpa using this.symm
    have hl' : ∀ j, os[j]? = l[k + 1 + j]? := fun j => by have := hl (j + 1); simpa [Nat.add_assoc, Nat.add_comm 1 j] using this
    have ha' : ∀ i, k + 1 ≤ i → (i ∈ all ↔ i ∈ lates (k + 1) fl) := fun i hi => by
      have := ha i (by omega)
      rw [this]
      cases lt with
      | true => simp only [lates, List.mem_cons]; constructor
                · rintro (h | h)
                  · omega
                  · exact h
                · exact .inr
      | false => rfl
    refine ⟨h1, o, ?_⟩
    unfold awant at h2
    split at h2
    · rename_i t ht
      cases t with
      | true =>
        obtain ⟨v, k1, k2⟩ := h2.1 rfl
        refine ⟨v, ho, .inl ⟨ht, fun s J X' hs hj => ?_⟩, ordS_ord all fl os (k + 1) _ _ hl' ha' k2⟩
        obtain ⟨u, q1, q2⟩ := afree_yields (k1 s hs)
        subst q1
        exact q2 J X' hj
      | false => exact ⟨.und, ho, .inr ⟨ht, rfl⟩, ordS_ord all fl os (k + 1) _ _ hl' ha' (h2.2 rfl)⟩
    · exact h2.elim
  | (false, lt) :: fl, o :: os, k, fr, st, hl, ha, h => by
    have ho : l.toArray[k]? = some o := by have := hl 0; simpa using this.symm
    have hl' : ∀ j, os[j]? = l[k + 1 + j]? := fun j => by have := hl (j + 1); simpa [Nat.add_assoc, Nat.add_comm 1 j] using this
    have ha' : ∀ i, k + 1 ≤ i → (i ∈ all ↔ i ∈ lates (k + 1) fl) := fun i hi => by
      have := ha i (by omega)
      rw [this]
      cases lt with
      | true => simp only [lates, List.mem_cons]; constructor
                · rintro (h | h)
                  · omega
                  · exact h
                · exact .inr
      | false => rfl
    have hlate : k ∉ all → lt = false := fun hk => by
      cases lt with
      | true => exact absurd ((ha k (Nat.le_refl _)).2 (by simp [lates])) hk
      | false => rfl
    have go : ∀ fr' st', ((lt = false → S st') ∧ ordS P l.toArray X N S fl os fr' st') → (k ∉ all → S st') ∧ ((k ∉ all → S st') → aord P l.toArray X N S all (orders (k + 1) fl) fr' st') := fun fr' st' ⟨q1, q2⟩ =>
      ⟨fun hk => q1 (hlate hk), fun _ => ordS_ord all fl os (k + 1) fr' st' hl' ha' q2⟩
    unfold ordS at h
    show aopX P l.toArray X k _ fr st
    unfold aopX
    simp only [ho]
    unfold awant at h ⊢
    split at h
    · exact ⟨fun e => aexec_mono (fun v s hv => go _ _ hv) (fun _ _ h => h) (h.1 e), fun e => go _ _ (h.2 e)⟩
    · exact h.elim
  | [], _ :: _, k, fr, st, _, _, h => by simp [ordS] at h
  | (true, _) :: _, [], k, fr, st, _, _, h => by simp [ordS] at h
  | (false, _) :: _, [], k, fr, st, _, _, h => by simp [ordS] at h
theorem drawS {P : Program} {l : List Oper} {X : AV → AS → Prop} {N : AFr → AS → Prop} {fr : AFr} {st : AS} (S : AS → Prop) (fl : List (Bool × Bool)) (hm : P.follows .mixedOrders = true)
    (hB : (Region.noSelect l.toArray && (orders 0 fl).length == l.toArray.size && ordC .any l.toArray (lates 0 fl) (orders 0 fl) (Array.replicate l.toArray.size false)) = true)
    (h : ordS P l.toArray X N S fl l fr st) : ADraw P l.toArray X N fr st :=
  ADraw.of_ord (S := S) (lates 0 fl) (orders 0 fl) hm hB (ordS_ord (lates 0 fl) fl l 0 fr st (fun j => by simp) (fun i _ => .rfl) h)
section
variable {P : Program} {ops : Array Oper} {X : AV → AS → Prop} {N : AFr → AS → Prop} {S : AS → Prop} {st : AS} {fr : AFr} {ty : TypeId}
def ordSK (P : Program) (ops : Array Oper) (X : AV → AS → Prop) (N : AFr → AS → Prop) (S : AS → Prop) (late : Bool) (fl : List (Bool × Bool)) (os : List Oper) (fr : AFr) (dst : Option Tmp) : AV → AS → Prop := fun v st => (late = false → S st) ∧ ordS P ops X N S fl os (fr.put dst v) st
theorem ordSK_not {fl : List (Bool × Bool)} {os : List Oper} {dst : Option Tmp} {v : AV} : ordSK P ops X N S false fl os fr dst v st = (S st ∧ ordS P ops X N S fl os (fr.put dst v) st) := by simp [ordSK]
theorem ordSK_late {fl : List (Bool × Bool)} {os : List Oper} {dst : Option Tmp} {v : AV} : ordSK P ops X N S true fl os fr dst v st = ordS P ops X N S fl os (fr.put dst v) st := by simp [ordSK]
theorem ordS_nil : ordS P ops X N S [] [] fr st = N fr st := no_rfl rfl
theorem ordS_solo {b : Bool} {fl : List (Bool × Bool)} {dst : Option Tmp} {op : Op} {pos : String} {after : Array Edge} {os : List Oper} : ordS P ops X N S ((false, b) :: fl) (⟨dst, op, ty, pos, after, none⟩ :: os) fr st =
    aexec P fr.eval op ty st (ordSK P ops X N S b fl os fr dst) X :=
  propext ⟨fun h => h.1 rfl, fun h => ⟨fun _ => h, fun e => by cases e⟩⟩
theorem ordS_free {b : Bool} {fl : List (Bool × Bool)} {dst : Option Tmp} {op : Op} {pos : String} {after : Array Edge} {os : List Oper} (v : AV) (hS : S st) (h : ∀ s, S s → afree P fr.eval op ty s (fun u => u = v)) (k : ordS P ops X N S fl os (fr.put dst v) st) :
    ordS P ops X N S ((true, b) :: fl) (⟨dst, op, ty, pos, after, none⟩ :: os) fr st := ⟨hS, fun _ => ⟨v, h, k⟩, fun e => by cases e⟩
end
/-- The store, but for where a reader stands. -/
def AtSome (B : List (List AV)) (id : Nat) (o : Bool) (l : List UInt8) (m : List (List AV)) (ln : List (Nat × Nat × Nat)) : AS → Prop := fun s => ∃ q, s = ⟨B.set id (rdr o l q) ++ m, ln⟩
/-! ### Rounds -/
theorem cut_len {st : AS} {n m : Nat} (h1 : st.bx.length = n) (h2 : st.ln.length = m) : st.cut n m = st := by
  subst h1 h2
  exact cut_same
theorem cut_to2 {B l' m : List (List AV)} {K' : List (Nat × Nat × Nat)} {n k : Nat} (h1 : (B ++ l').length = n) (h2 : K'.length = k) : AS.cut ⟨B ++ (l' ++ m), K'⟩ n k = ⟨B ++ l', K'⟩ := by
  subst h1 h2
  unfold AS.cut
  rw [List.take_length, ← List.append_assoc, List.take_left]
theorem boxes_as0 {S l l' : List (List AV)} {K K' : List (Nat × Nat × Nat)} (hl : l'.length = l.length) (h : ∀ (i : Nat) c, l'[i]? = some c → l[i]? = some c ∨ ∀ x ∈ c, InB (S ++ l).length K.length x) : BoxesOk ⟨S ++ l, K⟩ ⟨S ++ l', K'⟩ := by
  have := boxes_as (m := []) (K' := K') hl h
  rwa [List.append_nil] at this
theorem boxes_rd {B l l' m : List (List AV)} {x x' : List AV} {id : Nat} {K K' : List (Nat × Nat × Nat)} (hl : l'.length = l.length) (hx : ∀ c ∈ x', InB (B.set id x ++ l).length K.length c)
    (h : ∀ (i : Nat) c, l'[i]? = some c → l[i]? = some c ∨ ∀ y ∈ c, InB (B.set id x ++ l).length K.length y) : BoxesOk ⟨B.set id x ++ l, K⟩ ⟨B.set id x' ++ (l' ++ m), K'⟩ := by
  intro i cs hi hc
  simp only at hi hc ⊢
  rcases Nat.lt_or_ge i B.length with hlt | hge
  · rw [List.getElem?_append_left (by simpa using hlt), List.getElem?_set] at hc
    rw [List.getElem?_append_left (by simpa using hlt), List.getElem?_set]
    split at hc
    · rename_i he
      rw [if_pos (he ▸ hlt)] at hc
      obtain rfl := Option.some.inj hc
      exact .inr hx
    · rename_i he
      rw [if_neg he]
      exact .inl hc
  · rw [List.getElem?_append_right (by simpa using hge)] at hc
    rw [List.getElem?_append_right (by simpa using hge)]
    simp only [List.length_set] at hc hi ⊢
    have hil : i - B.length < l'.length := by simp at hi; omega
    rw [List.getElem?_append_left hil] at hc
    exact h _ _ hc
theorem boxes_rd0 {B l l' : List (List AV)} {x x' : List AV} {id : Nat} {K K' : List (Nat × Nat × Nat)} (hl : l'.length = l.length) (hx : ∀ c ∈ x', InB (B.set id x ++ l).length K.length c)
    (h : ∀ (i : Nat) c, l'[i]? = some c → l[i]? = some c ∨ ∀ y ∈ c, InB (B.set id x ++ l).length K.length y) : BoxesOk ⟨B.set id x ++ l, K⟩ ⟨B.set id x' ++ l', K'⟩ := by
  have := boxes_rd (m := []) (K' := K') hl hx h
  rwa [List.append_nil] at this
end Go.Proofs.YtknpaooloambdaaDoor
/- Values as plain trees: what it is to be one, to be fixed, to be the same; no program. -/
set_option linter.unusedVariables false
namespace Go.Proofs.YtknpaooloambdaaDoor
open Go

/-- A float's bits with the one NaN. -/
def isNan (b : Nat) : Bool := FloatKind.f64.format.order b b != some .eq
def nanB : Nat := 9221120237041090560
def fixB (b : Nat) : Nat := if isNan b then nanB else b
theorem isNan_nan : isNan nanB = true := by decide +kernel
theorem fixB_fixB (b : Nat) : fixB (fixB b) = fixB b := by
  unfold fixB
  by_cases h : isNan b = true
  · simp [h, isNan_nan]
  · simp [h]
theorem fixB_zero : fixB 0 = 0 := by decide +kernel
theorem isNan_fixB (b : Nat) : isNan (fixB b) = isNan b := by
  unfold fixB
  by_cases h : isNan b = true
  · simp [h, isNan_nan]
  · simp [h]

/-- A value: its kind, number, float's bits, text, items. -/
inductive V where
  | mk (kind int : Int) (float : Nat) (text : ByteArray) (items : List V)
def V.kind : V → Int | .mk k _ _ _ _ => k
def V.int : V → Int | .mk _ i _ _ _ => i
def V.float : V → Nat | .mk _ _ f _ _ => f
def V.text : V → ByteArray | .mk _ _ _ t _ => t
def V.items : V → List V | .mk _ _ _ _ l => l
@[simp] theorem V.kind_mk (k i : Int) (f : Nat) (t : ByteArray) (l : List V) : (V.mk k i f t l).kind = k := rfl
@[simp] theorem V.int_mk (k i : Int) (f : Nat) (t : ByteArray) (l : List V) : (V.mk k i f t l).int = i := rfl
@[simp] theorem V.float_mk (k i : Int) (f : Nat) (t : ByteArray) (l : List V) : (V.mk k i f t l).float = f := rfl
@[simp] theorem V.text_mk (k i : Int) (f : Nat) (t : ByteArray) (l : List V) : (V.mk k i f t l).text = t := rfl
@[simp] theorem V.items_mk (k i : Int) (f : Nat) (t : ByteArray) (l : List V) : (V.mk k i f t l).items = l := rfl

/-- Are a value's fields its kind's? -/
def ownP (v : V) : Prop :=
  (v.kind = 1 ∧ (v.int = 0 ∨ v.int = 1) ∧ fixB v.float = 0 ∧ v.text.toList = [] ∧ v.items.length = 0) ∨
  (v.kind = 2 ∧ fixB v.float = 0 ∧ v.text.toList = [] ∧ v.items.length = 0) ∨
  (v.kind = 3 ∧ v.int = 0 ∧ v.text.toList = [] ∧ v.items.length = 0) ∨
  ((v.kind = 4 ∨ v.kind = 5) ∧ v.int = 0 ∧ fixB v.float = 0 ∧ v.items.length = 0) ∨
  (v.kind = 6 ∧ v.int = 0 ∧ fixB v.float = 0 ∧ v.text.toList = [] ∧ v.items.length ≤ 1) ∨
  (v.kind = 7 ∧ v.int = 0 ∧ fixB v.float = 0 ∧ v.text.toList = [])
instance (v : V) : Decidable (ownP v) := by unfold ownP; infer_instance

/-! ### Sizes, for inductions -/
mutual
def V.rank : V → Nat
  | .mk _ _ _ _ l => V.ranks l + 1
def V.ranks : List V → Nat
  | [] => 0
  | x :: l => V.rank x + V.ranks l + 1
end
theorem V.rank_eq (v : V) : v.rank = V.ranks v.items + 1 := by cases v; rfl
theorem V.rank_lt {l : List V} {x : V} (h : x ∈ l) : x.rank < V.ranks l := by
  induction l with
  | nil => cases h
  | cons y l ih =>
    simp only [V.ranks]
    cases List.mem_cons.1 h with
    | inl e => subst e; omega
    | inr e => have := ih e; omega

/-! ### Being the same -/
mutual
def sameV : V → V → Bool
  | .mk k i f t l, .mk k' i' f' t' l' => decide (k = k') && decide (i = i') && decide (fixB f = fixB f') && decide (t = t') && sameL l l'
def sameL : List V → List V → Bool
  | [], [] => true
  | x :: l, y :: m => sameV x y && sameL l m
  | [], _ :: _ => false
  | _ :: _, [] => false
end
theorem sameV_eq (a b : V) : sameV a b = (decide (a.kind = b.kind) && decide (a.int = b.int) && decide (fixB a.float = fixB b.float) && decide (a.text = b.text) && sameL a.items b.items) := by
  cases a; cases b; rw [sameV]; rfl
theorem sameL_length : ∀ (l m : List V), sameL l m = true → l.length = m.length
  | [], [], _ => rfl
  | x :: l, y :: m, h => by
    simp only [sameL, Bool.and_eq_true] at h
    simp [sameL_length l m h.2]
  | [], _ :: _, h => by simp [sameL] at h
  | _ :: _, [], h => by simp [sameL] at h
/-- index by index -/
theorem sameL_of : ∀ (l m : List V), l.length = m.length → (∀ (i : Nat) (x y : V), l[i]? = some x → m[i]? = some y → sameV x y = true) → sameL l m = true
  | [], [], _, _ => rfl
  | x :: l, y :: m, hl, h => by
    simp only [sameL, Bool.and_eq_true]
    exact ⟨h 0 x y rfl rfl, sameL_of l m (by simpa using hl) (fun i a b ha hb => h (i + 1) a b (by simpa using ha) (by simpa using hb))⟩
  | [], _ :: _, hl, _ => by simp at hl
  | _ :: _, [], hl, _ => by simp at hl
theorem sameL_at : ∀ (l m : List V) (i : Nat) (x y : V), sameL l m = true → l[i]? = some x → m[i]? = some y → sameV x y = true
  | [], [], i, x, y, _, hx, _ => by simp at hx
  | a :: l, b :: m, i, x, y, h, hx, hy => by
    simp only [sameL, Bool.and_eq_true] at h
    cases i with
    | zero =>
      simp at hx hy
      subst hx hy
      exact h.1
    | succ i => exact sameL_at l m i x y h.2 (by simpa using hx) (by simpa using hy)
  | [], _ :: _, _, _, _, h, _, _ => by simp [sameL] at h
  | _ :: _, [], _, _, _, h, _, _ => by simp [sameL] at h
end Go.Proofs.YtknpaooloambdaaDoor
/- Types as plain trees: why one may not be, which are the same. No program. -/
set_option linter.unusedVariables false
set_option linter.unusedSimpArgs false
namespace Go.Proofs.YtknpaooloambdaaDoor
open Go
inductive T where
  | mk (kind : Int) (of : List T)
def T.kind : T → Int | .mk k _ => k
def T.of : T → List T | .mk _ l => l
@[simp] theorem T.kind_mk (k : Int) (l : List T) : (T.mk k l).kind = k := rfl
@[simp] theorem T.of_mk (k : Int) (l : List T) : (T.mk k l).of = l := rfl
mutual
def T.rank : T → Nat
  | .mk _ l => T.ranks l + 1
def T.ranks : List T → Nat
  | [] => 0
  | x :: l => T.rank x + T.ranks l + 1
end
theorem T.rank_eq (v : T) : v.rank = T.ranks v.of + 1 := by cases v; rfl
theorem T.rank_lt {l : List T} {x : T} (h : x ∈ l) : x.rank < T.ranks l := by
  induction l with
  | nil => cases h
  | cons y l ih =>
    simp only [T.ranks]
    cases List.mem_cons.1 h with
    | inl e => subst e; omega
    | inr e => have := ih e; omega
def nestK (k : Int) : Bool := k == 6 || k == 7
def badK (k : Int) (n : Nat) : Bool := decide (k < 1) || decide (7 < k) || (nestK k && decide (n ≠ 1)) || (!nestK k && decide (n ≠ 0))
mutual
def chkT : T → Nat → Int
  | .mk k l, d => if 4 < d then 62 else if badK k l.length = true then 60 else chkTs l (d + 1)
def chkTs : List T → Nat → Int
  | [], _ => 0
  | x :: _, d => chkT x d
end
theorem chkT_eq (k : Int) (l : List T) (d : Nat) : chkT (.mk k l) d = if 4 < d then 62 else if badK k l.length = true then 60 else chkTs l (d + 1) := by rw [chkT]
mutual
def sameT : T → T → Bool
  | .mk k l, .mk k' m => decide (k = k') && sameTL l m
def sameTL : List T → List T → Bool
  | [], [] => true
  | x :: l, y :: m => sameT x y && sameTL l m
  | [], _ :: _ => false
  | _ :: _, [] => false
end
theorem sameT_eq (k : Int) (l : List T) (k' : Int) (m : List T) : sameT (.mk k l) (.mk k' m) = (decide (k = k') && sameTL l m) := by rw [sameT]
theorem sameTL_length : ∀ (l m : List T), sameTL l m = true → l.length = m.length
  | [], [], _ => rfl
  | x :: l, y :: m, h => by
    simp only [sameTL, Bool.and_eq_true] at h
    simp [sameTL_length l m h.2]
  | [], _ :: _, h => by simp [sameTL] at h
  | _ :: _, [], h => by simp [sameTL] at h
theorem sameTL_of : ∀ (l m : List T), l.length = m.length → (∀ (i : Nat) (x y : T), l[i]? = some x → m[i]? = some y → sameT x y = true) → sameTL l m = true
  | [], [], _, _ => by simp [sameTL]
  | x :: l, y :: m, hl, h => by
    simp only [sameTL, Bool.and_eq_true]
    exact ⟨h 0 x y rfl rfl, sameTL_of l m (by simpa using hl) (fun i a b ha hb => h (i + 1) a b (by simpa using ha) (by simpa using hb))⟩
  | [], _ :: _, h, _ => by simp at h
  | _ :: _, [], h, _ => by simp at h
theorem sameTL_at : ∀ (l m : List T) (i : Nat) (x y : T), sameTL l m = true → l[i]? = some x → m[i]? = some y → sameT x y = true
  | x :: l, y :: m, i, a, b, h, hx, hy => by
    simp only [sameTL, Bool.and_eq_true] at h
    cases i with
    | zero =>
      obtain rfl : x = a := by simpa using hx
      obtain rfl : y = b := by simpa using hy
      exact h.1
    | succ i => exact sameTL_at l m i a b h.2 (by simpa using hx) (by simpa using hy)
  | [], _, _, _, _, _, hx, _ => by simp at hx
  | _ :: _, [], _, _, _, h, _, _ => by simp [sameTL] at h
mutual
theorem sameT_iff : ∀ a b : T, sameT a b = true ↔ a = b
  | .mk k l, .mk k' m => by simp [sameT, sameTL_iff l m]
theorem sameTL_iff : ∀ l m : List T, sameTL l m = true ↔ l = m
  | [], [] => by simp [sameTL]
  | x :: l, y :: m => by simp [sameTL, sameT_iff x y, sameTL_iff l m]
  | [], _ :: _ => by simp [sameTL]
  | _ :: _, [] => by simp [sameTL]
end
end Go.Proofs.YtknpaooloambdaaDoor
/- Columns and schemas as plain data: which are the same, which column has a name. No program. -/
set_option linter.unusedVariables false
set_option linter.unusedSimpArgs false
namespace Go.Proofs.YtknpaooloambdaaDoor
open Go
structure C where
  name : ByteArray
  ty : T
  has : Bool
  dflt : V
def sameC (x y : C) : Bool := decide (x.name = y.name) && decide (x.has = y.has) && sameT x.ty y.ty && sameV x.dflt y.dflt
def sameCL : List C → List C → Bool
  | [], [] => true
  | x :: l, y :: m => sameC x y && sameCL l m
  | [], _ :: _ => false
  | _ :: _, [] => false
theorem sameCL_length : ∀ (l m : List C), sameCL l m = true → l.length = m.length
  | [], [], _ => rfl
  | x :: l, y :: m, h => by
    simp only [sameCL, Bool.and_eq_true] at h
    simp [sameCL_length l m h.2]
  | [], _ :: _, h => by simp [sameCL] at h
  | _ :: _, [], h => by simp [sameCL] at h
theorem sameCL_of : ∀ (l m : List C), l.length = m.length → (∀ (i : Nat) (x y : C), l[i]? = some x → m[i]? = some y → sameC x y = true) → sameCL l m = true
  | [], [], _, _ => by simp [sameCL]
  | x :: l, y :: m, hl, h => by
    simp only [sameCL, Bool.and_eq_true]
    exact ⟨h 0 x y rfl rfl, sameCL_of l m (by simpa using hl) (fun i a b ha hb => h (i + 1) a b (by simpa using ha) (by simpa using hb))⟩
  | [], _ :: _, h, _ => by simp at h
  | _ :: _, [], h, _ => by simp at h
theorem sameCL_at : ∀ (l m : List C) (i : Nat) (x y : C), sameCL l m = true → l[i]? = some x → m[i]? = some y → sameC x y = true
  | x :: l, y :: m, i, a, b, h, hx, hy => by
    simp only [sameCL, Bool.and_eq_true] at h
    cases i with
    | zero =>
      obtain rfl : x = a := by simpa using hx
      obtain rfl : y = b := by simpa using hy
      exact h.1
    | succ i => exact sameCL_at l m i a b h.2 (by simpa using hx) (by simpa using hy)
  | [], _, _, _, _, _, hx, _ => by simp at hx
  | _ :: _, [], _, _, _, h, _, _ => by simp [sameCL] at h
/-- The number of the first column of a name. -/
def findC (l : List C) (n : ByteArray) : Option Nat := l.findIdx? fun c => decide (c.name = n)
theorem findC_none {l : List C} {n : ByteArray} (h : ∀ (i : Nat) x, l[i]? = some x → x.name ≠ n) : findC l n = none := by
  unfold findC
  rw [List.findIdx?_eq_none_iff]
  intro x hx
  obtain ⟨i, hi⟩ := List.getElem?_of_mem hx
  simpa using h i x hi
theorem findC_some {l : List C} {n : ByteArray} {k : Nat} {x : C} (hx : l[k]? = some x) (hn : x.name = n) (h : ∀ (i : Nat) y, i < k → l[i]? = some y → y.name ≠ n) : findC l n = some k := by
  unfold findC
  rw [List.findIdx?_eq_some_iff_getElem]
  obtain ⟨hlt, he⟩ := List.getElem?_eq_some_iff.1 hx
  refine ⟨hlt, by rw [he]; simpa using hn, fun j hj => ?_⟩
  have := h j l[j] hj (List.getElem?_eq_getElem (by omega))
  simpa using this
end Go.Proofs.YtknpaooloambdaaDoor
/- Right UTF-8: by the model's decoder, and step by step as the document says it. No program. -/
set_option linter.unusedVariables false
set_option linter.unusedSimpArgs false
namespace Go.Proofs.YtknpaooloambdaaDoor

/-- The document's step at a place: m bytes are left, the first are these; how many are read, or 0. -/
def stepN (m b0 b1 b2 b3 : Nat) : Nat :=
  if b0 < 128 then 1
  else if 192 ≤ b0 ∧ b0 < 224 then
    (if 1 < m ∧ (128 ≤ b1 ∧ b1 < 192) then
      (if (b0 - 192) * 64 + (b1 - 128) < 128 then 0 else 2) else 0)
  else if 224 ≤ b0 ∧ b0 < 240 then
    (if 1 < m ∧ (128 ≤ b1 ∧ b1 < 192) then if 2 < m ∧ (128 ≤ b2 ∧ b2 < 192) then
      (if ((b0 - 224) * 64 + (b1 - 128)) * 64 + (b2 - 128) < 2048 ∨ (55296 ≤ ((b0 - 224) * 64 + (b1 - 128)) * 64 + (b2 - 128) ∧ ((b0 - 224) * 64 + (b1 - 128)) * 64 + (b2 - 128) ≤ 57343) then 0 else 3) else 0 else 0)
  else if 240 ≤ b0 ∧ b0 < 248 then
    (if 1 < m ∧ (128 ≤ b1 ∧ b1 < 192) then if 2 < m ∧ (128 ≤ b2 ∧ b2 < 192) then if 3 < m ∧ (128 ≤ b3 ∧ b3 < 192) then
      (if (((b0 - 240) * 64 + (b1 - 128)) * 64 + (b2 - 128)) * 64 + (b3 - 128) < 65536 ∨ 1114111 < (((b0 - 240) * 64 + (b1 - 128)) * 64 + (b2 - 128)) * 64 + (b3 - 128) then 0 else 4) else 0 else 0 else 0)
  else 0

/-- It is what the decoder says. -/
theorem step_decode (m b0 b1 b2 b3 : Nat) (h0 : b0 < 256) (h1 : b1 < 256) (h2 : b2 < 256) (h3 : b3 < 256) :
    stepN m b0 b1 b2 b3 = if (Lib.decodeN m b0 b1 b2 b3).1 = 65533 ∧ (Lib.decodeN m b0 b1 b2 b3).2 = 1 then 0 else (Lib.decodeN m b0 b1 b2 b3).2 := by
  by_cases c1 : b0 < 128
  · simp [stepN, Lib.decodeN, c1]; omega
  by_cases c2 : b0 / 32 = 6
  · by_cases d1 : 1 < m ∧ b1 / 64 = 2
    · have e1 : (b0 - 192) * 64 + (b1 - 128) = b0 % 32 * 64 + b1 % 64 := by omega
      have x1 : 192 ≤ b0 ∧ b0 < 224 := by omega
      have x2 : 1 < m ∧ (128 ≤ b1 ∧ b1 < 192) := by omega
      simp only [stepN, Lib.decodeN, c1, c2, d1, x1, x2, e1, if_true, if_false, and_true, true_and, and_self]
      split <;> split <;> simp_all <;> omega
    · have x1 : 192 ≤ b0 ∧ b0 < 224 := by omega
      have x2 : ¬ (1 < m ∧ (128 ≤ b1 ∧ b1 < 192)) := by omega
      have y1 : ¬ b0 / 16 = 14 := by omega
      have y2 : ¬ b0 / 8 = 30 := by omega
      simp only [stepN, Lib.decodeN, c1, c2, d1, x1, x2, y1, y2, if_true, if_false, and_true, true_and, and_self, false_and]
  by_cases c3 : b0 / 16 = 14
  · have x0 : ¬ (192 ≤ b0 ∧ b0 < 224) := by omega
    have x1 : 224 ≤ b0 ∧ b0 < 240 := by omega
    have y2 : ¬ b0 / 8 = 30 := by omega
    by_cases d1 : 1 < m ∧ b1 / 64 = 2
    · have x2 : 1 < m ∧ (128 ≤ b1 ∧ b1 < 192) := by omega
      by_cases d2 : 2 < m ∧ b2 / 64 = 2
      · have x3 : 2 < m ∧ (128 ≤ b2 ∧ b2 < 192) := by omega
        have e1 : ((b0 - 224) * 64 + (b1 - 128)) * 64 + (b2 - 128) = b0 % 16 * 4096 + b1 % 64 * 64 + b2 % 64 := by omega
        simp only [stepN, Lib.decodeN, c1, c2, c3, d1, d2, x0, x1, x2, x3, e1, if_true, if_false, and_true, true_and, and_self, false_and]
        have : b0 % 16 * 4096 + b1 % 64 * 64 + b2 % 64 ≤ 65535 := by omega
        generalize b0 % 16 * 4096 + b1 % 64 * 64 + b2 % 64 = c at *
        by_cases hA : c < 2048 ∨ (55296 ≤ c ∧ c ≤ 57343)
        · have hB : ¬ (c ≥ 2048 ∧ (c < 55296 ∨ 57344 ≤ c ∧ c ≤ 1114111)) := by omega
          simp only [hA, hB, if_true, if_false, and_self]
        · have hB : c ≥ 2048 ∧ (c < 55296 ∨ 57344 ≤ c ∧ c ≤ 1114111) := by omega
          rw [if_neg hA, if_pos hB]; simp
      · have x3 : ¬ (2 < m ∧ (128 ≤ b2 ∧ b2 < 192)) := by omega
        simp only [stepN, Lib.decodeN, c1, c2, c3, d1, d2, x0, x1, x2, x3, y2, if_true, if_false, and_true, true_and, and_self, false_and, and_false]
    · have x2 : ¬ (1 < m ∧ (128 ≤ b1 ∧ b1 < 192)) := by omega
      simp only [stepN, Lib.decodeN, c1, c2, c3, d1, x0, x1, x2, y2, if_true, if_false, and_true, true_and, and_self, false_and, and_false]
  by_cases c4 : b0 / 8 = 30
  · have x0 : ¬ (192 ≤ b0 ∧ b0 < 224) := by omega
    have x00 : ¬ (224 ≤ b0 ∧ b0 < 240) := by omega
    have x1 : 240 ≤ b0 ∧ b0 < 248 := by omega
    by_cases d1 : 1 < m ∧ b1 / 64 = 2
    · have x2 : 1 < m ∧ (128 ≤ b1 ∧ b1 < 192) := by omega
      by_cases d2 : 2 < m ∧ b2 / 64 = 2
      · have x3 : 2 < m ∧ (128 ≤ b2 ∧ b2 < 192) := by omega
        by_cases d3 : 3 < m ∧ b3 / 64 = 2
        · have x4 : 3 < m ∧ (128 ≤ b3 ∧ b3 < 192) := by omega
          have e1 : (((b0 - 240) * 64 + (b1 - 128)) * 64 + (b2 - 128)) * 64 + (b3 - 128) = b0 % 8 * 262144 + b1 % 64 * 4096 + b2 % 64 * 64 + b3 % 64 := by omega
          simp only [stepN, Lib.decodeN, c1, c2, c3, c4, d1, d2, d3, x0, x00, x1, x2, x3, x4, e1, if_true, if_false, and_true, true_and, and_self, false_and]
          generalize b0 % 8 * 262144 + b1 % 64 * 4096 + b2 % 64 * 64 + b3 % 64 = c at *
          by_cases hA : c < 65536 ∨ 1114111 < c
          · have hB : ¬ (c ≥ 65536 ∧ (c < 55296 ∨ 57344 ≤ c ∧ c ≤ 1114111)) := by omega
            simp only [hA, hB, if_true, if_false, and_self]
          · have hB : c ≥ 65536 ∧ (c < 55296 ∨ 57344 ≤ c ∧ c ≤ 1114111) := by omega
            rw [if_neg hA, if_pos hB]; simp
        · have x4 : ¬ (3 < m ∧ (128 ≤ b3 ∧ b3 < 192)) := by omega
          simp only [stepN, Lib.decodeN, c1, c2, c3, c4, d1, d2, d3, x0, x00, x1, x2, x3, x4, if_true, if_false, and_true, true_and, and_self, false_and, and_false]
      · have x3 : ¬ (2 < m ∧ (128 ≤ b2 ∧ b2 < 192)) := by omega
        simp only [stepN, Lib.decodeN, c1, c2, c3, c4, d1, d2, x0, x00, x1, x2, x3, if_true, if_false, and_true, true_and, and_self, false_and, and_false]
    · have x2 : ¬ (1 < m ∧ (128 ≤ b1 ∧ b1 < 192)) := by omega
      simp only [stepN, Lib.decodeN, c1, c2, c3, c4, d1, x0, x00, x1, x2, if_true, if_false, and_true, true_and, and_self, false_and, and_false]
  have x0 : ¬ (192 ≤ b0 ∧ b0 < 224) := by omega
  have x00 : ¬ (224 ≤ b0 ∧ b0 < 240) := by omega
  have x1 : ¬ (240 ≤ b0 ∧ b0 < 248) := by omega
  simp only [stepN, Lib.decodeN, c1, c2, c3, c4, x0, x00, x1, if_true, if_false, and_true, true_and, and_self, false_and, and_false]

/-- The step at a place of a text. -/
def stepAt (s : ByteArray) (i : Nat) : Nat := stepN (s.size - i) (s.get! i).toNat (s.get! (i + 1)).toNat (s.get! (i + 2)).toNat (s.get! (i + 3)).toNat
theorem stepAt_decode (s : ByteArray) (i : Nat) : stepAt s i = if (Utf8.decode s i).1 = 65533 ∧ (Utf8.decode s i).2 = 1 then 0 else (Utf8.decode s i).2 := by
  rw [Lib.decode_at]
  exact step_decode _ _ _ _ _ (UInt8.toNat_lt _) (UInt8.toNat_lt _) (UInt8.toNat_lt _) (UInt8.toNat_lt _)
theorem step_le (m b0 b1 b2 b3 : Nat) (hm : 0 < m) : stepN m b0 b1 b2 b3 ≤ m := by
  unfold stepN
  repeat' split
  all_goals omega
theorem step_m (m m' b0 b1 b2 b3 : Nat) (hm : m ≤ m') (h : stepN m b0 b1 b2 b3 ≠ 0) : stepN m' b0 b1 b2 b3 = stepN m b0 b1 b2 b3 := by
  have k1 : 1 < m → 1 < m' := fun h => by omega
  have k2 : 2 < m → 2 < m' := fun h => by omega
  have k3 : 3 < m → 3 < m' := fun h => by omega
  revert h
  unfold stepN
  repeat' split
  all_goals first | (intro h; rfl) | (intro h; exact absurd rfl h) | (intro h; exfalso; omega) | skip

/-- Is what stands from place i on right UTF-8? -/
def utfFrom (s : ByteArray) (i : Nat) : Bool := if h : i < s.size then (if h0 : stepAt s i = 0 then false else utfFrom s (i + stepAt s i)) else true
termination_by s.size - i
def utf (s : ByteArray) : Bool := utfFrom s 0
theorem utfFrom_end (s : ByteArray) (i : Nat) (h : ¬ i < s.size) : utfFrom s i = true := by rw [utfFrom]; simp [h]
theorem utfFrom_bad (s : ByteArray) (i : Nat) (h : i < s.size) (h0 : stepAt s i = 0) : utfFrom s i = false := by rw [utfFrom]; simp [h, h0]
theorem utfFrom_on (s : ByteArray) (i : Nat) (h : i < s.size) (h0 : stepAt s i ≠ 0) : utfFrom s i = utfFrom s (i + stepAt s i) := by
  conv => lhs; rw [utfFrom]
  simp [h, h0]
theorem stepAt_le (s : ByteArray) (i : Nat) (h : i < s.size) : i + stepAt s i ≤ s.size := by
  have := step_le (s.size - i) (s.get! i).toNat (s.get! (i + 1)).toNat (s.get! (i + 2)).toNat (s.get! (i + 3)).toNat (by omega)
  unfold stepAt
  omega
end Go.Proofs.YtknpaooloambdaaDoor
/- Why a value may not be. No program. -/
set_option linter.unusedVariables false
set_option linter.unusedSimpArgs false
namespace Go.Proofs.YtknpaooloambdaaDoor

mutual
def chk : V → Nat → Int
  | .mk k i f t l, d => if 4 < d then 62 else if ¬ ownP (.mk k i f t l) then 60 else if 1024 < t.size then 2 else if 256 < l.length then 3 else if k = 4 ∧ utf t = false then 61 else chks l (d + 1)
def chks : List V → Nat → Int
  | [], _ => 0
  | x :: l, d => if chk x d = 0 then chks l d else chk x d
end
theorem chk_eq (k i : Int) (f : Nat) (t : ByteArray) (l : List V) (d : Nat) : chk (.mk k i f t l) d = if 4 < d then 62 else if ¬ ownP (.mk k i f t l) then 60 else if 1024 < t.size then 2 else if 256 < l.length then 3 else if k = 4 ∧ utf t = false then 61 else chks l (d + 1) := by
  rw [chk]
theorem chks_zero : ∀ (l : List V) (d : Nat), (∀ (i : Nat) (x : V), l[i]? = some x → chk x d = 0) → chks l d = 0
  | [], d, h => by rw [chks]
  | x :: l, d, h => by
    rw [chks, if_pos (h 0 x rfl)]
    exact chks_zero l d (fun i y hy => h (i + 1) y (by simpa using hy))
theorem chks_at : ∀ (l : List V) (d k : Nat) (x : V), (∀ (i : Nat) (x : V), i < k → l[i]? = some x → chk x d = 0) → l[k]? = some x → chk x d ≠ 0 → chks l d = chk x d
  | [], d, k, x, _, h, _ => by simp at h
  | y :: l, d, 0, x, _, h, hn => by
    obtain rfl : y = x := by simpa using h
    rw [chks, if_neg hn]
  | y :: l, d, k + 1, x, hz, h, hn => by
    rw [chks, if_pos (hz 0 y (by omega) rfl)]
    exact chks_at l d k x (fun i z hi hz' => hz (i + 1) z (by omega) (by simpa using hz')) (by simpa using h) hn
end Go.Proofs.YtknpaooloambdaaDoor
