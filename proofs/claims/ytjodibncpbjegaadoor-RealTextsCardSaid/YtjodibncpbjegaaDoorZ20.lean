/- Merged: AvmJ, AvmR. -/
import Derived.Test.YtjodibncpbjegaaDoorZ19
import Derived.RangeFuncNested
import Derived.RangeFuncBound
import Derived.RangeFuncCalls
import Derived.RangeFuncLeaves
/- A box of the caller's that is written: a reader's. No program. -/
set_option linter.unusedVariables false
set_option linter.unusedSimpArgs false
namespace Go.Proofs.YtjodibncpbjegaaDoor
open Go.RowKit
section
variable {α : Type} {B m : List α} {id k : Nat} {x y : α}
theorem bset_app (h : id < B.length) : (B ++ m).set id x = B.set id x ++ m := List.set_append_left _ _ h
theorem bget_app (h : id < B.length) : (B.set id x ++ m)[id]? = some x := by
  rw [List.getElem?_append_left (by simpa using h), List.getElem?_set_self h]
theorem bget (h : id < B.length) : (B.set id x)[id]? = some x := List.getElem?_set_self h
theorem bown : (B.set id x ++ m)[B.length + k]? = m[k]? := by rw [List.getElem?_append_right (by simp)]; simp
theorem bown0 : (B.set id x ++ m)[B.length]? = m[0]? := by rw [List.getElem?_append_right (by simp)]; simp
theorem bsown : (B.set id x ++ m).set (B.length + k) y = B.set id x ++ m.set k y := by rw [List.set_append_right _ _ (by simp)]; simp
theorem bsown0 : (B.set id x ++ m).set B.length y = B.set id x ++ m.set 0 y := by rw [List.set_append_right _ _ (by simp)]; simp
theorem bset_app2 (h : id < B.length) : (B.set id x ++ m).set id y = B.set id y ++ m := by rw [bset_app (by simpa using h), List.set_set]
end
section
variable {st : AS} {id : Nat} {c' : List AV} {m : List (List AV)} {K k : List (Nat × Nat × Nat)} {R : AOut → AS → Prop}
theorem boxes_set (hc : ∀ x ∈ c', InB st.bx.length st.ln.length x) : BoxesOk st ⟨st.bx.set id c' ++ m, K⟩ := by
  intro i cs hi hcs
  simp only at hcs
  rw [List.getElem?_append_left (by simpa using hi), List.getElem?_set] at hcs
  split at hcs
  · split at hcs
    · obtain rfl := Option.some.inj hcs
      exact .inr hc
    · cases hcs
  · exact .inl hcs
theorem cut_set : AS.cut ⟨st.bx.set id c' ++ m, st.ln ++ k⟩ st.bx.length st.ln.length = ⟨st.bx.set id c', st.ln⟩ := by
  unfold AS.cut
  rw [List.take_left, show st.bx.length = (st.bx.set id c').length by simp, List.take_left]
/-- The end of a function that has written a box of its caller's. -/
theorem end_rd {v r : AV} (hc : ∀ x ∈ c', InB st.bx.length st.ln.length x) (hv : v.forget = r) (hb : InB st.bx.length st.ln.length r) (hR : R (.ret r) ⟨st.bx.set id c', st.ln⟩) : RetForm st v ⟨st.bx.set id c' ++ m, st.ln ++ k⟩ R := by
  subst hv
  exact .forget hb (boxes_set hc) (by rw [cut_set]; exact hR)
theorem end_rd1 {v r : AV} (hc : ∀ x ∈ c', InB st.bx.length st.ln.length x) (hv : v.forget = r) (hb : InB st.bx.length st.ln.length r) (hR : R (.ret r) ⟨st.bx.set id c', st.ln⟩) : RetForm st v ⟨st.bx.set id c' ++ m, st.ln⟩ R := by
  have := end_rd (m := m) (k := []) hc hv hb hR
  simpa using this
theorem end_rd0 {v r : AV} (hc : ∀ x ∈ c', InB st.bx.length st.ln.length x) (hv : v.forget = r) (hb : InB st.bx.length st.ln.length r) (hR : R (.ret r) ⟨st.bx.set id c', st.ln⟩) : RetForm st v ⟨st.bx.set id c', st.ln⟩ R := by
  have := end_rd (m := []) (k := []) hc hv hb hR
  simpa using this
theorem pan_rd {v : AV} (hc : ∀ x ∈ c', InB st.bx.length st.ln.length x) (hb : InB st.bx.length st.ln.length v) (hR : R (.panic v) ⟨st.bx.set id c', st.ln⟩) :
    InB st.bx.length st.ln.length v ∧ BoxesOk st ⟨st.bx.set id c' ++ m, st.ln ++ k⟩ ∧ R (.panic v) (AS.cut ⟨st.bx.set id c' ++ m, st.ln ++ k⟩ st.bx.length st.ln.length) :=
  ⟨hb, boxes_set hc, by rw [cut_set]; exact hR⟩
theorem pan_rd1 {v : AV} (hc : ∀ x ∈ c', InB st.bx.length st.ln.length x) (hb : InB st.bx.length st.ln.length v) (hR : R (.panic v) ⟨st.bx.set id c', st.ln⟩) :
    InB st.bx.length st.ln.length v ∧ BoxesOk st ⟨st.bx.set id c' ++ m, st.ln⟩ ∧ R (.panic v) (AS.cut ⟨st.bx.set id c' ++ m, st.ln⟩ st.bx.length st.ln.length) := by
  have := pan_rd (m := m) (k := []) hc hb hR
  simpa using this
theorem pan_rd0 {v : AV} (hc : ∀ x ∈ c', InB st.bx.length st.ln.length x) (hb : InB st.bx.length st.ln.length v) (hR : R (.panic v) ⟨st.bx.set id c', st.ln⟩) :
    InB st.bx.length st.ln.length v ∧ BoxesOk st ⟨st.bx.set id c', st.ln⟩ ∧ R (.panic v) (AS.cut ⟨st.bx.set id c', st.ln⟩ st.bx.length st.ln.length) := by
  have := pan_rd (m := []) (k := []) hc hb hR
  simpa using this
end
/-- What a call answers may be told less exactly. -/
def WkR (R : AOut → AS → Prop) : AOut → AS → Prop := fun o st' => (∃ v, o = .panic v ∧ R o st') ∨ ∃ v v', o = .ret v ∧ Wk v v' ∧ R (.ret v') st'
theorem wkr_ret {R : AOut → AS → Prop} {v v' : AV} {st : AS} (h : Wk v v') (hR : R (.ret v') st) : WkR R (.ret v) st := .inr ⟨v, v', rfl, h, hR⟩
theorem wkr_pan {R : AOut → AS → Prop} {v : AV} {st : AS} (hR : R (.panic v) st) : WkR R (.panic v) st := .inl ⟨v, rfl, hR⟩
theorem DoesCall.weakR {P : Program} {f : FuncId} {args : List AV} {st : AS} {R : AOut → AS → Prop}
    (h : DoesCall P f args st (WkR R)) : DoesCall P f args st R :=
  fun g w vs hi ha => (h g w vs hi ha).mono fun e w' ⟨g', o, st', h1, h2, h3, h4⟩ => by
    rcases h4 with ⟨v, rfl, h4⟩ | ⟨v, v', rfl, h4, h5⟩
    · exact ⟨g', _, st', h1, h2, h3, h4⟩
    · cases h3 with
      | ret _ x hx => exact ⟨g', .ret v', st', h1, h2, .ret _ _ (h4 _ _ hx), h5⟩
def retCT (st st' : AS) (R : AOut → AS → Prop) (ws : List AV) : AV → Prop := fun v => RetForm st (.tup (v :: ws)) st' R
theorem retCT_app {st st' : AS} {R : AOut → AS → Prop} {ws : List AV} {v : AV} : retCT st st' R ws v = RetForm st (.tup (v :: ws)) st' R := no_rfl rfl
theorem endsCT {P : Program} {st st' : AS} {R : AOut → AS → Prop} {fr : AFr} {a u : Tmp} {t : TypeId} : Ends P [.cell a t, .tmp u] st R fr st' = aload (tyOf P t) (look fr.l a) st' (retCT st st' R [look fr.l u]) := no_rfl rfl
theorem endsCTT {P : Program} {st st' : AS} {R : AOut → AS → Prop} {fr : AFr} {a u v : Tmp} {t : TypeId} : Ends P [.cell a t, .tmp u, .tmp v] st R fr st' = aload (tyOf P t) (look fr.l a) st' (retCT st st' R [look fr.l u, look fr.l v]) := no_rfl rfl
theorem panic_ifc {t : TypeId} {v : AV} {st : AS} {X : AV → AS → Prop} : apanic (.ifc t v) st X = X (.ifc t v) st := no_rfl rfl
/-- It answers what says at least v. -/
def GW (st : AS) (v : AV) : AOut → AS → Prop := fun o st' => ∃ v', o = .ret v' ∧ Wk v' v ∧ st' = st
theorem Gives.of_GW {P : Program} {f : FuncId} {args : List AV} {v : AV} (h : ∀ st, DoesCall P f args st (GW st v)) : Gives P f args v :=
  fun st => .weakR ((h st).mono fun o st' ⟨v', h1, h2, h3⟩ => .inr ⟨v', v, h1, h2, rfl, h3⟩)
theorem end_w {st : AS} {u v : AV} {l : List (List AV)} {k : List (Nat × Nat × Nat)} (hb : InB st.bx.length st.ln.length u.forget) (hw : Wk u.forget v) : RetForm st u ⟨st.bx ++ l, st.ln ++ k⟩ (GW st v) :=
  .forget hb .app ⟨_, rfl, hw, cut_app⟩
theorem end_w1 {st : AS} {u v : AV} {l : List (List AV)} (hb : InB st.bx.length st.ln.length u.forget) (hw : Wk u.forget v) : RetForm st u ⟨st.bx ++ l, st.ln⟩ (GW st v) :=
  .forget hb .app ⟨_, rfl, hw, cut_app1⟩
theorem Wk.tup3 {a a' b c : AV} (h : Wk a a') : Wk (.tup [a, b, c]) (.tup [a', b, c]) := by
  intro g x hx
  cases hx with
  | tup l y hs hh =>
    refine .tup _ y hs fun i z hz => ?_
    match i, hz with
    | 0, hz => obtain rfl := Option.some.inj hz; exact h _ _ (hh 0 _ rfl)
    | 1, hz => obtain rfl := Option.some.inj hz; exact hh 1 _ rfl
    | 2, hz => obtain rfl := Option.some.inj hz; exact hh 2 _ rfl
theorem Wk.tup2 {a a' b : AV} (h : Wk a a') : Wk (.tup [a, b]) (.tup [a', b]) := by
  intro g x hx
  cases hx with
  | tup l y hs hh =>
    refine .tup _ y hs fun i z hz => ?_
    match i, hz with
    | 0, hz => obtain rfl := Option.some.inj hz; exact h _ _ (hh 0 _ rfl)
    | 1, hz => obtain rfl := Option.some.inj hz; exact hh 1 _ rfl
/-- A reader's two cells. -/
def rdr (o : Bool) (l : List UInt8) (p : Nat) : List AV := [.sl o .none (encB l), .s (.int .i64 p)]
theorem rdr_InB {o : Bool} {l : List UInt8} {p n m : Nat} : ∀ x ∈ rdr o l p, InB n m x := by
  intro x hx
  simp only [rdr, List.mem_cons, List.mem_nil_iff, or_false] at hx
  rcases hx with rfl | rfl
  · exact InB_none.2 trivial
  · exact .s _
/-- What is read, and the place behind it; or why nothing. -/
inductive Rd (α : Type) where
  | ok (a : α) (p : Nat)
  | no (e : Int)
/-- A reader's method: it reads r, or panics with the error. -/
def RdCall {α : Type} (P : Program) (T : TypeId) (f : FuncId) (args : List AV) (l : List UInt8) (p : Nat) (r : Rd α) (enc : α → AV) : Prop :=
  ∀ (st : AS) (id : Nat) (o : Bool) (R : AOut → AS → Prop), st.bx[id]? = some (rdr o l p) → (∀ a q, r = .ok a q → R (.ret (enc a)) ⟨st.bx.set id (rdr o l q), st.ln⟩) →
    (∀ e q, r = .no e → R (.panic (.ifc T (.agg [.s (.int .i64 e)]))) ⟨st.bx.set id (rdr o l q), st.ln⟩) → DoesCall P f (.bp id 0 :: args) st R
theorem wrong_InB {n m : Nat} {T : TypeId} {e : Int} : InB n m (.ifc T (.agg [.s (.int .i64 e)])) := by simp [InB_ifc, InB_agg, InB_s]
/-! ### Every order, where an operation in between turns the store -/
def ordS (P : Program) (ops : Array Oper) (X : AV → AS → Prop) (N : AFr → AS → Prop) (S : AS → Prop) : List (Bool × Bool) → List Oper → AFr → AS → Prop
  | [], [], fr, st => N fr st
  | (true, _) :: fl, o :: os, fr, st => S st ∧ awant (wantB ops fr o) (∃ v, (∀ s, S s → afree P fr.eval o.op o.type s (fun u => u = v)) ∧ ordS P ops X N S fl os (fr.put o.dst v) st) (ordS P ops X N S fl os (fr.put o.dst .und) st)
  | (false, late) :: fl, o :: os, fr, st => awant (wantB ops fr o) (aexec P fr.eval o.op o.type st (fun v st' => (late = false → S st') ∧ ordS P ops X N S fl os (fr.put o.dst v) st') X) ((late = false → S st) ∧ ordS P ops X N S fl os (fr.put o.dst .und) st)
  | _, _, _, _ => False
theorem ordS_ord {P : Program} {l : List Oper} {X : AV → AS → Prop} {N : AFr → AS → Prop} {S : AS → Prop} (all : List Nat) : ∀ (fl : List (Bool × Bool)) (os : List Oper) (k : Nat) (fr : AFr) (st : AS), (∀ j, os[j]? = l[k + j]?) → (∀ i, k ≤ i → (i ∈ all ↔ i ∈ lates k fl)) →
    ordS P l.toArray X N S fl os fr st → aord P l.toArray X N S all (orders k fl) fr st
  | [], [], k, fr, st, _, _, h => h
  | (true, lt) :: fl, o :: os, k, fr, st, hl, ha, h => by
    obtain ⟨h1, h2⟩ := h
    have ho : l.toArray[k]? = some o := by have := hl 0; simpa using this.symm
    have hl' : ∀ j, os[j]? = l[k + 1 + j]? := fun j => by have := hl (j + 1); simpa [Nat.add_assoc, Nat.add_comm 1 j] using this
    have ha' : ∀ i, k + 1 ≤ i → (i ∈ all ↔ i ∈ lates (k + 1) fl) := fun i hi => by
      have := ha i (by omega)
      rw [this]
      cases lt with
      | true => simp only [lates, List.mem_cons]; constructor
                · rintro (h | h)
                  · omega
                  · exact h
                · exact .inr
      | false => rfl
    refine ⟨h1, o, ?_⟩
    unfold awant at h2
    split at h2
    · rename_i t ht
      cases t with
      | true =>
        obtain ⟨v, k1, k2⟩ := h2.1 rfl
        refine ⟨v, ho, .inl ⟨ht, fun s J X' hs hj => ?_⟩, ordS_ord all fl os (k + 1) _ _ hl' ha' k2⟩
        obtain ⟨u, q1, q2⟩ := afree_yields (k1 s hs)
        subst q1
        exact q2 J X' hj
      | false => exact ⟨.und, ho, .inr ⟨ht, rfl⟩, ordS_ord all fl os (k + 1) _ _ hl' ha' (h2.2 rfl)⟩
    · exact h2.elim
  | (false, lt) :: fl, o :: os, k, fr, st, hl, ha, h => by
    have ho : l.toArray[k]? = some o := by have := hl 0; simpa using this.symm
    have hl' : ∀ j, os[j]? = l[k + 1 + j]? := fun j => by have := hl (j + 1); simpa [Nat.add_assoc, Nat.add_comm 1 j] using this
    have ha' : ∀ i, k + 1 ≤ i → (i ∈ all ↔ i ∈ lates (k + 1) fl) := fun i hi => by
      have := ha i (by omega)
      rw [this]
      cases lt with
      | true => simp only [lates, List.mem_cons]; constructor
                · rintro (h | h)
                  · omega
                  · exact h
                · exact .inr
      | false => rfl
    have hlate : k ∉ all → lt = false := fun hk => by
      cases lt with
      | true => exact absurd ((ha k (Nat.le_refl _)).2 (by simp [lates])) hk
      | false => rfl
    have go : ∀ fr' st', ((lt = false → S st') ∧ ordS P l.toArray X N S fl os fr' st') → (k ∉ all → S st') ∧ ((k ∉ all → S st') → aord P l.toArray X N S all (orders (k + 1) fl) fr' st') := fun fr' st' ⟨q1, q2⟩ =>
      ⟨fun hk => q1 (hlate hk), fun _ => ordS_ord all fl os (k + 1) fr' st' hl' ha' q2⟩
    unfold ordS at h
    show aopX P l.toArray X k _ fr st
    unfold aopX
    simp only [ho]
    unfold awant at h ⊢
    split at h
    · exact ⟨fun e => aexec_mono (fun v s hv => go _ _ hv) (fun _ _ h => h) (h.1 e), fun e => go _ _ (h.2 e)⟩
    · exact h.elim
  | [], _ :: _, k, fr, st, _, _, h => by simp [ordS] at h
  | (true, _) :: _, [], k, fr, st, _, _, h => by simp [ordS] at h
  | (false, _) :: _, [], k, fr, st, _, _, h => by simp [ordS] at h
theorem drawS {P : Program} {l : List Oper} {X : AV → AS → Prop} {N : AFr → AS → Prop} {fr : AFr} {st : AS} (S : AS → Prop) (fl : List (Bool × Bool)) (hm : P.follows .mixedOrders = true)
    (hB : (Region.noSelect l.toArray && (orders 0 fl).length == l.toArray.size && ordC .any l.toArray (lates 0 fl) (orders 0 fl) (Array.replicate l.toArray.size false)) = true)
    (h : ordS P l.toArray X N S fl l fr st) : ADraw P l.toArray X N fr st :=
  ADraw.of_ord (S := S) (lates 0 fl) (orders 0 fl) hm hB (ordS_ord (lates 0 fl) fl l 0 fr st (fun j => by simp) (fun i _ => .rfl) h)
section
variable {P : Program} {ops : Array Oper} {X : AV → AS → Prop} {N : AFr → AS → Prop} {S : AS → Prop} {st : AS} {fr : AFr} {ty : TypeId}
def ordSK (P : Program) (ops : Array Oper) (X : AV → AS → Prop) (N : AFr → AS → Prop) (S : AS → Prop) (late : Bool) (fl : List (Bool × Bool)) (os : List Oper) (fr : AFr) (dst : Option Tmp) : AV → AS → Prop := fun v st => (late = false → S st) ∧ ordS P ops X N S fl os (fr.put dst v) st
theorem ordSK_not {fl : List (Bool × Bool)} {os : List Oper} {dst : Option Tmp} {v : AV} : ordSK P ops X N S false fl os fr dst v st = (S st ∧ ordS P ops X N S fl os (fr.put dst v) st) := by simp [ordSK]
theorem ordSK_late {fl : List (Bool × Bool)} {os : List Oper} {dst : Option Tmp} {v : AV} : ordSK P ops X N S true fl os fr dst v st = ordS P ops X N S fl os (fr.put dst v) st := by simp [ordSK]
theorem ordS_nil : ordS P ops X N S [] [] fr st = N fr st := no_rfl rfl
theorem ordS_solo {b : Bool} {fl : List (Bool × Bool)} {dst : Option Tmp} {op : Op} {pos : String} {after : Array Edge} {os : List Oper} : ordS P ops X N S ((false, b) :: fl) (⟨dst, op, ty, pos, after, none⟩ :: os) fr st =
    aexec P fr.eval op ty st (ordSK P ops X N S b fl os fr dst) X :=
  propext ⟨fun h => h.1 rfl, fun h => ⟨fun _ => h, fun e => by cases e⟩⟩
theorem ordS_free {b : Bool} {fl : List (Bool × Bool)} {dst : Option Tmp} {op : Op} {pos : String} {after : Array Edge} {os : List Oper} (v : AV) (hS : S st) (h : ∀ s, S s → afree P fr.eval op ty s (fun u => u = v)) (k : ordS P ops X N S fl os (fr.put dst v) st) :
    ordS P ops X N S ((true, b) :: fl) (⟨dst, op, ty, pos, after, none⟩ :: os) fr st := ⟨hS, fun _ => ⟨v, h, k⟩, fun e => by cases e⟩
end
/-- The store, but for where a reader stands. -/
def AtSome (B : List (List AV)) (id : Nat) (o : Bool) (l : List UInt8) (m : List (List AV)) (ln : List (Nat × Nat × Nat)) : AS → Prop := fun s => ∃ q, s = ⟨B.set id (rdr o l q) ++ m, ln⟩
/-! ### Rounds -/
theorem cut_len {st : AS} {n m : Nat} (h1 : st.bx.length = n) (h2 : st.ln.length = m) : st.cut n m = st := by
  subst h1 h2
  exact cut_same
theorem cut_to2 {B l' m : List (List AV)} {K' : List (Nat × Nat × Nat)} {n k : Nat} (h1 : (B ++ l').length = n) (h2 : K'.length = k) : AS.cut ⟨B ++ (l' ++ m), K'⟩ n k = ⟨B ++ l', K'⟩ := by
  subst h1 h2
  unfold AS.cut
  rw [List.take_length, ← List.append_assoc, List.take_left]
theorem boxes_as0 {S l l' : List (List AV)} {K K' : List (Nat × Nat × Nat)} (hl : l'.length = l.length) (h : ∀ (i : Nat) c, l'[i]? = some c → l[i]? = some c ∨ ∀ x ∈ c, InB (S ++ l).length K.length x) : BoxesOk ⟨S ++ l, K⟩ ⟨S ++ l', K'⟩ := by
  have := boxes_as (m := []) (K' := K') hl h
  rwa [List.append_nil] at this
theorem boxes_rd {B l l' m : List (List AV)} {x x' : List AV} {id : Nat} {K K' : List (Nat × Nat × Nat)} (hl : l'.length = l.length) (hx : ∀ c ∈ x', InB (B.set id x ++ l).length K.length c)
    (h : ∀ (i : Nat) c, l'[i]? = some c → l[i]? = some c ∨ ∀ y ∈ c, InB (B.set id x ++ l).length K.length y) : BoxesOk ⟨B.set id x ++ l, K⟩ ⟨B.set id x' ++ (l' ++ m), K'⟩ := by
  intro i cs hi hc
  simp only at hi hc ⊢
  rcases Nat.lt_or_ge i B.length with hlt | hge
  · rw [List.getElem?_append_left (by simpa using hlt), List.getElem?_set] at hc
    rw [List.getElem?_append_left (by simpa using hlt), List.getElem?_set]
    split at hc
    · rename_i he
      rw [if_pos (he ▸ hlt)] at hc
      obtain rfl := Option.some.inj hc
      exact .inr hx
    · rename_i he
      rw [if_neg he]
      exact .inl hc
  · rw [List.getElem?_append_right (by simpa using hge)] at hc
    rw [List.getElem?_append_right (by simpa using hge)]
    simp only [List.length_set] at hc hi ⊢
    have hil : i - B.length < l'.length := by simp at hi; omega
    rw [List.getElem?_append_left hil] at hc
    exact h _ _ hc
theorem boxes_rd0 {B l l' : List (List AV)} {x x' : List AV} {id : Nat} {K K' : List (Nat × Nat × Nat)} (hl : l'.length = l.length) (hx : ∀ c ∈ x', InB (B.set id x ++ l).length K.length c)
    (h : ∀ (i : Nat) c, l'[i]? = some c → l[i]? = some c ∨ ∀ y ∈ c, InB (B.set id x ++ l).length K.length y) : BoxesOk ⟨B.set id x ++ l, K⟩ ⟨B.set id x' ++ l', K'⟩ := by
  have := boxes_rd (m := []) (K' := K') hl hx h
  rwa [List.append_nil] at this
end Go.Proofs.YtjodibncpbjegaaDoor
/- A range over a function, its body in plain data. No program. -/
set_option linter.unusedVariables false
set_option linter.unusedSimpArgs false
namespace Go.Proofs.YtjodibncpbjegaaDoor
open Go.RowKit

def Gh.root (g : Gh) (r : Root) : Gh := { g with w0 := r }
theorem VSim.root {g : Gh} {r : Root} (hr : r.W = g.w0.W) {v : AV} {x : Value} (hv : VSim g v x) : VSim (g.root r) v x := by
  induction hv with
  | any x => exact .any x
  | s v h1 => exact .s v h1
  | agg l a hs h1 _ ih => exact .agg l a hs h1 ih
  | tup l a hs _ ih => exact .tup l a hs ih
  | bp id off b hb => exact .bp id off b hb
  | rp l b o vs h1 _ ih => exact .rp l b o vs h1 ih
  | sl own tag es A cap sz vs hl hc hsz h1 hA _ htag ih =>
    refine .sl own tag es A cap sz vs hl hc hsz h1 (fun hn => ?_) ih ?_
    · obtain ⟨b, o, e, ho, hK⟩ := hA hn
      exact ⟨b, o, e, fun hb => by show r.W.heap.size ≤ b; rw [hr]; exact ho hb, hK⟩
    · cases tag with
      | none => trivial
      | full => exact htag
      | lin id => exact htag
  | fn f caps ca hs _ ih => exact .fn f caps ca hs ih
  | ifc t v x _ ih => exact .ifc t v x ih
  | mp id b hb => exact .mp id b hb
theorem FSim.root {D : FixD} {g : Gh} {r : Root} (hr : r.W = g.w0.W) {fr : AFr} {a : Act} (h : FSim D g fr a) : FSim D (g.root r) fr a := ⟨h.defers, h.size, fun t => (h.tmps t).root hr, h.keep⟩
theorem Inv.root {g : Gh} {st : AS} {w : World} {r : Root} (h : Inv g st w) (hr : r.W = g.w0.W) (hk : KeptR r w) (hb : ∀ b ∈ g.bx, r.fz b = none) : Inv (g.root r) st w where
  K := h.K
  bxlen := h.bxlen
  bx i b cs h1 h2 := by
    obtain ⟨cur, T, e1, e2, e3⟩ := h.bx i b cs h1 h2
    exact ⟨cur, T, e1, e2, fun j x hx => (e3 j x hx).root hr⟩
  bxK b hb' := ⟨by show r.W.heap.size ≤ b; rw [hr]; exact (h.bxK b hb').1, (h.bxK b hb').2.1, hb b hb'⟩
  bxnd := h.bxnd
  lnlen := h.lnlen
  ln i L hL := by
    obtain ⟨h1, h2⟩ := h.ln i L hL
    refine ⟨h1, ?_⟩
    rcases h2 with h2 | ⟨b, cur, e1, e2, e3, e4⟩
    · exact .inl h2
    · exact .inr ⟨b, cur, e1, by show r.W.heap.size ≤ b; rw [hr]; exact e2, e3, e4⟩
  lnd := h.lnd
  kept := hk
  ok := by show WorldOk r.W; rw [hr]; exact h.ok
  nf b o v hv hb := h.nf b o v hv (by unfold Gh.base; rw [← hr]; exact hb)
/-- What else lies in the world may change. -/
theorem Inv.other {g : Gh} {st : AS} {w w' : World} (h : Inv g st w) {row : Option Nat} (hg : w.grownBy w' row) (hr : ∀ k, row = some k → g.base ≤ k ∧ k ∉ g.bx ∧ g.w0.fz k = none ∧ ∃ o : Obj, w.heap[k]? = some o ∧ o.isCells = false) : Inv g st w' := by
  have hrow : ∀ k, row = some k → ∃ o : Obj, w.heap[k]? = some o ∧ o.isCells = false := fun k e => (hr k e).2.2.2
  have hblk : ∀ b, (∀ k, row = some k → k ≠ b) → b < w.heap.size → w'.heap[b]? = w.heap[b]? := fun b hb hlt => hg.block b hlt (fun e => hb b e.symm rfl)
  refine ⟨fun b o v hv => ⟨cell_kept (h.K b o v hv).1 hg hrow, (h.K b o v hv).2⟩, h.bxlen, fun i b cs h1 h2 => ?_, h.bxK, h.bxnd, h.lnlen, fun i L hL => ?_, h.lnd, ?_, h.ok, fun b o v hv hb => by
    rw [hblk b (fun k e hk => by
      obtain ⟨x, hx, hc⟩ := hrow k e
      have h1 := (h.K b o v hv).1
      unfold World.cell? at h1
      rw [← hk] at h1
      simp only [hx] at h1
      cases x <;> simp [Obj.isCells] at hc h1) (World.block_lt_of_cell? w _ (h.K b o v hv).1)]
    exact h.nf b o v hv hb⟩
  · obtain ⟨cur, T, e1, e2, e3⟩ := h.bx i b cs h1 h2
    refine ⟨cur, T, ?_, e2, e3⟩
    rw [hblk b (fun k e => fun hk => (hr k e).2.1 (hk ▸ List.mem_of_getElem? h1)) e1.lt]
    exact e1
  · obtain ⟨h1, h2⟩ := h.ln i L hL
    refine ⟨h1, ?_⟩
    rcases h2 with h2 | ⟨b, cur, e1, e2, e3, e4, e5⟩
    · exact .inl h2
    · refine .inr ⟨b, cur, e1, e2, e3, ?_, e5⟩
      rw [hblk b (fun k e => fun hk => by
        obtain ⟨o, ho, hc⟩ := (hr k e).2.2.2
        rw [hk, e4] at ho
        obtain rfl := Option.some.inj ho
        cases hc) (Array.getElem?_eq_some_iff.1 e4).1]
      exact e4
  · refine ⟨⟨Below.grown h.kept.1.1 hg h.kept.1.1.size (fun k e => (hr k e).1), Nat.le_trans h.kept.1.2 hg.size⟩, fun b o hb => ?_⟩
    obtain ⟨q1, q2⟩ := h.kept.2 b o hb
    refine ⟨?_, q2⟩
    rw [hblk b (fun k e => fun hk => by
      have := (hr k e).2.2.1
      rw [hk, hb] at this
      cases this) (Array.getElem?_eq_some_iff.1 q1).1]
    exact q1
theorem isC_cells (o : Obj) : isC o = o.isCells := by cases o <;> rfl
/-- The cells that an iterator looks at. -/
def Has (C : Nat → Nat → Option Value) (W : World) : Prop := ∀ b o v, C b o = some v → W.cell? ⟨b, o, none⟩ = some v
def KpC (C : Nat → Nat → Option Value) (A B : World) : Prop := Has C A → Has C B
/-- What a round's body may end in. -/
def bodyK {α : Type} (n m : Nat) (st : AS) (J : List α → AS → Prop) (Jx : Code → List α → AS → Prop) (xs : List α) : Post
  | .normal, _, st' => BoxesOk st st' ∧ J xs (st'.cut n m)
  | .exit id, _, st' => BoxesOk st st' ∧ Jx (.exit id) xs (st'.cut n m)
  | _, _, _ => False
section
variable {α : Type} {n m : Nat} {st st' : AS} {J : List α → AS → Prop} {Jx : Code → List α → AS → Prop} {xs : List α} {fr : AFr}
theorem bodyK_normal : bodyK n m st J Jx xs .normal fr st' = (BoxesOk st st' ∧ J xs (st'.cut n m)) := no_rfl rfl
theorem bodyK_exit {id : Nat} : bodyK n m st J Jx xs (.exit id) fr st' = (BoxesOk st st' ∧ Jx (.exit id) xs (st'.cut n m)) := no_rfl rfl
instance instPF_body : PF (bodyK n m st J Jx xs) := ⟨fun v fr fr' st h => h⟩
end
theorem range_run {P : Program} {α : Type} {g : Operand} {ps : Array Tmp} {assign body : Code} {Q : Exit → Act → World → Prop} {D : FixD} {g3 : Gh} {st3 : AS} {a3 : Act} {w3 : World}
    (hi : Inv g3 st3 w3) {gf : Nat} {lb : Array Value} (hg : a3.eval g = .func (.func gf) #[] lb) (eg : ∀ args w, (callFunc gf args).run P w = .ok (.enter gf args) w)
    {encs : α → Array Value} {C : Nat → Nat → Option Value} {S Sp : List α → Prop} {N : Nat} (hseq : SeqStopsK Fence.wide 1 P gf lb encs (KpC C) S Sp N w3) (hps : ∀ x, (encs x).size = ps.size)
    (J : List α → AS → Prop) (Jx : Code → List α → AS → Prop) (hC : ∀ pre st g' W, J pre st → g3.le g' → Inv g' st W → Has C W)
    (hJ : ∀ pre st, J pre st → st.bx.length = st3.bx.length ∧ st.ln.length = st3.ln.length) (hJx : ∀ c pre st, Jx c pre st → st.bx.length = st3.bx.length ∧ st.ln.length = st3.ln.length) (h0 : J [] st3)
    (a₁ : α → Act) (frx : α → AFr) (hass : ∀ (l : Nat) (x : α) (W : World) (K : Act → World → Prop), K (a₁ x) W →
      assign.wpIn (Fence.wide.inRound l) (2 - 1 - 1) P (Exit.then K (fun _ _ _ => False)) { tmps := (ps.zip (encs x)).foldl (fun t (p, v) => t.setIfInBounds p v) a3.tmps, defers := [] } W)
    (hfa : ∀ x, FSim ⟨[], fun _ => none⟩ g3 (frx x) (a₁ x)) (nd : ndC body = true)
    (hbody : ∀ pre x st, J pre st → pre.length < N → awp P body (bodyK st3.bx.length st3.ln.length st J Jx (pre ++ [x])) (frx x) st)
    (hdone : ∀ (E : Nat) xs st g' W, S xs → J xs st → g3.le g' → Inv g' st W → w3.heap.size ≤ E → W.heap[E]? = some (.deferred (some [])) → Q .normal { a3 with defers := { target := .collected E, args := #[] } :: a3.defers } W)
    (hstop : ∀ (E : Nat) (c : Code) pre st g' W, Sp pre → Jx c pre st → g3.le g' → Inv g' st W → w3.heap.size ≤ E → W.heap[E]? = some (.deferred (some [])) → c.wpIn Fence.wide 2 P Q { a3 with defers := { target := .collected E, args := #[] } :: a3.defers } W) :
    (Code.rangeFunc g ps assign body).wpIn Fence.wide 2 P Q a3 w3 := by
  have bxe : ∀ st g', st.bx.length = st3.bx.length → g3.le g' → ∀ W, Inv g' st W → g'.bx = g3.bx := fun st g' hl hle W hi' => by
    refine List.ext_getElem? fun i => ?_
    have hlen : g'.bx.length = g3.bx.length := by rw [hi'.bxlen, hl, hi.bxlen]
    rcases Nat.lt_or_ge i g3.bx.length with h | h
    · rw [List.getElem?_eq_getElem h]
      exact hle.bx i _ (List.getElem?_eq_getElem h)
    · rw [List.getElem?_eq_none h, List.getElem?_eq_none (by omega)]
  have fzlt : ∀ b o, g3.w0.fz b = some o → b < w3.heap.size := fun b o hb => (Array.getElem?_eq_some_iff.1 (hi.kept.2 b o hb).1).1
  have grown : ∀ st g' W W' row, st.bx.length = st3.bx.length → g3.le g' → Inv g' st W → W.grownBy W' row → (∀ r, row = some r → w3.heap.size ≤ r ∧ ∃ o : Obj, W.heap[r]? = some o ∧ o.isCells = false) → Inv g' st W' := fun st g' W W' row hl hle hi' hgr hr => by
    refine hi'.other hgr fun k e => ?_
    obtain ⟨h1, h2⟩ := hr k e
    refine ⟨?_, fun hm => ?_, ?_, h2⟩
    · unfold Gh.base; rw [hle.w0]; exact Nat.le_trans hi.base_le h1
    · rw [bxe st g' hl hle W hi'] at hm
      have := hi.bx_lt hm
      omega
    · rw [hle.w0]
      cases hz : g3.w0.fz k with
      | none => rfl
      | some o => have := fzlt k o hz; omega
  refine wpIn_rangeFunc_ownG rfl (Nat.le_succ 1) hg trivial eg hseq (fun h k c => k (h c)) ?_ (Below.refl _ _) hps
    (fun pre W => ∃ st g', J pre st ∧ g3.le g' ∧ Inv g' st W) (fun c pre W => ∃ st g', Jx c pre st ∧ g3.le g' ∧ Inv g' st W) ?_ ?_ ⟨st3, g3, h0, .refl _, hi⟩ a₁ hass ?_ ?_ ?_
  · intro W l o o' hl hW hc _ hh b of v hv
    exact cell_kept (hh b of v hv) (grownBy_putObj' W l o') (fun r e => by cases e; exact ⟨o, hW, hc⟩)
  · rintro pre W W' row ⟨st, g', h1, h2, h3⟩ hgr hr
    exact ⟨st, g', h1, h2, grown st g' W W' row (hJ _ _ h1).1 h2 h3 hgr hr⟩
  · rintro c pre W W' row ⟨st, g', h1, h2, h3⟩ hgr hr
    exact ⟨st, g', h1, h2, grown st g' W W' row (hJx _ _ _ h1).1 h2 h3 hgr hr⟩
  · rintro l pre x W ⟨st, g', h1, h2, h3⟩ hN
    obtain ⟨l1, l2⟩ := hJ _ _ h1
    have hbx := bxe st g' l1 h2 W h3
    obtain ⟨fz, hfz⟩ : ∃ fz : Nat → Option Obj, ∀ k o, fz k = some o ↔ (w3.heap.size ≤ k ∧ W.heap[k]? = some o ∧ isC o = false) ∨ (k < w3.heap.size ∧ g3.w0.fz k = some o) := by
      refine ⟨fun k => if w3.heap.size ≤ k then (W.heap[k]?).bind (fun o => if isC o = false then some o else none) else g3.w0.fz k, fun k o => ?_⟩
      by_cases hk : w3.heap.size ≤ k
      · simp only [if_pos hk]
        constructor
        · intro h
          obtain ⟨o', e1, e2⟩ := Option.bind_eq_some_iff.1 h
          split at e2
          · rename_i hc
            obtain rfl := Option.some.inj e2
            exact .inl ⟨hk, e1, hc⟩
          · cases e2
        · rintro (⟨_, e1, e2⟩ | ⟨e1, _⟩)
          · rw [e1]; simp [e2]
          · omega
      · simp only [if_neg hk]
        constructor
        · intro h; exact .inr ⟨by omega, h⟩
        · rintro (⟨e1, _⟩ | ⟨_, e2⟩)
          · exact absurd e1 hk
          · exact e2
    obtain ⟨rt, hrt⟩ : ∃ rt : Root, rt = ⟨g'.w0.W, W.heap.size, fz⟩ := ⟨_, rfl⟩
    have hrW : rt.W = g'.w0.W := by rw [hrt]
    have hiW : Inv (g'.root rt) st W := h3.root hrW (by
      rw [hrt]
      refine ⟨⟨h3.kept.1.1, Nat.le_refl _⟩, fun b o hb => ?_⟩
      rcases (hfz b o).1 hb with ⟨_, e1, e2⟩ | ⟨_, e2⟩
      · exact ⟨e1, e2⟩
      · have := h3.kept.2 b o
        rw [h2.w0] at this
        exact this e2) (fun b hb => by
      rw [hrt]
      show fz b = none
      cases hz : fz b with
      | none => rfl
      | some o =>
        rcases (hfz b o).1 hz with ⟨e1, _⟩ | ⟨_, e2⟩
        · rw [hbx] at hb
          have := hi.bx_lt hb
          omega
        · rw [hbx] at hb
          rw [(hi.bxK b hb).2.2] at e2
          cases e2)
    have hfW : FSim ⟨[], fun _ => none⟩ (g'.root rt) (frx x) (a₁ x) := ((hfa x).mono h2).root hrW
    refine wpIn_mono (awpR_sound body _ (instPF_body (n := st3.bx.length) (m := st3.ln.length) (st := st) (J := J) (Jx := Jx) (xs := pre ++ [x])).free _ _ (hbody pre x st h1 hN) (some l) (.inr nd) ⟨[], fun _ => none⟩ (fun _ _ => rfl) (g'.root rt) _ W hiW hfW) fun e a' W' hq => ?_
    obtain ⟨g2, xx, fr', st', k1, k2, k3, k4, k5⟩ := hq
    have hw0 : g2.w0 = rt := k1.w0
    have hsize : W.heap.size ≤ W'.heap.size := by
      have := k2.kept.1.2
      rw [hw0, hrt] at this
      exact this
    have hkf : KeepsFrom w3.heap.size W W' := ⟨hsize, fun k o hk hW hc => by
      have := k2.kept.2 k o
      rw [hw0, hrt] at this
      exact (this ((hfz k o).2 (.inl ⟨hk, hW, by rw [isC_cells]; exact hc⟩))).1⟩
    have back : BoxesOk st st' → ∃ g4, g3.le g4 ∧ Inv g4 (st'.cut st3.bx.length st3.ln.length) W' := fun hb => by
      have hc := hiW.cut k1 k2 hb
      rw [l1, l2] at hc
      have hcl := k1.cut
      rw [hiW.bxlen, hiW.lnlen, l1, l2] at hcl
      refine ⟨(g2.cut st3.bx.length st3.ln.length).root g'.w0, ⟨h2.w0, fun b o v hv => hcl.K b o v (h2.K b o v hv), fun i b hb => hcl.bx i b (h2.bx i b hb), fun i L hL => ?_⟩, ?_⟩
      · obtain ⟨L', e1, e2, e3⟩ := h2.ln i L hL
        obtain ⟨L2, f1, f2, f3⟩ := hcl.ln i L' e1
        refine ⟨L2, f1, Nat.le_trans e2 f2, fun he => ?_⟩
        have e4 : L.n = L'.n := by omega
        have e5 : L'.n = L2.n := by omega
        rw [f3 e5, e3 e4]
      · refine hc.root (by show g'.w0.W = g2.w0.W; rw [hw0, hrt]) ⟨⟨?_, ?_⟩, fun b o hb => ?_⟩ (fun b hb => ?_)
        · have := k2.kept.1.1
          rw [hw0, hrt] at this
          exact this
        · exact Nat.le_trans h3.kept.1.2 hsize
        · rw [h2.w0] at hb
          have := k2.kept.2 b o
          rw [hw0, hrt] at this
          exact this ((hfz b o).2 (.inr ⟨fzlt b o hb, hb⟩))
        · have hb' : b ∈ g2.bx := List.mem_of_mem_take hb
          have hz := (k2.bxK b hb').2.2
          rw [hw0, hrt] at hz
          cases hz2 : g'.w0.fz b with
          | none => rfl
          | some o =>
            rw [h2.w0] at hz2
            have := (hfz b o).2 (.inr ⟨fzlt b o hz2, hz2⟩)
            have hz' : fz b = none := hz
            rw [this] at hz'
            cases hz'
    cases k4 with
    | normal =>
      obtain ⟨b1, b2⟩ := k5
      obtain ⟨g4, q1, q2⟩ := back b1
      exact ⟨hkf, fun _ => hC _ _ g4 W' b2 q1 q2, _, g4, b2, q1, q2⟩
    | exit id =>
      obtain ⟨b1, b2⟩ := k5
      obtain ⟨g4, q1, q2⟩ := back b1
      exact ⟨hkf, _, g4, b2, q1, q2⟩
    | ret => exact k5.elim
    | panic v z hz => exact k5.elim
  · rintro E xs W hE hS ⟨st, g', h1, h2, h3⟩ hW
    exact hdone E xs st g' W hS h1 h2 h3 hE hW
  · rintro E c pre W hE hS ⟨st, g', h1, h2, h3⟩ hW
    exact hstop E c pre st g' W hS h1 h2 h3 hE hW
end Go.Proofs.YtjodibncpbjegaaDoor
