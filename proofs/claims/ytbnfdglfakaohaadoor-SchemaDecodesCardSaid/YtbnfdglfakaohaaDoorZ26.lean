/- Merged: AvmJ, RdPure. -/
import Derived.Test.YtbnfdglfakaohaaDoorZ25
/- A box of the caller's that is written: a reader's. No program. -/
set_option linter.unusedVariables false
set_option linter.unusedSimpArgs false
namespace Go.Proofs.YtbnfdglfakaohaaDoor
open Go.RowKit
section
variable {α : Type} {B m : List α} {id k : Nat} {x y : α}
theorem bset_app (h : id < B.length) : (B ++ m).set id x = B.set id x ++ m := List.set_append_left _ _ h
theorem bget_app (h : id < B.length) : (B.set id x ++ m)[id]? = some x := by
  rw [List.getElem?_append_left (by simpa using h), List.getElem?_set_self h]
theorem bget (h : id < B.length) : (B.set id x)[id]? = some x := List.getElem?_set_self h
theorem bown : (B.set id x ++ m)[B.length + k]? = m[k]? := by rw [List.getElem?_append_right (by simp)]; simp
theorem bown0 : (B.set id x ++ m)[B.length]? = m[0]? := by rw [List.getElem?_append_right (by simp)]; simp
theorem bsown : (B.set id x ++ m).set (B.length + k) y = B.set id x ++ m.set k y := by rw [List.set_append_right _ _ (by simp)]; simp
theorem bsown0 : (B.set id x ++ m).set B.length y = B.set id x ++ m.set 0 y := by rw [List.set_append_right _ _ (by simp)]; simp
theorem bset_app2 (h : id < B.length) : (B.set id x ++ m).set id y = B.set id y ++ m := by rw [bset_app (by simpa using h), List.set_set]
end
section
variable {st : AS} {id : Nat} {c' : List AV} {m : List (List AV)} {K k : List (Nat × Nat × Nat)} {R : AOut → AS → Prop}
theorem boxes_set (hc : ∀ x ∈ c', InB st.bx.length st.ln.length x) : BoxesOk st ⟨st.bx.set id c' ++ m, K⟩ := by
  intro i cs hi hcs
  simp only at hcs
  rw [List.getElem?_append_left (by simpa using hi), List.getElem?_set] at hcs
  split at hcs
  · split at hcs
    · obtain rfl := Option.some.inj hcs
      exact .inr hc
    · cases hcs
  · exact .inl hcs
theorem cut_set : AS.cut ⟨st.bx.set id c' ++ m, st.ln ++ k⟩ st.bx.length st.ln.length = ⟨st.bx.set id c', st.ln⟩ := by
  unfold AS.cut
  rw [List.take_left, show st.bx.length = (st.bx.set id c').length by simp, List.take_left]
/-- The end of a function that has written a box of its caller's. -/
theorem end_rd {v r : AV} (hc : ∀ x ∈ c', InB st.bx.length st.ln.length x) (hv : v.forget = r) (hb : InB st.bx.length st.ln.length r) (hR : R (.ret r) ⟨st.bx.set id c', st.ln⟩) : RetForm st v ⟨st.bx.set id c' ++ m, st.ln ++ k⟩ R := by
  subst hv
  exact .forget hb (boxes_set hc) (by rw [cut_set]; exact hR)
theorem end_rd1 {v r : AV} (hc : ∀ x ∈ c', InB st.bx.length st.ln.length x) (hv : v.forget = r) (hb : InB st.bx.length st.ln.length r) (hR : R (.ret r) ⟨st.bx.set id c', st.ln⟩) : RetForm st v ⟨st.bx.set id c' ++ m, st.ln⟩ R := by
  have := end_rd (m := m) (k := []) hc hv hb hR
  simpa using this
theorem end_rd0 {v r : AV} (hc : ∀ x ∈ c', InB st.bx.length st.ln.length x) (hv : v.forget = r) (hb : InB st.bx.length st.ln.length r) (hR : R (.ret r) ⟨st.bx.set id c', st.ln⟩) : RetForm st v ⟨st.bx.set id c', st.ln⟩ R := by
  have := end_rd (m := []) (k := []) hc hv hb hR
  simpa using this
theorem pan_rd {v : AV} (hc : ∀ x ∈ c', InB st.bx.length st.ln.length x) (hb : InB st.bx.length st.ln.length v) (hR : R (.panic v) ⟨st.bx.set id c', st.ln⟩) :
    InB st.bx.length st.ln.length v ∧ BoxesOk st ⟨st.bx.set id c' ++ m, st.ln ++ k⟩ ∧ R (.panic v) (AS.cut ⟨st.bx.set id c' ++ m, st.ln ++ k⟩ st.bx.length st.ln.length) :=
  ⟨hb, boxes_set hc, by rw [cut_set]; exact hR⟩
theorem pan_rd1 {v : AV} (hc : ∀ x ∈ c', InB st.bx.length st.ln.length x) (hb : InB st.bx.length st.ln.length v) (hR : R (.panic v) ⟨st.bx.set id c', st.ln⟩) :
    InB st.bx.length st.ln.length v ∧ BoxesOk st ⟨st.bx.set id c' ++ m, st.ln⟩ ∧ R (.panic v) (AS.cut ⟨st.bx.set id c' ++ m, st.ln⟩ st.bx.length st.ln.length) := by
  have := pan_rd (m := m) (k := []) hc hb hR
  simpa using this
theorem pan_rd0 {v : AV} (hc : ∀ x ∈ c', InB st.bx.length st.ln.length x) (hb : InB st.bx.length st.ln.length v) (hR : R (.panic v) ⟨st.bx.set id c', st.ln⟩) :
    InB st.bx.length st.ln.length v ∧ BoxesOk st ⟨st.bx.set id c', st.ln⟩ ∧ R (.panic v) (AS.cut ⟨st.bx.set id c', st.ln⟩ st.bx.length st.ln.length) := by
  have := pan_rd (m := []) (k := []) hc hb hR
  simpa using this
end
/-- What a call answers may be told less exactly. -/
def WkR (R : AOut → AS → Prop) : AOut → AS → Prop := fun o st' => (∃ v, o = .panic v ∧ R o st') ∨ ∃ v v', o = .ret v ∧ Wk v v' ∧ R (.ret v') st'
theorem wkr_ret {R : AOut → AS → Prop} {v v' : AV} {st : AS} (h : Wk v v') (hR : R (.ret v') st) : WkR R (.ret v) st := .inr ⟨v, v', rfl, h, hR⟩
theorem wkr_pan {R : AOut → AS → Prop} {v : AV} {st : AS} (hR : R (.panic v) st) : WkR R (.panic v) st := .inl ⟨v, rfl, hR⟩
theorem DoesCall.weakR {P : Program} {f : FuncId} {args : List AV} {st : AS} {R : AOut → AS → Prop}
    (h : DoesCall P f args st (WkR R)) : DoesCall P f args st R :=
  fun g w vs hi ha => (h g w vs hi ha).mono fun e w' ⟨g', o, st', h1, h2, h3, h4⟩ => by
    rcases h4 with ⟨v, rfl, h4⟩ | ⟨v, v', rfl, h4, h5⟩
    · exact ⟨g', _, st', h1, h2, h3, h4⟩
    · cases h3 with
      | ret _ x hx => exact ⟨g', .ret v', st', h1, h2, .ret _ _ (h4 _ _ hx), h5⟩
def retCT (st st' : AS) (R : AOut → AS → Prop) (ws : List AV) : AV → Prop := fun v => RetForm st (.tup (v :: ws)) st' R
theorem retCT_app {st st' : AS} {R : AOut → AS → Prop} {ws : List AV} {v : AV} : retCT st st' R ws v = RetForm st (.tup (v :: ws)) st' R := no_rfl rfl
theorem endsCT {P : Program} {st st' : AS} {R : AOut → AS → Prop} {fr : AFr} {a u : Tmp} {t : TypeId} : Ends P [.cell a t, .tmp u] st R fr st' = aload (tyOf P t) (look fr.l a) st' (retCT st st' R [look fr.l u]) := no_rfl rfl
theorem endsCTT {P : Program} {st st' : AS} {R : AOut → AS → Prop} {fr : AFr} {a u v : Tmp} {t : TypeId} : Ends P [.cell a t, .tmp u, .tmp v] st R fr st' = aload (tyOf P t) (look fr.l a) st' (retCT st st' R [look fr.l u, look fr.l v]) := no_rfl rfl
theorem panic_ifc {t : TypeId} {v : AV} {st : AS} {X : AV → AS → Prop} : apanic (.ifc t v) st X = X (.ifc t v) st := no_rfl rfl
/-- It answers what says at least v. -/
def GW (st : AS) (v : AV) : AOut → AS → Prop := fun o st' => ∃ v', o = .ret v' ∧ Wk v' v ∧ st' = st
theorem Gives.of_GW {P : Program} {f : FuncId} {args : List AV} {v : AV} (h : ∀ st, DoesCall P f args st (GW st v)) : Gives P f args v :=
  fun st => .weakR ((h st).mono fun o st' ⟨v', h1, h2, h3⟩ => .inr ⟨v', v, h1, h2, rfl, h3⟩)
theorem end_w {st : AS} {u v : AV} {l : List (List AV)} {k : List (Nat × Nat × Nat)} (hb : InB st.bx.length st.ln.length u.forget) (hw : Wk u.forget v) : RetForm st u ⟨st.bx ++ l, st.ln ++ k⟩ (GW st v) :=
  .forget hb .app ⟨_, rfl, hw, cut_app⟩
theorem end_w1 {st : AS} {u v : AV} {l : List (List AV)} (hb : InB st.bx.length st.ln.length u.forget) (hw : Wk u.forget v) : RetForm st u ⟨st.bx ++ l, st.ln⟩ (GW st v) :=
  .forget hb .app ⟨_, rfl, hw, cut_app1⟩
theorem Wk.tup3 {a a' b c : AV} (h : Wk a a') : Wk (.tup [a, b, c]) (.tup [a', b, c]) := by
  intro g x hx
  cases hx with
  | tup l y hs hh =>
    refine .tup _ y hs fun i z hz => ?_
    match i, hz with
    | 0, hz => obtain rfl := Option.some.inj hz; exact h _ _ (hh 0 _ rfl)
    | 1, hz => obtain rfl := Option.some.inj hz; exact hh 1 _ rfl
    | 2, hz => obtain rfl := Option.some.inj hz; exact hh 2 _ rfl
theorem Wk.tup2 {a a' b : AV} (h : Wk a a') : Wk (.tup [a, b]) (.tup [a', b]) := by
  intro g x hx
  cases hx with
  | tup l y hs hh =>
    refine .tup _ y hs fun i z hz => ?_
    match i, hz with
    | 0, hz => obtain rfl := Option.some.inj hz; exact h _ _ (hh 0 _ rfl)
    | 1, hz => obtain rfl := Option.some.inj hz; exact hh 1 _ rfl
/-- A reader's two cells. -/
def rdr (o : Bool) (l : List UInt8) (p : Nat) : List AV := [.sl o .none (encB l), .s (.int .i64 p)]
theorem rdr_InB {o : Bool} {l : List UInt8} {p n m : Nat} : ∀ x ∈ rdr o l p, InB n m x := by
  intro x hx
  simp only [rdr, List.mem_cons, List.mem_nil_iff, or_false] at hx
  rcases hx with rfl | rfl
  · exact InB_none.2 trivial
  · exact .s _
/-- What is read, and the place behind it; or why nothing. -/
inductive Rd (α : Type) where
  | ok (a : α) (p : Nat)
  | no (e : Int)
/-- A reader's method: it reads r, or panics with the error. -/
def RdCall {α : Type} (P : Program) (T : TypeId) (f : FuncId) (args : List AV) (l : List UInt8) (p : Nat) (r : Rd α) (enc : α → AV) : Prop :=
  ∀ (st : AS) (id : Nat) (o : Bool) (R : AOut → AS → Prop), st.bx[id]? = some (rdr o l p) → (∀ a q, r = .ok a q → R (.ret (enc a)) ⟨st.bx.set id (rdr o l q), st.ln⟩) →
    (∀ e q, r = .no e → R (.panic (.ifc T (.agg [.s (.int .i64 e)]))) ⟨st.bx.set id (rdr o l q), st.ln⟩) → DoesCall P f (.bp id 0 :: args) st R
theorem wrong_InB {n m : Nat} {T : TypeId} {e : Int} : InB n m (.ifc T (.agg [.s (.int .i64 e)])) := by simp [InB_ifc, InB_agg, InB_s]
/-! ### Every order, where an operation in between turns the store -/
def ordS (P : Program) (ops : Array Oper) (X : AV → AS → Prop) (N : AFr → AS → Prop) (S : AS → Prop) : List (Bool × Bool) → List Oper → AFr → AS → Prop
  | [], [], fr, st => N fr st
  | (true, _) :: fl, o :: os, fr, st => S st ∧ awant (wantB ops fr o) (∃ v, (∀ s, S s → afree P fr.eval o.op o.type s (fun u => u = v)) ∧ ordS P ops X N S fl os (fr.put o.dst v) st) (ordS P ops X N S fl os (fr.put o.dst .und) st)
  | (false, late) :: fl, o :: os, fr, st => awant (wantB ops fr o) (aexec P fr.eval o.op o.type st (fun v st' => (late = false → S st') ∧ ordS P ops X N S fl os (fr.put o.dst v) st') X) ((late = false → S st) ∧ ordS P ops X N S fl os (fr.put o.dst .und) st)
  | _, _, _, _ => False
theorem ordS_ord {P : Program} {l : List Oper} {X : AV → AS → Prop} {N : AFr → AS → Prop} {S : AS → Prop} (all : List Nat) : ∀ (fl : List (Bool × Bool)) (os : List Oper) (k : Nat) (fr : AFr) (st : AS), (∀ j, os[j]? = l[k + j]?) → (∀ i, k ≤ i → (i ∈ all ↔ i ∈ lates k fl)) →
    ordS P l.toArray X N S fl os fr st → aord P l.toArray X N S all (orders k fl) fr st
  | [], [], k, fr, st, _, _, h => h
  | (true, lt) :: fl, o :: os, k, fr, st, hl, ha, h => by
    obtain ⟨h1, h2⟩ := h
    have ho : l.toArray[k]? = some o := by have := hl 0; simpa using this.symm
    have hl' : ∀ j, os[j]? = l[k + 1 + j]? := fun j => by have := hl (j + 1); simpa [Nat.add_assoc, Nat.add_comm 1 j] using this
    have ha' : ∀ i, k + 1 ≤ i → (i ∈ all ↔ i ∈ lates (k + 1) fl) := fun i hi => by
      have := ha i (by omega)
      rw [this]
      cases lt with
      | true => simp only [lates, List.mem_cons]; constructor
                · rintro (h | h)
                  · omega
                  · exact h
                · exact .inr
      | false => rfl
    refine ⟨h1, o, ?_⟩
    unfold awant at h2
    split at h2
    · rename_i t ht
      cases t with
      | true =>
        obtain ⟨v, k1, k2⟩ := h2.1 rfl
        refine ⟨v, ho, .inl ⟨ht, fun s J X' hs hj => ?_⟩, ordS_ord all fl os (k + 1) _ _ hl' ha' k2⟩
        obtain ⟨u, q1, q2⟩ := afree_yields (k1 s hs)
        subst q1
        exact q2 J X' hj
      | false => exact ⟨.und, ho, .inr ⟨ht, rfl⟩, ordS_ord all fl os (k + 1) _ _ hl' ha' (h2.2 rfl)⟩
    · exact h2.elim
  | (false, lt) :: fl, o :: os, k, fr, st, hl, ha, h => by
    have ho : l.toArray[k]? = some o := by have := hl 0; simpa using this.symm
    have hl' : ∀ j, os[j]? = l[k + 1 + j]? := fun j => by have := hl (j + 1); simpa [Nat.add_assoc, Nat.add_comm 1 j] using this
    have ha' : ∀ i, k + 1 ≤ i → (i ∈ all ↔ i ∈ lates (k + 1) fl) := fun i hi => by
      have := ha i (by omega)
      rw [this]
      cases lt with
      | true => simp only [lates, List.mem_cons]; constructor
                · rintro (h | h)
                  · omega
                  · exact h
                · exact .inr
      | false => rfl
    have hlate : k ∉ all → lt = false := fun hk => by
      cases lt with
      | true => exact absurd ((ha k (Nat.le_refl _)).2 (by simp [lates])) hk
      | false => rfl
    have go : ∀ fr' st', ((lt = false → S st') ∧ ordS P l.toArray X N S fl os fr' st') → (k ∉ all → S st') ∧ ((k ∉ all → S st') → aord P l.toArray X N S all (orders (k + 1) fl) fr' st') := fun fr' st' ⟨q1, q2⟩ =>
      ⟨fun hk => q1 (hlate hk), fun _ => ordS_ord all fl os (k + 1) fr' st' hl' ha' q2⟩
    unfold ordS at h
    show aopX P l.toArray X k _ fr st
    unfold aopX
    simp only [ho]
    unfold awant at h ⊢
    split at h
    · exact ⟨fun e => aexec_mono (fun v s hv => go _ _ hv) (fun _ _ h => h) (h.1 e), fun e => go _ _ (h.2 e)⟩
    · exact h.elim
  | [], _ :: _, k, fr, st, _, _, h => by simp [ordS] at h
  | (true, _) :: _, [], k, fr, st, _, _, h => by simp [ordS] at h
  | (false, _) :: _, [], k, fr, st, _, _, h => by simp [ordS] at h
theorem drawS {P : Program} {l : List Oper} {X : AV → AS → Prop} {N : AFr → AS → Prop} {fr : AFr} {st : AS} (S : AS → Prop) (fl : List (Bool × Bool)) (hm : P.follows .mixedOrders = true)
    (hB : (Region.noSelect l.toArray && (orders 0 fl).length == l.toArray.size && ordC .any l.toArray (lates 0 fl) (orders 0 fl) (Array.replicate l.toArray.size false)) = true)
    (h : ordS P l.toArray X N S fl l fr st) : ADraw P l.toArray X N fr st :=
  ADraw.of_ord (S := S) (lates 0 fl) (orders 0 fl) hm hB (ordS_ord (lates 0 fl) fl l 0 fr st (fun j => by simp) (fun i _ => .rfl) h)
section
variable {P : Program} {ops : Array Oper} {X : AV → AS → Prop} {N : AFr → AS → Prop} {S : AS → Prop} {st : AS} {fr : AFr} {ty : TypeId}
def ordSK (P : Program) (ops : Array Oper) (X : AV → AS → Prop) (N : AFr → AS → Prop) (S : AS → Prop) (late : Bool) (fl : List (Bool × Bool)) (os : List Oper) (fr : AFr) (dst : Option Tmp) : AV → AS → Prop := fun v st => (late = false → S st) ∧ ordS P ops X N S fl os (fr.put dst v) st
theorem ordSK_not {fl : List (Bool × Bool)} {os : List Oper} {dst : Option Tmp} {v : AV} : ordSK P ops X N S false fl os fr dst v st = (S st ∧ ordS P ops X N S fl os (fr.put dst v) st) := by simp [ordSK]
theorem ordSK_late {fl : List (Bool × Bool)} {os : List Oper} {dst : Option Tmp} {v : AV} : ordSK P ops X N S true fl os fr dst v st = ordS P ops X N S fl os (fr.put dst v) st := by simp [ordSK]
theorem ordS_nil : ordS P ops X N S [] [] fr st = N fr st := no_rfl rfl
theorem ordS_solo {b : Bool} {fl : List (Bool × Bool)} {dst : Option Tmp} {op : Op} {pos : String} {after : Array Edge} {os : List Oper} : ordS P ops X N S ((false, b) :: fl) (⟨dst, op, ty, pos, after, none⟩ :: os) fr st =
    aexec P fr.eval op ty st (ordSK P ops X N S b fl os fr dst) X :=
  propext ⟨fun h => h.1 rfl, fun h => ⟨fun _ => h, fun e => by cases e⟩⟩
theorem ordS_free {b : Bool} {fl : List (Bool × Bool)} {dst : Option Tmp} {op : Op} {pos : String} {after : Array Edge} {os : List Oper} (v : AV) (hS : S st) (h : ∀ s, S s → afree P fr.eval op ty s (fun u => u = v)) (k : ordS P ops X N S fl os (fr.put dst v) st) :
    ordS P ops X N S ((true, b) :: fl) (⟨dst, op, ty, pos, after, none⟩ :: os) fr st := ⟨hS, fun _ => ⟨v, h, k⟩, fun e => by cases e⟩
end
/-- The store, but for where a reader stands. -/
def AtSome (B : List (List AV)) (id : Nat) (o : Bool) (l : List UInt8) (m : List (List AV)) (ln : List (Nat × Nat × Nat)) : AS → Prop := fun s => ∃ q, s = ⟨B.set id (rdr o l q) ++ m, ln⟩
/-! ### Rounds -/
theorem cut_len {st : AS} {n m : Nat} (h1 : st.bx.length = n) (h2 : st.ln.length = m) : st.cut n m = st := by
  subst h1 h2
  exact cut_same
theorem cut_to2 {B l' m : List (List AV)} {K' : List (Nat × Nat × Nat)} {n k : Nat} (h1 : (B ++ l').length = n) (h2 : K'.length = k) : AS.cut ⟨B ++ (l' ++ m), K'⟩ n k = ⟨B ++ l', K'⟩ := by
  subst h1 h2
  unfold AS.cut
  rw [List.take_length, ← List.append_assoc, List.take_left]
theorem boxes_as0 {S l l' : List (List AV)} {K K' : List (Nat × Nat × Nat)} (hl : l'.length = l.length) (h : ∀ (i : Nat) c, l'[i]? = some c → l[i]? = some c ∨ ∀ x ∈ c, InB (S ++ l).length K.length x) : BoxesOk ⟨S ++ l, K⟩ ⟨S ++ l', K'⟩ := by
  have := boxes_as (m := []) (K' := K') hl h
  rwa [List.append_nil] at this
theorem boxes_rd {B l l' m : List (List AV)} {x x' : List AV} {id : Nat} {K K' : List (Nat × Nat × Nat)} (hl : l'.length = l.length) (hx : ∀ c ∈ x', InB (B.set id x ++ l).length K.length c)
    (h : ∀ (i : Nat) c, l'[i]? = some c → l[i]? = some c ∨ ∀ y ∈ c, InB (B.set id x ++ l).length K.length y) : BoxesOk ⟨B.set id x ++ l, K⟩ ⟨B.set id x' ++ (l' ++ m), K'⟩ := by
  intro i cs hi hc
  simp only at hi hc ⊢
  rcases Nat.lt_or_ge i B.length with hlt | hge
  · rw [List.getElem?_append_left (by simpa using hlt), List.getElem?_set] at hc
    rw [List.getElem?_append_left (by simpa using hlt), List.getElem?_set]
    split at hc
    · rename_i he
      rw [if_pos (he ▸ hlt)] at hc
      obtain rfl := Option.some.inj hc
      exact .inr hx
    · rename_i he
      rw [if_neg he]
      exact .inl hc
  · rw [List.getElem?_append_right (by simpa using hge)] at hc
    rw [List.getElem?_append_right (by simpa using hge)]
    simp only [List.length_set] at hc hi ⊢
    have hil : i - B.length < l'.length := by simp at hi; omega
    rw [List.getElem?_append_left hil] at hc
    exact h _ _ hc
theorem boxes_rd0 {B l l' : List (List AV)} {x x' : List AV} {id : Nat} {K K' : List (Nat × Nat × Nat)} (hl : l'.length = l.length) (hx : ∀ c ∈ x', InB (B.set id x ++ l).length K.length c)
    (h : ∀ (i : Nat) c, l'[i]? = some c → l[i]? = some c ∨ ∀ y ∈ c, InB (B.set id x ++ l).length K.length y) : BoxesOk ⟨B.set id x ++ l, K⟩ ⟨B.set id x' ++ l', K'⟩ := by
  have := boxes_rd (m := []) (K' := K') hl hx h
  rwa [List.append_nil] at this
end Go.Proofs.YtbnfdglfakaohaaDoor
/- Reading: numbers, texts, bits, floats, values, types, columns, schemas. No program. -/
set_option linter.unusedVariables false
set_option linter.unusedSimpArgs false
namespace Go.Proofs.YtbnfdglfakaohaaDoor
open Go
def Rd.bind {α β : Type} : Rd α → (α → Nat → Rd β) → Rd β
  | .ok a p, f => f a p
  | .no e, _ => .no e
def rdNum (l : List UInt8) (p : Nat) : Rd Nat := if (getAt l p).2.2 = 0 then .ok (getAt l p).1 (getAt l p).2.1.toNat else .no (getAt l p).2.2
def rdText (l : List UInt8) (most : Nat) (long : Int) (p : Nat) : Rd ByteArray :=
  (rdNum l p).bind fun n q => if most < n then .no long else if l.length < q + n then .no 30 else .ok ⟨((l.drop q).take n).toArray⟩ (q + n)
def rdByte (l : List UInt8) (p : Nat) : Rd Nat := match l[p]? with | some c => .ok c.toNat (p + 1) | none => .no 30
def rdBit (l : List UInt8) (p : Nat) : Rd Nat := (rdByte l p).bind fun c q => if c < 2 then .ok c q else .no 5
/-- The number of bytes, the lowest first. -/
def ofLe : List UInt8 → Nat
  | [] => 0
  | c :: l => c.toNat + 256 * ofLe l
def rdFloat (l : List UInt8) (p : Nat) : Rd Nat :=
  if l.length < p + 8 then .no 30 else if fixB (ofLe ((l.drop p).take 8)) = ofLe ((l.drop p).take 8) then .ok (ofLe ((l.drop p).take 8)) (p + 8) else .no 5
/-- So many times, one behind the other. -/
def rdMany {α : Type} (f : Nat → Rd α) : Nat → Nat → Rd (List α)
  | 0, p => .ok [] p
  | n + 1, p => (f p).bind fun a q => (rdMany f n q).bind fun l r => .ok (a :: l) r
def rdHow (l : List UInt8) (k : Int) (p : Nat) : Rd Nat := if k = 6 then rdBit l p else (rdNum l p).bind fun n q => if 256 < n then .no 3 else .ok n q
def rdScal (l : List UInt8) (k : Int) (p : Nat) : Rd V :=
  if k = 1 then (rdBit l p).bind fun n q => .ok (.mk 1 n 0 ⟨#[]⟩ []) q
  else if k = 2 then (rdNum l p).bind fun n q => .ok (.mk 2 (zag n) 0 ⟨#[]⟩ []) q
  else if k = 3 then (rdFloat l p).bind fun n q => .ok (.mk 3 0 n ⟨#[]⟩ []) q
  else (rdText l 1024 2 p).bind fun t q => if k = 4 ∧ utf t = false then .no 61 else .ok (.mk k 0 0 t []) q
def rdBody (l : List UInt8) (k : Int) (f : Nat → Rd V) (p : Nat) : Rd V :=
  if nestK k = true then (rdHow l k p).bind fun n q => (rdMany f n q).bind fun vs r => .ok (.mk k 0 0 ⟨#[]⟩ vs) r else rdScal l k p
mutual
def rdVal (l : List UInt8) : T → Nat → Rd V
  | .mk k of, p => rdBody l k (rdHead l of) p
def rdHead (l : List UInt8) : List T → Nat → Rd V
  | [], _ => .no 1
  | u :: _, p => rdVal l u p
end
theorem rdVal_eq (l : List UInt8) (k : Int) (of : List T) (p : Nat) : rdVal l (.mk k of) p = rdBody l k (rdHead l of) p := by rw [rdVal]
/-- A type, so many depths deep at most. -/
def rdKind (l : List UInt8) : Nat → Nat → Rd T
  | 0, _ => .no 62
  | d + 1, p => (rdByte l p).bind fun k q => if k < 1 ∨ 7 < k then .no 60 else if nestK k = true then (rdKind l d q).bind fun t r => .ok (.mk k [t]) r else .ok (.mk k []) q
def rdCol (l : List UInt8) (pre : List C) (p : Nat) : Rd C :=
  (rdText l 16 70 p).bind fun n q => if nameB n = false then .no 70 else if (findC pre n).isSome = true then .no 71 else
    (rdKind l 4 q).bind fun t r => (rdBit l r).bind fun h s => if h = 1 then (rdVal l t s).bind fun v u => .ok ⟨n, t, true, v⟩ u else .ok ⟨n, t, false, zeroV⟩ s
def rdCols (l : List UInt8) : Nat → List C → Nat → Rd (List C)
  | 0, pre, p => .ok pre p
  | n + 1, pre, p => (rdCol l pre p).bind fun c q => rdCols l n (pre ++ [c]) q
def rdSch (l : List UInt8) : Rd (List C) :=
  (rdNum l 0).bind fun n p => if n = 0 then .no 4 else if 16 < n then .no 3 else (rdCols l n [] p).bind fun cs q => if q = l.length then .ok cs q else .no 5
/-! ### What is known of what is read -/
theorem Rd.bind_ok {α β : Type} {r : Rd α} {f : α → Nat → Rd β} {b : β} {q : Nat} (h : r.bind f = .ok b q) : ∃ a p, r = .ok a p ∧ f a p = .ok b q := by
  cases r with
  | ok a p => exact ⟨a, p, rfl, h⟩
  | no e => cases h
theorem rdNum_ok {l : List UInt8} {p n q : Nat} (h : rdNum l p = .ok n q) : p < q ∧ q ≤ l.length ∧ n < 18446744073709551616 ∧ getAt l p = (n, (q : Int), 0) ∧ (l.drop p).take (q - p) = put n := by
  unfold rdNum at h
  split at h
  · rename_i he
    injection h with h1 h2
    have h3 : getAt l p = (n, (getAt l p).2.1, 0) := by rw [← h1, ← he]
    obtain ⟨k, u, e1, e2, e3⟩ := getAt_inv h3
    obtain ⟨g1, g2, g3, g4⟩ := get_ok e3
    have e1' : p = k := by omega
    subst e1'
    rw [e2] at h2 h3
    have h2' : p + u = q := by omega
    subst h2'
    simp only [List.length_drop] at g2
    exact ⟨by omega, by omega, g4, h3, by rw [Nat.add_sub_cancel_left]; exact g3⟩
  · cases h
theorem rdNum_no {l : List UInt8} {p : Nat} {e : Int} (h : rdNum l p = .no e) : getAt l p = (0, 0, e) ∧ e ≠ 0 := by
  unfold rdNum at h
  split at h
  · cases h
  · rename_i he
    injection h with h1
    have := getAt_fail he
    rw [h1] at this he
    exact ⟨this, he⟩
theorem rdText_ok {l : List UInt8} {most p q : Nat} {long : Int} {t : ByteArray} (h : rdText l most long p = .ok t q) : p < q ∧ q ≤ l.length ∧ t.size ≤ most ∧ ∃ n r, rdNum l p = .ok n r ∧ n = t.size ∧ q = r + n ∧ t.data.toList = (l.drop r).take n := by
  obtain ⟨n, r, h1, h2⟩ := Rd.bind_ok h
  obtain ⟨k1, k2, k3, k4, _⟩ := rdNum_ok h1
  split at h2
  · cases h2
  split at h2
  · cases h2
  · rename_i a b
    injection h2 with e1 e2
    subst e1 e2
    have : (ByteArray.mk ((l.drop r).take n).toArray).size = n := by
      show ((l.drop r).take n).toArray.size = n
      simp; omega
    exact ⟨by omega, by omega, by omega, n, r, h1, this.symm, rfl, rfl⟩
theorem rdByte_ok {l : List UInt8} {p q c : Nat} (h : rdByte l p = .ok c q) : q = p + 1 ∧ p < l.length ∧ c < 256 ∧ ∃ b, l[p]? = some b ∧ b.toNat = c := by
  unfold rdByte at h
  split at h
  · rename_i b hb
    injection h with h1 h2
    exact ⟨h2.symm, (List.getElem?_eq_some_iff.1 hb).1, by rw [← h1]; exact b.toNat_lt, b, hb, h1⟩
  · cases h
theorem rdBit_ok {l : List UInt8} {p q c : Nat} (h : rdBit l p = .ok c q) : q = p + 1 ∧ p < l.length ∧ c < 2 ∧ ∃ b, l[p]? = some b ∧ b.toNat = c := by
  obtain ⟨a, r, h1, h2⟩ := Rd.bind_ok h
  obtain ⟨k1, k2, k3, k4⟩ := rdByte_ok h1
  split at h2
  · rename_i hc
    injection h2 with e1 e2
    subst e1 e2
    exact ⟨k1, k2, hc, k4⟩
  · cases h2
theorem rdFloat_ok {l : List UInt8} {p q b : Nat} (h : rdFloat l p = .ok b q) : q = p + 8 ∧ q ≤ l.length ∧ fixB b = b ∧ b = ofLe ((l.drop p).take 8) := by
  unfold rdFloat at h
  split at h
  · cases h
  split at h
  · rename_i h1 h2
    injection h with e1 e2
    subst e1 e2
    exact ⟨rfl, by omega, h2, rfl⟩
  · cases h
/-- Some have been read: the rest. -/
theorem rdMany_step {α : Type} {f : Nat → Rd α} {n k p q r : Nat} {vs : List α} {a : α} (h : rdMany f n p = (rdMany f (n - k) q).bind fun l r => .ok (vs ++ l) r) (hk : k < n) (ha : f q = .ok a r) :
    rdMany f n p = (rdMany f (n - (k + 1)) r).bind fun l r => .ok ((vs ++ [a]) ++ l) r := by
  rw [h]
  have e : n - k = (n - (k + 1)) + 1 := by omega
  rw [e, rdMany, ha]
  simp only [Rd.bind]
  cases rdMany f (n - (k + 1)) r with
  | ok l s => simp
  | no e => rfl
theorem rdMany_stop {α : Type} {f : Nat → Rd α} {n k p q : Nat} {vs : List α} {e : Int} (h : rdMany f n p = (rdMany f (n - k) q).bind fun l r => .ok (vs ++ l) r) (hk : k < n) (ha : f q = .no e) : rdMany f n p = .no e := by
  rw [h]
  have e : n - k = (n - (k + 1)) + 1 := by omega
  rw [e, rdMany, ha]
  rfl
theorem rdMany_end {α : Type} {f : Nat → Rd α} {n p q : Nat} {vs : List α} (h : rdMany f n p = (rdMany f (n - n) q).bind fun l r => .ok (vs ++ l) r) : rdMany f n p = .ok vs q := by
  rw [h, Nat.sub_self]
  simp [rdMany, Rd.bind]
theorem rdMany_zero {α : Type} {f : Nat → Rd α} {n p : Nat} : rdMany f n p = (rdMany f (n - 0) p).bind fun l r => .ok ([] ++ l) r := by
  rw [Nat.sub_zero]
  cases rdMany f n p <;> rfl
theorem rdMany_ok {α : Type} {f : Nat → Rd α} (P : Nat → Prop) (hf : ∀ p a q, P p → f p = .ok a q → P q) : ∀ (n p : Nat) (l : List α) (q : Nat), P p → rdMany f n p = .ok l q → P q ∧ l.length = n
  | 0, p, l, q, hp, h => by
    rw [rdMany] at h
    injection h with h1 h2
    subst h1 h2
    exact ⟨hp, rfl⟩
  | n + 1, p, l, q, hp, h => by
    rw [rdMany] at h
    obtain ⟨a, r, h1, h2⟩ := Rd.bind_ok h
    obtain ⟨l', s, h3, h4⟩ := Rd.bind_ok h2
    injection h4 with e1 e2
    subst e1 e2
    obtain ⟨k1, k2⟩ := rdMany_ok P hf n r l' s (hf _ _ _ hp h1) h3
    exact ⟨k1, by simp [k2]⟩
theorem rdScal_le {l : List UInt8} {k : Int} {p q : Nat} {v : V} (h : rdScal l k p = .ok v q) : p ≤ q ∧ q ≤ l.length := by
  unfold rdScal at h
  split at h
  · obtain ⟨n, r, h1, h2⟩ := Rd.bind_ok h
    injection h2 with e1 e2
    have := rdBit_ok h1
    omega
  split at h
  · obtain ⟨n, r, h1, h2⟩ := Rd.bind_ok h
    injection h2 with e1 e2
    have := rdNum_ok h1
    omega
  split at h
  · obtain ⟨n, r, h1, h2⟩ := Rd.bind_ok h
    injection h2 with e1 e2
    have := rdFloat_ok h1
    omega
  · obtain ⟨n, r, h1, h2⟩ := Rd.bind_ok h
    split at h2
    · cases h2
    · injection h2 with e1 e2
      have := rdText_ok h1
      omega
theorem rdHow_ok {l : List UInt8} {k : Int} {p q n : Nat} (h : rdHow l k p = .ok n q) : p < q ∧ q ≤ l.length ∧ n ≤ 256 ∧ (k = 6 → n < 2) := by
  unfold rdHow at h
  split at h
  · have := rdBit_ok h
    omega
  · obtain ⟨m, r, h1, h2⟩ := Rd.bind_ok h
    have := rdNum_ok h1
    split at h2
    · cases h2
    · injection h2 with e1 e2
      omega
mutual
theorem rdVal_le (l : List UInt8) : ∀ (u : T) (p : Nat) (v : V) (q : Nat), rdVal l u p = .ok v q → p ≤ q ∧ q ≤ l.length
  | .mk k m, p, v, q, h => by
    rw [rdVal_eq] at h
    unfold rdBody at h
    split at h
    · obtain ⟨n, r, h1, h2⟩ := Rd.bind_ok h
      obtain ⟨vs, s, h3, h4⟩ := Rd.bind_ok h2
      injection h4 with e1 e2
      have hh := rdHow_ok h1
      have := (rdMany_ok (fun x => r ≤ x ∧ x ≤ l.length) (fun a b c hp hc => by have := rdHead_le l m a b c hc; omega) n r vs s (by omega) h3).1
      omega
    · exact rdScal_le h
theorem rdHead_le (l : List UInt8) : ∀ (m : List T) (p : Nat) (v : V) (q : Nat), rdHead l m p = .ok v q → p ≤ q ∧ q ≤ l.length
  | [], p, v, q, h => by rw [rdHead] at h; cases h
  | u :: _, p, v, q, h => by rw [rdHead] at h; exact rdVal_le l u p v q h
end
theorem rdKind_ok (l : List UInt8) : ∀ (n p : Nat) (t : T) (q : Nat), n ≤ 4 → rdKind l n p = .ok t q → p < q ∧ q ≤ l.length ∧ chkT t (5 - n) = 0
  | 0, p, t, q, _, h => by rw [rdKind] at h; cases h
  | n + 1, p, t, q, hn, h => by
    rw [rdKind] at h
    obtain ⟨k, r, h1, h2⟩ := Rd.bind_ok h
    have hb := rdByte_ok h1
    split at h2
    · cases h2
    rename_i hk
    split at h2
    · rename_i hnk
      obtain ⟨u, s, h3, h4⟩ := Rd.bind_ok h2
      injection h4 with e1 e2
      subst e1 e2
      obtain ⟨g1, g2, g3⟩ := rdKind_ok l n r u s (by omega) h3
      refine ⟨by omega, g2, ?_⟩
      rw [chkT_eq, if_neg (by omega), if_neg, chkTs]
      · rw [show 5 - (n + 1) + 1 = 5 - n by omega]; exact g3
      · unfold badK
        rw [hnk]
        simp
        omega
    · rename_i hnk
      injection h2 with e1 e2
      subst e1 e2
      refine ⟨by omega, by omega, ?_⟩
      rw [chkT_eq, if_neg (by omega), if_neg, chkTs]
      unfold badK
      have : nestK (k : Int) = false := by simpa using hnk
      rw [this]
      simp
      omega
theorem rdCol_ok {l : List UInt8} {pre : List C} {p q : Nat} {c : C} (h : rdCol l pre p = .ok c q) : p < q ∧ q ≤ l.length ∧ nameB c.name = true ∧ (findC pre c.name).isSome = false ∧ chkT c.ty 1 = 0 ∧ (c.has = false → c.dflt = zeroV) := by
  unfold rdCol at h
  obtain ⟨n, r1, h1, h⟩ := Rd.bind_ok h
  have k1 := rdText_ok h1
  split at h
  · cases h
  rename_i a1
  split at h
  · cases h
  rename_i a2
  obtain ⟨t, r2, h2, h⟩ := Rd.bind_ok h
  have k2 := rdKind_ok l 4 _ _ _ (by omega) h2
  obtain ⟨b, r3, h3, h⟩ := Rd.bind_ok h
  have k3 := rdBit_ok h3
  split at h
  · obtain ⟨v, r4, h4, h⟩ := Rd.bind_ok h
    have k4 := rdVal_le l _ _ _ _ h4
    injection h with e1 e2
    subst e1 e2
    exact ⟨by omega, by omega, by simpa using a1, by simpa using a2, k2.2.2, fun h => by cases h⟩
  · injection h with e1 e2
    subst e1 e2
    exact ⟨by omega, by omega, by simpa using a1, by simpa using a2, k2.2.2, fun _ => rfl⟩
theorem rdCols_step {l : List UInt8} {n k p q r : Nat} {cs : List C} {c : C} (h : rdCols l n [] p = rdCols l (n - k) cs q) (hk : k < n) (hc : rdCol l cs q = .ok c r) : rdCols l n [] p = rdCols l (n - (k + 1)) (cs ++ [c]) r := by
  rw [h, show n - k = (n - (k + 1)) + 1 by omega, rdCols, hc]
  rfl
theorem rdCols_stop {l : List UInt8} {n k p q : Nat} {cs : List C} {e : Int} (h : rdCols l n [] p = rdCols l (n - k) cs q) (hk : k < n) (hc : rdCol l cs q = .no e) : rdCols l n [] p = .no e := by
  rw [h, show n - k = (n - (k + 1)) + 1 by omega, rdCols, hc]
  rfl
theorem rdCols_end {l : List UInt8} {n p q : Nat} {cs : List C} (h : rdCols l n [] p = rdCols l (n - n) cs q) : rdCols l n [] p = .ok cs q := by
  rw [h, Nat.sub_self, rdCols]
/-! ### An error is never nought -/
theorem Rd.bind_no {α β : Type} {r : Rd α} {f : α → Nat → Rd β} {e : Int} (h : r.bind f = .no e) : r = .no e ∨ ∃ a p, r = .ok a p ∧ f a p = .no e := by
  cases r with
  | ok a p => exact .inr ⟨a, p, rfl, h⟩
  | no e' => exact .inl (by simpa [Rd.bind] using h)
theorem rdByte_no {l : List UInt8} {p : Nat} {e : Int} (h : rdByte l p = .no e) : e ≠ 0 := by
  unfold rdByte at h
  split at h
  · cases h
  · cases h; decide
theorem rdBit_no {l : List UInt8} {p : Nat} {e : Int} (h : rdBit l p = .no e) : e ≠ 0 := by
  rcases Rd.bind_no h with h | ⟨a, q, h1, h2⟩
  · exact rdByte_no h
  · split at h2
    · cases h2
    · cases h2; decide
theorem rdText_no {l : List UInt8} {most p : Nat} {long e : Int} (hl : long ≠ 0) (h : rdText l most long p = .no e) : e ≠ 0 := by
  rcases Rd.bind_no h with h | ⟨a, q, h1, h2⟩
  · exact (rdNum_no h).2
  · split at h2
    · cases h2; exact hl
    split at h2
    · cases h2; decide
    · cases h2
theorem rdFloat_no {l : List UInt8} {p : Nat} {e : Int} (h : rdFloat l p = .no e) : e ≠ 0 := by
  unfold rdFloat at h
  split at h
  · cases h; decide
  split at h
  · cases h
  · cases h; decide
theorem rdScal_no {l : List UInt8} {k : Int} {p : Nat} {e : Int} (h : rdScal l k p = .no e) : e ≠ 0 := by
  unfold rdScal at h
  split at h
  · rcases Rd.bind_no h with h | ⟨a, q, h1, h2⟩
    · exact rdBit_no h
    · cases h2
  split at h
  · rcases Rd.bind_no h with h | ⟨a, q, h1, h2⟩
    · exact (rdNum_no h).2
    · cases h2
  split at h
  · rcases Rd.bind_no h with h | ⟨a, q, h1, h2⟩
    · exact rdFloat_no h
    · cases h2
  · rcases Rd.bind_no h with h | ⟨a, q, h1, h2⟩
    · exact rdText_no (by decide) h
    · split at h2
      · cases h2; decide
      · cases h2
theorem rdHow_no {l : List UInt8} {k : Int} {p : Nat} {e : Int} (h : rdHow l k p = .no e) : e ≠ 0 := by
  unfold rdHow at h
  split at h
  · exact rdBit_no h
  · rcases Rd.bind_no h with h | ⟨a, q, h1, h2⟩
    · exact (rdNum_no h).2
    · split at h2
      · cases h2; decide
      · cases h2
theorem rdMany_no {α : Type} {f : Nat → Rd α} (hf : ∀ p e, f p = .no e → e ≠ 0) : ∀ (n p : Nat) (e : Int), rdMany f n p = .no e → e ≠ 0
  | 0, p, e, h => by rw [rdMany] at h; cases h
  | n + 1, p, e, h => by
    rw [rdMany] at h
    rcases Rd.bind_no h with h | ⟨a, q, h1, h2⟩
    · exact hf _ _ h
    · rcases Rd.bind_no h2 with h | ⟨b, r, h3, h4⟩
      · exact rdMany_no hf n q e h
      · cases h4
mutual
theorem rdVal_no (l : List UInt8) : ∀ (u : T) (p : Nat) (e : Int), rdVal l u p = .no e → e ≠ 0
  | .mk k m, p, e, h => by
    rw [rdVal_eq] at h
    unfold rdBody at h
    split at h
    · rcases Rd.bind_no h with h | ⟨a, q, h1, h2⟩
      · exact rdHow_no h
      · rcases Rd.bind_no h2 with h | ⟨b, r, h3, h4⟩
        · exact rdMany_no (fun p e h => rdHead_no l m p e h) _ _ _ h
        · cases h4
    · exact rdScal_no h
theorem rdHead_no (l : List UInt8) : ∀ (m : List T) (p : Nat) (e : Int), rdHead l m p = .no e → e ≠ 0
  | [], p, e, h => by rw [rdHead] at h; cases h; decide
  | u :: _, p, e, h => by rw [rdHead] at h; exact rdVal_no l u p e h
end
theorem rdKind_no (l : List UInt8) : ∀ (n p : Nat) (e : Int), rdKind l n p = .no e → e ≠ 0
  | 0, p, e, h => by rw [rdKind] at h; cases h; decide
  | n + 1, p, e, h => by
    rw [rdKind] at h
    rcases Rd.bind_no h with h | ⟨a, q, h1, h2⟩
    · exact rdByte_no h
    · split at h2
      · cases h2; decide
      split at h2
      · rcases Rd.bind_no h2 with h | ⟨b, r, h3, h4⟩
        · exact rdKind_no l n q e h
        · cases h4
      · cases h2
theorem rdCol_no {l : List UInt8} {pre : List C} {p : Nat} {e : Int} (h : rdCol l pre p = .no e) : e ≠ 0 := by
  unfold rdCol at h
  rcases Rd.bind_no h with h | ⟨a, q, h1, h⟩
  · exact rdText_no (by decide) h
  split at h
  · cases h; decide
  split at h
  · cases h; decide
  rcases Rd.bind_no h with h | ⟨a, q, h1, h⟩
  · exact rdKind_no l _ _ _ h
  rcases Rd.bind_no h with h | ⟨a, q, h1, h⟩
  · exact rdBit_no h
  split at h
  · rcases Rd.bind_no h with h | ⟨a, q, h1, h⟩
    · exact rdVal_no l _ _ _ h
    · cases h
  · cases h
theorem rdCols_no {l : List UInt8} : ∀ (n : Nat) (pre : List C) (p : Nat) (e : Int), rdCols l n pre p = .no e → e ≠ 0
  | 0, pre, p, e, h => by rw [rdCols] at h; cases h
  | n + 1, pre, p, e, h => by
    rw [rdCols] at h
    rcases Rd.bind_no h with h | ⟨a, q, h1, h⟩
    · exact rdCol_no h
    · exact rdCols_no n _ _ _ h
theorem rdSch_no {l : List UInt8} {e : Int} (h : rdSch l = .no e) : e ≠ 0 := by
  unfold rdSch at h
  rcases Rd.bind_no h with h | ⟨a, q, h1, h⟩
  · exact (rdNum_no h).2
  split at h
  · cases h; decide
  split at h
  · cases h; decide
  rcases Rd.bind_no h with h | ⟨a, q, h1, h⟩
  · exact rdCols_no _ _ _ _ h
  split at h
  · cases h
  · cases h; decide
end Go.Proofs.YtbnfdglfakaohaaDoor
