/- Merged: AvmJ, AvmW, Ty. -/
import Derived.Test.YtfheoidnahhnlaaGreatDoorZ14
import Derived.Test.YtfheoidnahhnlaaGreatDoorProg
set_option linter.unusedVariables false
set_option linter.unusedSimpArgs false
namespace Go.Proofs.YtfheoidnahhnlaaGreatDoor
open Go.RowKit
section
variable {α : Type} {B m : List α} {id k : Nat} {x y : α}
theorem bset_app (h : id < B.length) : (B ++ m).set id x = B.set id x ++ m := List.set_append_left _ _ h
theorem bget_app (h : id < B.length) : (B.set id x ++ m)[id]? = some x := by
  rw [List.getElem?_append_left (by simpa using h), List.getElem?_set_self h]
theorem bget (h : id < B.length) : (B.set id x)[id]? = some x := List.getElem?_set_self h
theorem bown : (B.set id x ++ m)[B.length + k]? = m[k]? := by rw [List.getElem?_append_right (by simp)]; simp
theorem bown0 : (B.set id x ++ m)[B.length]? = m[0]? := by rw [List.getElem?_append_right (by simp)]; simp
theorem bsown : (B.set id x ++ m).set (B.length + k) y = B.set id x ++ m.set k y := by rw [List.set_append_right _ _ (by simp)]; simp
theorem bsown0 : (B.set id x ++ m).set B.length y = B.set id x ++ m.set 0 y := by rw [List.set_append_right _ _ (by simp)]; simp
theorem bset_app2 (h : id < B.length) : (B.set id x ++ m).set id y = B.set id y ++ m := by rw [bset_app (by simpa using h), List.set_set]
end
section
variable {st : AS} {id : Nat} {c' : List AV} {m : List (List AV)} {K k : List (Nat × Nat × Nat)} {R : AOut → AS → Prop}
theorem boxes_set (hc : ∀ x ∈ c', InB st.bx.length st.ln.length x) : BoxesOk st ⟨st.bx.set id c' ++ m, K⟩ := by
  intro i cs hi hcs
  simp only at hcs
  rw [List.getElem?_append_left (by simpa using hi), List.getElem?_set] at hcs
  split at hcs
  · split at hcs
    · obtain rfl := Option.some.inj hcs
      exact .inr hc
    · cases hcs
  · exact .inl hcs
theorem cut_set : AS.cut ⟨st.bx.set id c' ++ m, st.ln ++ k⟩ st.bx.length st.ln.length = ⟨st.bx.set id c', st.ln⟩ := by
  unfold AS.cut
  rw [List.take_left, show st.bx.length = (st.bx.set id c').length by simp, List.take_left]
theorem end_rd {v r : AV} (hc : ∀ x ∈ c', InB st.bx.length st.ln.length x) (hv : v.forget = r) (hb : InB st.bx.length st.ln.length r) (hR : R (.ret r) ⟨st.bx.set id c', st.ln⟩) : RetForm st v ⟨st.bx.set id c' ++ m, st.ln ++ k⟩ R := by
  subst hv
  exact .forget hb (boxes_set hc) (by rw [cut_set]; exact hR)
theorem end_rd1 {v r : AV} (hc : ∀ x ∈ c', InB st.bx.length st.ln.length x) (hv : v.forget = r) (hb : InB st.bx.length st.ln.length r) (hR : R (.ret r) ⟨st.bx.set id c', st.ln⟩) : RetForm st v ⟨st.bx.set id c' ++ m, st.ln⟩ R := by
  have := end_rd (m := m) (k := []) hc hv hb hR
  simpa using this
theorem end_rd0 {v r : AV} (hc : ∀ x ∈ c', InB st.bx.length st.ln.length x) (hv : v.forget = r) (hb : InB st.bx.length st.ln.length r) (hR : R (.ret r) ⟨st.bx.set id c', st.ln⟩) : RetForm st v ⟨st.bx.set id c', st.ln⟩ R := by
  have := end_rd (m := []) (k := []) hc hv hb hR
  simpa using this
theorem pan_rd {v : AV} (hc : ∀ x ∈ c', InB st.bx.length st.ln.length x) (hb : InB st.bx.length st.ln.length v) (hR : R (.panic v) ⟨st.bx.set id c', st.ln⟩) :
    InB st.bx.length st.ln.length v ∧ BoxesOk st ⟨st.bx.set id c' ++ m, st.ln ++ k⟩ ∧ R (.panic v) (AS.cut ⟨st.bx.set id c' ++ m, st.ln ++ k⟩ st.bx.length st.ln.length) :=
  ⟨hb, boxes_set hc, by rw [cut_set]; exact hR⟩
theorem pan_rd1 {v : AV} (hc : ∀ x ∈ c', InB st.bx.length st.ln.length x) (hb : InB st.bx.length st.ln.length v) (hR : R (.panic v) ⟨st.bx.set id c', st.ln⟩) :
    InB st.bx.length st.ln.length v ∧ BoxesOk st ⟨st.bx.set id c' ++ m, st.ln⟩ ∧ R (.panic v) (AS.cut ⟨st.bx.set id c' ++ m, st.ln⟩ st.bx.length st.ln.length) := by
  have := pan_rd (m := m) (k := []) hc hb hR
  simpa using this
theorem pan_rd0 {v : AV} (hc : ∀ x ∈ c', InB st.bx.length st.ln.length x) (hb : InB st.bx.length st.ln.length v) (hR : R (.panic v) ⟨st.bx.set id c', st.ln⟩) :
    InB st.bx.length st.ln.length v ∧ BoxesOk st ⟨st.bx.set id c', st.ln⟩ ∧ R (.panic v) (AS.cut ⟨st.bx.set id c', st.ln⟩ st.bx.length st.ln.length) := by
  have := pan_rd (m := []) (k := []) hc hb hR
  simpa using this
end
def WkR (R : AOut → AS → Prop) : AOut → AS → Prop := fun o st' => (∃ v, o = .panic v ∧ R o st') ∨ ∃ v v', o = .ret v ∧ Wk v v' ∧ R (.ret v') st'
theorem wkr_ret {R : AOut → AS → Prop} {v v' : AV} {st : AS} (h : Wk v v') (hR : R (.ret v') st) : WkR R (.ret v) st := .inr ⟨v, v', rfl, h, hR⟩
theorem wkr_pan {R : AOut → AS → Prop} {v : AV} {st : AS} (hR : R (.panic v) st) : WkR R (.panic v) st := .inl ⟨v, rfl, hR⟩
theorem DoesCall.weakR {P : Program} {f : FuncId} {args : List AV} {st : AS} {R : AOut → AS → Prop}
    (h : DoesCall P f args st (WkR R)) : DoesCall P f args st R :=
  fun g w vs hi ha => (h g w vs hi ha).mono fun e w' ⟨g', o, st', h1, h2, h3, h4⟩ => by
    rcases h4 with ⟨v, rfl, h4⟩ | ⟨v, v', rfl, h4, h5⟩
    · exact ⟨g', _, st', h1, h2, h3, h4⟩
    · cases h3 with
      | ret _ x hx => exact ⟨g', .ret v', st', h1, h2, .ret _ _ (h4 _ _ hx), h5⟩
def retCT (st st' : AS) (R : AOut → AS → Prop) (ws : List AV) : AV → Prop := fun v => RetForm st (.tup (v :: ws)) st' R
theorem retCT_app {st st' : AS} {R : AOut → AS → Prop} {ws : List AV} {v : AV} : retCT st st' R ws v = RetForm st (.tup (v :: ws)) st' R := no_rfl rfl
theorem endsCT {P : Program} {st st' : AS} {R : AOut → AS → Prop} {fr : AFr} {a u : Tmp} {t : TypeId} : Ends P [.cell a t, .tmp u] st R fr st' = aload (tyOf P t) (look fr.l a) st' (retCT st st' R [look fr.l u]) := no_rfl rfl
theorem endsCTT {P : Program} {st st' : AS} {R : AOut → AS → Prop} {fr : AFr} {a u v : Tmp} {t : TypeId} : Ends P [.cell a t, .tmp u, .tmp v] st R fr st' = aload (tyOf P t) (look fr.l a) st' (retCT st st' R [look fr.l u, look fr.l v]) := no_rfl rfl
theorem panic_ifc {t : TypeId} {v : AV} {st : AS} {X : AV → AS → Prop} : apanic (.ifc t v) st X = X (.ifc t v) st := no_rfl rfl
def GW (st : AS) (v : AV) : AOut → AS → Prop := fun o st' => ∃ v', o = .ret v' ∧ Wk v' v ∧ st' = st
theorem Gives.of_GW {P : Program} {f : FuncId} {args : List AV} {v : AV} (h : ∀ st, DoesCall P f args st (GW st v)) : Gives P f args v :=
  fun st => .weakR ((h st).mono fun o st' ⟨v', h1, h2, h3⟩ => .inr ⟨v', v, h1, h2, rfl, h3⟩)
theorem end_w {st : AS} {u v : AV} {l : List (List AV)} {k : List (Nat × Nat × Nat)} (hb : InB st.bx.length st.ln.length u.forget) (hw : Wk u.forget v) : RetForm st u ⟨st.bx ++ l, st.ln ++ k⟩ (GW st v) :=
  .forget hb .app ⟨_, rfl, hw, cut_app⟩
theorem end_w1 {st : AS} {u v : AV} {l : List (List AV)} (hb : InB st.bx.length st.ln.length u.forget) (hw : Wk u.forget v) : RetForm st u ⟨st.bx ++ l, st.ln⟩ (GW st v) :=
  .forget hb .app ⟨_, rfl, hw, cut_app1⟩
theorem Wk.tup3 {a a' b c : AV} (h : Wk a a') : Wk (.tup [a, b, c]) (.tup [a', b, c]) := by
  intro g x hx
  cases hx with
  | tup l y hs hh =>
    refine .tup _ y hs fun i z hz => ?_
    match i, hz with
    | 0, hz => obtain rfl := Option.some.inj hz; exact h _ _ (hh 0 _ rfl)
    | 1, hz => obtain rfl := Option.some.inj hz; exact hh 1 _ rfl
    | 2, hz => obtain rfl := Option.some.inj hz; exact hh 2 _ rfl
def rdr (o : Bool) (l : List UInt8) (p : Nat) : List AV := [.sl o .none (encB l), .s (.int .i64 p)]
theorem rdr_InB {o : Bool} {l : List UInt8} {p n m : Nat} : ∀ x ∈ rdr o l p, InB n m x := by
  intro x hx
  simp only [rdr, List.mem_cons, List.mem_nil_iff, or_false] at hx
  rcases hx with rfl | rfl
  · exact InB_none.2 trivial
  · exact .s _
inductive Rd (α : Type) where
  | ok (a : α) (p : Nat)
  | no (e : Int)
def RdCall {α : Type} (P : Program) (T : TypeId) (f : FuncId) (args : List AV) (l : List UInt8) (p : Nat) (r : Rd α) (enc : α → AV) : Prop :=
  ∀ (st : AS) (id : Nat) (o : Bool) (R : AOut → AS → Prop), st.bx[id]? = some (rdr o l p) → (∀ a q, r = .ok a q → R (.ret (enc a)) ⟨st.bx.set id (rdr o l q), st.ln⟩) →
    (∀ e q, r = .no e → R (.panic (.ifc T (.agg [.s (.int .i64 e)]))) ⟨st.bx.set id (rdr o l q), st.ln⟩) → DoesCall P f (.bp id 0 :: args) st R
theorem wrong_InB {n m : Nat} {T : TypeId} {e : Int} : InB n m (.ifc T (.agg [.s (.int .i64 e)])) := by simp [InB_ifc, InB_agg, InB_s]
def ordS (P : Program) (ops : Array Oper) (X : AV → AS → Prop) (N : AFr → AS → Prop) (S : AS → Prop) : List (Bool × Bool) → List Oper → AFr → AS → Prop
  | [], [], fr, st => N fr st
  | (true, _) :: fl, o :: os, fr, st => S st ∧ awant (wantB ops fr o) (∃ v, (∀ s, S s → afree P fr.eval o.op o.type s (fun u => u = v)) ∧ ordS P ops X N S fl os (fr.put o.dst v) st) (ordS P ops X N S fl os (fr.put o.dst .und) st)
  | (false, late) :: fl, o :: os, fr, st => awant (wantB ops fr o) (aexec P fr.eval o.op o.type st (fun v st' => (late = false → S st') ∧ ordS P ops X N S fl os (fr.put o.dst v) st') X) ((late = false → S st) ∧ ordS P ops X N S fl os (fr.put o.dst .und) st)
  | _, _, _, _ => False
theorem ordS_ord {P : Program} {l : List Oper} {X : AV → AS → Prop} {N : AFr → AS → Prop} {S : AS → Prop} (all : List Nat) : ∀ (fl : List (Bool × Bool)) (os : List Oper) (k : Nat) (fr : AFr) (st : AS), (∀ j, os[j]? = l[k + j]?) → (∀ i, k ≤ i → (i ∈ all ↔ i ∈ lates k fl)) →
    ordS P l.toArray X N S fl os fr st → aord P l.toArray X N S all (orders k fl) fr st
  | [], [], k, fr, st, _, _, h => h
  | (true, lt) :: fl, o :: os, k, fr, st, hl, ha, h => by
    obtain ⟨h1, h2⟩ := h
    have ho : l.toArray[k]? = some o := by have := hl 0; simpa using this.symm
    have hl' : ∀ j, os[j]? = l[k + 1 + j]? := fun j => by have := hl (j + 1); simpa [Nat.add_assoc, Nat.add_comm 1 j] using this
    have ha' : ∀ i, k + 1 ≤ i → (i ∈ all ↔ i ∈ lates (k + 1) fl) := fun i hi => by
      have := ha i (by omega)
      rw [this]
      cases lt with
      | true => simp only [lates, List.mem_cons]; constructor
                · rintro (h | h)
                  · omega
                  · exact h
                · exact .inr
      | false => rfl
    refine ⟨h1, o, ?_⟩
    unfold awant at h2
    split at h2
    · rename_i t ht
      cases t with
      | true =>
        obtain ⟨v, k1, k2⟩ := h2.1 rfl
        refine ⟨v, ho, .inl ⟨ht, fun s J X' hs hj => ?_⟩, ordS_ord all fl os (k + 1) _ _ hl' ha' k2⟩
        obtain ⟨u, q1, q2⟩ := afree_yields (k1 s hs)
        subst q1
        exact q2 J X' hj
      | false => exact ⟨.und, ho, .inr ⟨ht, rfl⟩, ordS_ord all fl os (k + 1) _ _ hl' ha' (h2.2 rfl)⟩
    · exact h2.elim
  | (false, lt) :: fl, o :: os, k, fr, st, hl, ha, h => by
    have ho : l.toArray[k]? = some o := by have := hl 0; simpa using this.symm
    have hl' : ∀ j, os[j]? = l[k + 1 + j]? := fun j => by have := hl (j + 1); simpa [Nat.add_assoc, Nat.add_comm 1 j] using this
    have ha' : ∀ i, k + 1 ≤ i → (i ∈ all ↔ i ∈ lates (k + 1) fl) := fun i hi => by
      have := ha i (by omega)
      rw [this]
      cases lt with
      | true => simp only [lates, List.mem_cons]; constructor
                · rintro (h | h)
                  · omega
                  · exact h
                · exact .inr
      | false => rfl
    have hlate : k ∉ all → lt = false := fun hk => by
      cases lt with
      | true => exact absurd ((ha k (Nat.le_refl _)).2 (by simp [lates])) hk
      | false => rfl
    have go : ∀ fr' st', ((lt = false → S st') ∧ ordS P l.toArray X N S fl os fr' st') → (k ∉ all → S st') ∧ ((k ∉ all → S st') → aord P l.toArray X N S all (orders (k + 1) fl) fr' st') := fun fr' st' ⟨q1, q2⟩ =>
      ⟨fun hk => q1 (hlate hk), fun _ => ordS_ord all fl os (k + 1) fr' st' hl' ha' q2⟩
    unfold ordS at h
    show aopX P l.toArray X k _ fr st
    unfold aopX
    simp only [ho]
    unfold awant at h ⊢
    split at h
    · exact ⟨fun e => aexec_mono (fun v s hv => go _ _ hv) (fun _ _ h => h) (h.1 e), fun e => go _ _ (h.2 e)⟩
    · exact h.elim
  | [], _ :: _, k, fr, st, _, _, h => by simp [ordS] at h
  | (true, _) :: _, [], k, fr, st, _, _, h => by simp [ordS] at h
  | (false, _) :: _, [], k, fr, st, _, _, h => by simp [ordS] at h
theorem drawS {P : Program} {l : List Oper} {X : AV → AS → Prop} {N : AFr → AS → Prop} {fr : AFr} {st : AS} (S : AS → Prop) (fl : List (Bool × Bool)) (hm : P.follows .mixedOrders = true)
    (hB : (Region.noSelect l.toArray && (orders 0 fl).length == l.toArray.size && ordC .any l.toArray (lates 0 fl) (orders 0 fl) (Array.replicate l.toArray.size false)) = true)
    (h : ordS P l.toArray X N S fl l fr st) : ADraw P l.toArray X N fr st :=
  ADraw.of_ord (S := S) (lates 0 fl) (orders 0 fl) hm hB (ordS_ord (lates 0 fl) fl l 0 fr st (fun j => by simp) (fun i _ => .rfl) h)
section
variable {P : Program} {ops : Array Oper} {X : AV → AS → Prop} {N : AFr → AS → Prop} {S : AS → Prop} {st : AS} {fr : AFr} {ty : TypeId}
def ordSK (P : Program) (ops : Array Oper) (X : AV → AS → Prop) (N : AFr → AS → Prop) (S : AS → Prop) (late : Bool) (fl : List (Bool × Bool)) (os : List Oper) (fr : AFr) (dst : Option Tmp) : AV → AS → Prop := fun v st => (late = false → S st) ∧ ordS P ops X N S fl os (fr.put dst v) st
theorem ordSK_not {fl : List (Bool × Bool)} {os : List Oper} {dst : Option Tmp} {v : AV} : ordSK P ops X N S false fl os fr dst v st = (S st ∧ ordS P ops X N S fl os (fr.put dst v) st) := by simp [ordSK]
theorem ordSK_late {fl : List (Bool × Bool)} {os : List Oper} {dst : Option Tmp} {v : AV} : ordSK P ops X N S true fl os fr dst v st = ordS P ops X N S fl os (fr.put dst v) st := by simp [ordSK]
theorem ordS_nil : ordS P ops X N S [] [] fr st = N fr st := no_rfl rfl
theorem ordS_solo {b : Bool} {fl : List (Bool × Bool)} {dst : Option Tmp} {op : Op} {pos : String} {after : Array Edge} {os : List Oper} : ordS P ops X N S ((false, b) :: fl) (⟨dst, op, ty, pos, after, none⟩ :: os) fr st =
    aexec P fr.eval op ty st (ordSK P ops X N S b fl os fr dst) X :=
  propext ⟨fun h => h.1 rfl, fun h => ⟨fun _ => h, fun e => by cases e⟩⟩
theorem ordS_free {b : Bool} {fl : List (Bool × Bool)} {dst : Option Tmp} {op : Op} {pos : String} {after : Array Edge} {os : List Oper} (v : AV) (hS : S st) (h : ∀ s, S s → afree P fr.eval op ty s (fun u => u = v)) (k : ordS P ops X N S fl os (fr.put dst v) st) :
    ordS P ops X N S ((true, b) :: fl) (⟨dst, op, ty, pos, after, none⟩ :: os) fr st := ⟨hS, fun _ => ⟨v, h, k⟩, fun e => by cases e⟩
end
def AtSome (B : List (List AV)) (id : Nat) (o : Bool) (l : List UInt8) (m : List (List AV)) (ln : List (Nat × Nat × Nat)) : AS → Prop := fun s => ∃ q, s = ⟨B.set id (rdr o l q) ++ m, ln⟩
theorem cut_len {st : AS} {n m : Nat} (h1 : st.bx.length = n) (h2 : st.ln.length = m) : st.cut n m = st := by
  subst h1 h2
  exact cut_same
theorem cut_to2 {B l' m : List (List AV)} {K' : List (Nat × Nat × Nat)} {n k : Nat} (h1 : (B ++ l').length = n) (h2 : K'.length = k) : AS.cut ⟨B ++ (l' ++ m), K'⟩ n k = ⟨B ++ l', K'⟩ := by
  subst h1 h2
  unfold AS.cut
  rw [List.take_length, ← List.append_assoc, List.take_left]
theorem boxes_as0 {S l l' : List (List AV)} {K K' : List (Nat × Nat × Nat)} (hl : l'.length = l.length) (h : ∀ (i : Nat) c, l'[i]? = some c → l[i]? = some c ∨ ∀ x ∈ c, InB (S ++ l).length K.length x) : BoxesOk ⟨S ++ l, K⟩ ⟨S ++ l', K'⟩ := by
  have := boxes_as (m := []) (K' := K') hl h
  rwa [List.append_nil] at this
theorem boxes_rd {B l l' m : List (List AV)} {x x' : List AV} {id : Nat} {K K' : List (Nat × Nat × Nat)} (hl : l'.length = l.length) (hx : ∀ c ∈ x', InB (B.set id x ++ l).length K.length c)
    (h : ∀ (i : Nat) c, l'[i]? = some c → l[i]? = some c ∨ ∀ y ∈ c, InB (B.set id x ++ l).length K.length y) : BoxesOk ⟨B.set id x ++ l, K⟩ ⟨B.set id x' ++ (l' ++ m), K'⟩ := by
  intro i cs hi hc
  simp only at hi hc ⊢
  rcases Nat.lt_or_ge i B.length with hlt | hge
  · rw [List.getElem?_append_left (by simpa using hlt), List.getElem?_set] at hc
    rw [List.getElem?_append_left (by simpa using hlt), List.getElem?_set]
    split at hc
    · rename_i he
      rw [if_pos (he ▸ hlt)] at hc
      obtain rfl := Option.some.inj hc
      exact .inr hx
    · rename_i he
      rw [if_neg he]
      exact .inl hc
  · rw [List.getElem?_append_right (by simpa using hge)] at hc
    rw [List.getElem?_append_right (by simpa using hge)]
    simp only [List.length_set] at hc hi ⊢
    have hil : i - B.length < l'.length := by simp at hi; omega
    rw [List.getElem?_append_left hil] at hc
    exact h _ _ hc
theorem boxes_rd0 {B l l' : List (List AV)} {x x' : List AV} {id : Nat} {K K' : List (Nat × Nat × Nat)} (hl : l'.length = l.length) (hx : ∀ c ∈ x', InB (B.set id x ++ l).length K.length c)
    (h : ∀ (i : Nat) c, l'[i]? = some c → l[i]? = some c ∨ ∀ y ∈ c, InB (B.set id x ++ l).length K.length y) : BoxesOk ⟨B.set id x ++ l, K⟩ ⟨B.set id x' ++ l', K'⟩ := by
  have := boxes_rd (m := []) (K' := K') hl hx h
  rwa [List.append_nil] at this
end Go.Proofs.YtfheoidnahhnlaaGreatDoor
set_option linter.unusedVariables false
set_option linter.unusedSimpArgs false
namespace Go.Proofs.YtfheoidnahhnlaaGreatDoor
open Go.RowKit
def BxIs (B : List (List AV)) : AS → Prop := fun s => s.bx = B
theorem bxIs_self {st : AS} : BxIs st.bx st = True := by simp [BxIs]
theorem bxIs_mk {B : List (List AV)} {L : List (Nat × Nat × Nat)} : BxIs B ⟨B, L⟩ = True := by simp [BxIs]
def wrt (m : Nat) (l : List UInt8) : List AV := [.sl true (.lin m) (encB l)]
theorem wrt_InB {m n k : Nat} {l : List UInt8} (h : m < k) : ∀ x ∈ wrt m l, InB n k x := by
  intro x hx
  obtain rfl := List.mem_singleton.1 hx
  exact InB_lin.2 h
def WrCall (P : Program) (e : Nat) (f : FuncId) (args : List AV) (out : List UInt8) : Prop :=
  ∀ (st : AS) (id m : Nat) (l : List UInt8) (R : AOut → AS → Prop), st.bx[id]? = some (wrt m l) → st.ln[m]? = some (l.length, e, 1) → l.length + out.length ≤ 140737488355328 →
    R (.ret (.tup [])) ⟨st.bx.set id (wrt m (l ++ out)), st.ln.set m ((l ++ out).length, e, 1)⟩ → DoesCall P f (.bp id 0 :: args) st R
theorem cut_wr {st : AS} {id m : Nat} {c : List AV} {y : Nat × Nat × Nat} {r : List (List AV)} {k : List (Nat × Nat × Nat)} : AS.cut ⟨st.bx.set id c ++ r, st.ln.set m y ++ k⟩ st.bx.length st.ln.length = ⟨st.bx.set id c, st.ln.set m y⟩ := by
  simp only [AS.cut]
  rw [List.take_append_of_le_length (by simp), List.take_append_of_le_length (by simp), List.take_of_length_le (by simp), List.take_of_length_le (by simp)]
theorem boxes_setW {st : AS} {id : Nat} {c : List AV} {r : List (List AV)} {K : List (Nat × Nat × Nat)} (hc : ∀ x ∈ c, InB st.bx.length st.ln.length x) : BoxesOk st ⟨st.bx.set id c ++ r, K⟩ := boxes_set hc
theorem end_wr {st : AS} {id m n : Nat} {l : List UInt8} {e : Nat} {r : List (List AV)} {k : List (Nat × Nat × Nat)} {R : AOut → AS → Prop} (hm : m < st.ln.length) (hR : R (.ret (.tup [])) ⟨st.bx.set id (wrt m l), st.ln.set m (n, e, 1)⟩) :
    RetForm st (.tup []) ⟨st.bx.set id (wrt m l) ++ r, st.ln.set m (n, e, 1) ++ k⟩ R :=
  .forget (by simp [AV.forget, InB_tup]) (boxes_setW (wrt_InB hm)) (by rw [cut_wr]; exact hR)
theorem end_wr1 {st : AS} {id m n : Nat} {l : List UInt8} {e : Nat} {r : List (List AV)} {R : AOut → AS → Prop} (hm : m < st.ln.length) (hR : R (.ret (.tup [])) ⟨st.bx.set id (wrt m l), st.ln.set m (n, e, 1)⟩) :
    RetForm st (.tup []) ⟨st.bx.set id (wrt m l) ++ r, st.ln.set m (n, e, 1)⟩ R := by
  have := end_wr (r := r) (k := []) hm hR
  simpa using this
theorem end_wr0 {st : AS} {id m n : Nat} {l : List UInt8} {e : Nat} {R : AOut → AS → Prop} (hm : m < st.ln.length) (hR : R (.ret (.tup [])) ⟨st.bx.set id (wrt m l), st.ln.set m (n, e, 1)⟩) :
    RetForm st (.tup []) ⟨st.bx.set id (wrt m l), st.ln.set m (n, e, 1)⟩ R := by
  have := end_wr (r := []) (k := []) hm hR
  simpa using this
end Go.Proofs.YtfheoidnahhnlaaGreatDoor
set_option linter.unusedVariables false
namespace Go.Proofs.YtfheoidnahhnlaaGreatDoor
theorem ty2 : tyOf Tryz.prog 2 = some ⟨1, false, .s (.int .i64 0), .int .i64⟩ := by kernel_rfl
theorem ty3 : tyOf Tryz.prog 3 = some ⟨1, false, .s (.int .i64 0), .int .i64⟩ := by kernel_rfl
theorem ty4 : tyOf Tryz.prog 4 = some ⟨1, false, .s (.bool false), .other⟩ := by kernel_rfl
theorem ty5 : tyOf Tryz.prog 5 = some ⟨1, false, .s (.int .u8 0), .int .u8⟩ := by kernel_rfl
theorem ty6 : tyOf Tryz.prog 6 = some ⟨1, false, .s (.int .u8 0), .int .u8⟩ := by kernel_rfl
theorem ty7 : tyOf Tryz.prog 7 = some ⟨4, true, .agg [.s (.int .i64 0), .s (.int .i64 0), .s (.bool false), .s (.int .u8 0)], .struct [(0, 1, some false), (1, 1, some false), (2, 1, some false), (3, 1, some false)]⟩ := by kernel_rfl
theorem ty8 : tyOf Tryz.prog 8 = some ⟨4, true, .agg [.s (.int .i64 0), .s (.int .i64 0), .s (.bool false), .s (.int .u8 0)], .struct [(0, 1, some false), (1, 1, some false), (2, 1, some false), (3, 1, some false)]⟩ := by kernel_rfl
theorem ty9 : tyOf Tryz.prog 9 = some ⟨1, false, .s (.string ⟨#[]⟩), .string⟩ := by kernel_rfl
theorem ty10 : tyOf Tryz.prog 10 = some ⟨1, false, .s (.string ⟨#[]⟩), .string⟩ := by kernel_rfl
theorem ty11 : tyOf Tryz.prog 11 = some ⟨1, false, .s (.string ⟨#[]⟩), .string⟩ := by kernel_rfl
theorem ty12 : tyOf Tryz.prog 12 = some ⟨1, false, .s (.int .u64 0), .int .u64⟩ := by kernel_rfl
theorem ty13 : tyOf Tryz.prog 13 = some ⟨2, true, .agg [.s (.string ⟨#[]⟩), .s (.int .u64 0)], .struct [(0, 1, some false), (1, 1, some false)]⟩ := by kernel_rfl
theorem ty14 : tyOf Tryz.prog 14 = some ⟨2, true, .agg [.s (.string ⟨#[]⟩), .s (.int .u64 0)], .struct [(0, 1, some false), (1, 1, some false)]⟩ := by kernel_rfl
theorem ty15 : tyOf Tryz.prog 15 = some ⟨1, false, .s (.pointer none), .other⟩ := by kernel_rfl
theorem ty16 : tyOf Tryz.prog 16 = some ⟨1, false, .s (.pointer none), .other⟩ := by kernel_rfl
theorem ty17 : tyOf Tryz.prog 17 = some ⟨1, false, .s (.pointer none), .other⟩ := by kernel_rfl
theorem ty18 : tyOf Tryz.prog 18 = some ⟨1, true, .agg [.s (.pointer none)], .struct [(0, 1, some false)]⟩ := by kernel_rfl
theorem ty19 : tyOf Tryz.prog 19 = some ⟨1, true, .agg [.s (.pointer none)], .struct [(0, 1, some false)]⟩ := by kernel_rfl
theorem ty20 : tyOf Tryz.prog 20 = some ⟨1, false, .s (.nilIface), .iface⟩ := by kernel_rfl
theorem ty21 : tyOf Tryz.prog 21 = some ⟨1, false, .s (.int .i32 0), .int .i32⟩ := by kernel_rfl
theorem ty22 : tyOf Tryz.prog 22 = some ⟨1, false, .s (.slice none 0 0), .slice 74 9 120⟩ := by kernel_rfl
theorem ty23 : tyOf Tryz.prog 23 = some ⟨1, true, .agg [.s (.slice none 0 0)], .struct [(0, 1, some false)]⟩ := by kernel_rfl
theorem ty24 : tyOf Tryz.prog 24 = some ⟨1, true, .agg [.s (.slice none 0 0)], .struct [(0, 1, some false)]⟩ := by kernel_rfl
theorem ty25 : tyOf Tryz.prog 25 = some ⟨1, false, .s (.slice none 0 0), .slice 41 1 24⟩ := by kernel_rfl
theorem ty26 : tyOf Tryz.prog 26 = some ⟨1, false, .s (.int .i64 0), .int .i64⟩ := by kernel_rfl
theorem ty29 : tyOf Tryz.prog 29 = some ⟨1, false, .s (.slice none 0 0), .slice 5 1 1⟩ := by kernel_rfl
theorem ty39 : tyOf Tryz.prog 39 = some ⟨1, false, .s (.slice none 0 0), .slice 44 5 64⟩ := by kernel_rfl
theorem ty40 : tyOf Tryz.prog 40 = some ⟨1, true, .agg [.s (.slice none 0 0)], .struct [(0, 1, some false)]⟩ := by kernel_rfl
theorem ty41 : tyOf Tryz.prog 41 = some ⟨1, true, .agg [.s (.slice none 0 0)], .struct [(0, 1, some false)]⟩ := by kernel_rfl
theorem ty42 : tyOf Tryz.prog 42 = some ⟨1, false, .s (.float .f64 0), .other⟩ := by kernel_rfl
theorem ty43 : tyOf Tryz.prog 43 = some ⟨5, true, .agg [.s (.int .i64 0), .s (.int .i64 0), .s (.float .f64 0), .s (.string ⟨#[]⟩), .s (.slice none 0 0)], .struct [(0, 1, some false), (1, 1, some false), (2, 1, some false), (3, 1, some false), (4, 1, some false)]⟩ := by kernel_rfl
theorem ty44 : tyOf Tryz.prog 44 = some ⟨5, true, .agg [.s (.int .i64 0), .s (.int .i64 0), .s (.float .f64 0), .s (.string ⟨#[]⟩), .s (.slice none 0 0)], .struct [(0, 1, some false), (1, 1, some false), (2, 1, some false), (3, 1, some false), (4, 1, some false)]⟩ := by kernel_rfl
theorem ty49 : tyOf Tryz.prog 49 = some ⟨1, false, .any, .other⟩ := by kernel_rfl
theorem ty53 : tyOf Tryz.prog 53 = some ⟨1, false, .s (.int .u64 0), .int .u64⟩ := by kernel_rfl
theorem ty61 : tyOf Tryz.prog 61 = some ⟨1, false, .s (.pointer none), .other⟩ := by kernel_rfl
theorem ty62 : tyOf Tryz.prog 62 = some ⟨1, false, .s (.map none), .other⟩ := by kernel_rfl
theorem ty63 : tyOf Tryz.prog 63 = some ⟨4, true, .agg [.s (.int .u8 0), .s (.int .u8 0), .s (.int .u8 0), .s (.int .u8 0)], .array 4 1 (some false)⟩ := by kernel_rfl
theorem ty66 : tyOf Tryz.prog 66 = some ⟨1, false, .s (.slice none 0 0), .slice 3 1 8⟩ := by kernel_rfl
theorem ty70 : tyOf Tryz.prog 70 = some ⟨1, false, .s (.slice none 0 0), .slice 72 2 32⟩ := by kernel_rfl
theorem ty71 : tyOf Tryz.prog 71 = some ⟨2, true, .agg [.s (.int .i64 0), .s (.slice none 0 0)], .struct [(0, 1, some false), (1, 1, some false)]⟩ := by kernel_rfl
theorem ty72 : tyOf Tryz.prog 72 = some ⟨2, true, .agg [.s (.int .i64 0), .s (.slice none 0 0)], .struct [(0, 1, some false), (1, 1, some false)]⟩ := by kernel_rfl
theorem ty73 : tyOf Tryz.prog 73 = some ⟨9, true, .agg [.s (.string ⟨#[]⟩), .s (.int .i64 0), .s (.slice none 0 0), .s (.bool false), .s (.int .i64 0), .s (.int .i64 0), .s (.float .f64 0), .s (.string ⟨#[]⟩), .s (.slice none 0 0)], .struct [(0, 1, some false), (1, 2, some true), (3, 1, some false), (4, 5, some true)]⟩ := by kernel_rfl
theorem ty74 : tyOf Tryz.prog 74 = some ⟨9, true, .agg [.s (.string ⟨#[]⟩), .s (.int .i64 0), .s (.slice none 0 0), .s (.bool false), .s (.int .i64 0), .s (.int .i64 0), .s (.float .f64 0), .s (.string ⟨#[]⟩), .s (.slice none 0 0)], .struct [(0, 1, some false), (1, 2, some true), (3, 1, some false), (4, 5, some true)]⟩ := by kernel_rfl
theorem ty79 : tyOf Tryz.prog 79 = some ⟨1, false, .any, .other⟩ := by kernel_rfl
theorem ty84 : tyOf Tryz.prog 84 = some ⟨1, false, .s (.map none), .other⟩ := by kernel_rfl
theorem ty90 : tyOf Tryz.prog 90 = some ⟨1, false, .s (.pointer none), .other⟩ := by kernel_rfl
theorem ty91 : tyOf Tryz.prog 91 = some ⟨2, true, .agg [.s (.slice none 0 0), .s (.int .i64 0)], .struct [(0, 1, some false), (1, 1, some false)]⟩ := by kernel_rfl
theorem ty92 : tyOf Tryz.prog 92 = some ⟨2, true, .agg [.s (.slice none 0 0), .s (.int .i64 0)], .struct [(0, 1, some false), (1, 1, some false)]⟩ := by kernel_rfl
theorem ty101 : tyOf Tryz.prog 101 = some ⟨1, false, .s (.int .u64 0), .int .u64⟩ := by kernel_rfl
theorem ty116 : tyOf Tryz.prog 116 = some ⟨1, true, .agg [.s (.int .i64 0)], .struct [(0, 1, some false)]⟩ := by kernel_rfl
theorem ty117 : tyOf Tryz.prog 117 = some ⟨1, true, .agg [.s (.int .i64 0)], .struct [(0, 1, some false)]⟩ := by kernel_rfl
theorem ty118 : tyOf Tryz.prog 118 = some ⟨1, false, .any, .other⟩ := by kernel_rfl
theorem ty136 : tyOf Tryz.prog 136 = some ⟨1, false, .s (.pointer none), .other⟩ := by kernel_rfl
theorem ty137 : tyOf Tryz.prog 137 = some ⟨1, true, .agg [.s (.slice none 0 0)], .struct [(0, 1, some false)]⟩ := by kernel_rfl
theorem ty138 : tyOf Tryz.prog 138 = some ⟨1, true, .agg [.s (.slice none 0 0)], .struct [(0, 1, some false)]⟩ := by kernel_rfl
theorem ty146 : tyOf Tryz.prog 146 = some ⟨8, true, .agg [.s (.nilFunc), .s (.nilFunc), .s (.nilFunc), .s (.nilFunc), .s (.nilFunc), .s (.nilFunc), .s (.nilFunc), .s (.nilFunc)], .array 8 1 (some false)⟩ := by kernel_rfl
theorem ty149 : tyOf Tryz.prog 149 = some ⟨2, true, .agg [.s (.int .u8 0), .s (.int .u8 0)], .struct [(0, 1, some false), (1, 1, some false)]⟩ := by kernel_rfl
theorem ty150 : tyOf Tryz.prog 150 = some ⟨2, true, .agg [.s (.int .u8 0), .s (.int .u8 0)], .struct [(0, 1, some false), (1, 1, some false)]⟩ := by kernel_rfl
theorem ty151 : tyOf Tryz.prog 151 = some ⟨32, true, .agg [.s (.int .u8 0), .s (.int .u8 0), .s (.int .u8 0), .s (.int .u8 0), .s (.int .u8 0), .s (.int .u8 0), .s (.int .u8 0), .s (.int .u8 0), .s (.int .u8 0), .s (.int .u8 0), .s (.int .u8 0), .s (.int .u8 0), .s (.int .u8 0), .s (.int .u8 0), .s (.int .u8 0), .s (.int .u8 0), .s (.int .u8 0), .s (.int .u8 0), .s (.int .u8 0), .s (.int .u8 0), .s (.int .u8 0), .s (.int .u8 0), .s (.int .u8 0), .s (.int .u8 0), .s (.int .u8 0), .s (.int .u8 0), .s (.int .u8 0), .s (.int .u8 0), .s (.int .u8 0), .s (.int .u8 0), .s (.int .u8 0), .s (.int .u8 0)], .array 16 2 (some true)⟩ := by kernel_rfl
theorem ty154 : tyOf Tryz.prog 154 = some ⟨4, true, .agg [.s (.pointer none), .s (.pointer none), .s (.pointer none), .s (.string ⟨#[]⟩)], .struct [(0, 1, some false), (1, 1, some false), (2, 1, some false), (3, 1, some false)]⟩ := by kernel_rfl
theorem ty155 : tyOf Tryz.prog 155 = some ⟨4, true, .agg [.s (.pointer none), .s (.pointer none), .s (.pointer none), .s (.string ⟨#[]⟩)], .struct [(0, 1, some false), (1, 1, some false), (2, 1, some false), (3, 1, some false)]⟩ := by kernel_rfl
theorem ty159 : tyOf Tryz.prog 159 = some ⟨1, false, .s (.int .u32 0), .int .u32⟩ := by kernel_rfl
theorem ty160 : tyOf Tryz.prog 160 = some ⟨1, false, .s (.int .u8 0), .int .u8⟩ := by kernel_rfl
theorem ty161 : tyOf Tryz.prog 161 = some ⟨1, false, .s (.int .u8 0), .int .u8⟩ := by kernel_rfl
theorem ty163 : tyOf Tryz.prog 163 = some ⟨1, false, .s (.pointer none), .other⟩ := by kernel_rfl
theorem ty164 : tyOf Tryz.prog 164 = some ⟨1, false, .s (.int .i32 0), .int .i32⟩ := by kernel_rfl
theorem ty165 : tyOf Tryz.prog 165 = some ⟨1, false, .s (.int .i32 0), .int .i32⟩ := by kernel_rfl
theorem ty166 : tyOf Tryz.prog 166 = some ⟨11, true, .agg [.s (.int .u64 0), .s (.int .u64 0), .s (.int .u32 0), .s (.int .u8 0), .s (.int .u8 0), .s (.int .u8 0), .s (.int .u8 0), .s (.nilFunc), .s (.pointer none), .s (.int .i32 0), .s (.int .i32 0)], .struct [(0, 1, some false), (1, 1, some false), (2, 1, some false), (3, 1, some false), (4, 1, some false), (5, 1, some false), (6, 1, some false), (7, 1, some false), (8, 1, some false), (9, 1, some false), (10, 1, some false)]⟩ := by kernel_rfl
theorem ty167 : tyOf Tryz.prog 167 = some ⟨11, true, .agg [.s (.int .u64 0), .s (.int .u64 0), .s (.int .u32 0), .s (.int .u8 0), .s (.int .u8 0), .s (.int .u8 0), .s (.int .u8 0), .s (.nilFunc), .s (.pointer none), .s (.int .i32 0), .s (.int .i32 0)], .struct [(0, 1, some false), (1, 1, some false), (2, 1, some false), (3, 1, some false), (4, 1, some false), (5, 1, some false), (6, 1, some false), (7, 1, some false), (8, 1, some false), (9, 1, some false), (10, 1, some false)]⟩ := by kernel_rfl
theorem ty168 : tyOf Tryz.prog 168 = some ⟨1, false, .s (.pointer none), .other⟩ := by kernel_rfl
theorem hb0 : hasBody Tryz.prog 0 = false := by kernel_rfl
theorem hb1 : hasBody Tryz.prog 1 = false := by kernel_rfl
theorem hb2 : hasBody Tryz.prog 2 = true := by kernel_rfl
theorem hb3 : hasBody Tryz.prog 3 = true := by kernel_rfl
theorem hb4 : hasBody Tryz.prog 4 = true := by kernel_rfl
theorem hb5 : hasBody Tryz.prog 5 = true := by kernel_rfl
theorem hb6 : hasBody Tryz.prog 6 = true := by kernel_rfl
theorem hb7 : hasBody Tryz.prog 7 = true := by kernel_rfl
theorem hb8 : hasBody Tryz.prog 8 = true := by kernel_rfl
theorem hb9 : hasBody Tryz.prog 9 = true := by kernel_rfl
theorem hb10 : hasBody Tryz.prog 10 = true := by kernel_rfl
theorem hb11 : hasBody Tryz.prog 11 = true := by kernel_rfl
theorem hb12 : hasBody Tryz.prog 12 = true := by kernel_rfl
theorem hb13 : hasBody Tryz.prog 13 = true := by kernel_rfl
theorem hb14 : hasBody Tryz.prog 14 = true := by kernel_rfl
theorem hb15 : hasBody Tryz.prog 15 = true := by kernel_rfl
theorem hb16 : hasBody Tryz.prog 16 = true := by kernel_rfl
theorem hb17 : hasBody Tryz.prog 17 = true := by kernel_rfl
theorem hb18 : hasBody Tryz.prog 18 = true := by kernel_rfl
theorem hb19 : hasBody Tryz.prog 19 = true := by kernel_rfl
theorem hb20 : hasBody Tryz.prog 20 = true := by kernel_rfl
theorem hb21 : hasBody Tryz.prog 21 = true := by kernel_rfl
theorem hb22 : hasBody Tryz.prog 22 = true := by kernel_rfl
theorem hb23 : hasBody Tryz.prog 23 = true := by kernel_rfl
theorem hb24 : hasBody Tryz.prog 24 = true := by kernel_rfl
theorem hb25 : hasBody Tryz.prog 25 = true := by kernel_rfl
theorem hb26 : hasBody Tryz.prog 26 = true := by kernel_rfl
theorem hb27 : hasBody Tryz.prog 27 = true := by kernel_rfl
theorem hb28 : hasBody Tryz.prog 28 = true := by kernel_rfl
theorem hb29 : hasBody Tryz.prog 29 = true := by kernel_rfl
theorem hb30 : hasBody Tryz.prog 30 = true := by kernel_rfl
theorem hb31 : hasBody Tryz.prog 31 = true := by kernel_rfl
theorem hb32 : hasBody Tryz.prog 32 = true := by kernel_rfl
theorem hb33 : hasBody Tryz.prog 33 = true := by kernel_rfl
theorem hb34 : hasBody Tryz.prog 34 = true := by kernel_rfl
theorem hb35 : hasBody Tryz.prog 35 = true := by kernel_rfl
theorem hb36 : hasBody Tryz.prog 36 = true := by kernel_rfl
theorem hb37 : hasBody Tryz.prog 37 = true := by kernel_rfl
theorem hb38 : hasBody Tryz.prog 38 = true := by kernel_rfl
theorem hb39 : hasBody Tryz.prog 39 = true := by kernel_rfl
theorem hb40 : hasBody Tryz.prog 40 = true := by kernel_rfl
theorem hb41 : hasBody Tryz.prog 41 = true := by kernel_rfl
theorem hb42 : hasBody Tryz.prog 42 = true := by kernel_rfl
theorem hb43 : hasBody Tryz.prog 43 = true := by kernel_rfl
theorem hb44 : hasBody Tryz.prog 44 = true := by kernel_rfl
theorem hb45 : hasBody Tryz.prog 45 = true := by kernel_rfl
theorem hb46 : hasBody Tryz.prog 46 = true := by kernel_rfl
theorem hb47 : hasBody Tryz.prog 47 = true := by kernel_rfl
theorem hb48 : hasBody Tryz.prog 48 = true := by kernel_rfl
theorem hb49 : hasBody Tryz.prog 49 = true := by kernel_rfl
theorem hb50 : hasBody Tryz.prog 50 = true := by kernel_rfl
theorem hb51 : hasBody Tryz.prog 51 = true := by kernel_rfl
theorem hb52 : hasBody Tryz.prog 52 = false := by kernel_rfl
theorem hb53 : hasBody Tryz.prog 53 = true := by kernel_rfl
theorem hb54 : hasBody Tryz.prog 54 = true := by kernel_rfl
theorem hb55 : hasBody Tryz.prog 55 = true := by kernel_rfl
theorem hb56 : hasBody Tryz.prog 56 = true := by kernel_rfl
theorem hb57 : hasBody Tryz.prog 57 = true := by kernel_rfl
theorem hb58 : hasBody Tryz.prog 58 = true := by kernel_rfl
theorem hb59 : hasBody Tryz.prog 59 = true := by kernel_rfl
theorem hb60 : hasBody Tryz.prog 60 = true := by kernel_rfl
theorem hb61 : hasBody Tryz.prog 61 = true := by kernel_rfl
theorem hb62 : hasBody Tryz.prog 62 = true := by kernel_rfl
theorem hb63 : hasBody Tryz.prog 63 = true := by kernel_rfl
theorem hb64 : hasBody Tryz.prog 64 = true := by kernel_rfl
theorem hb65 : hasBody Tryz.prog 65 = true := by kernel_rfl
theorem hb66 : hasBody Tryz.prog 66 = true := by kernel_rfl
theorem hb67 : hasBody Tryz.prog 67 = true := by kernel_rfl
theorem hb68 : hasBody Tryz.prog 68 = true := by kernel_rfl
theorem hb69 : hasBody Tryz.prog 69 = true := by kernel_rfl
theorem hb70 : hasBody Tryz.prog 70 = true := by kernel_rfl
theorem hb71 : hasBody Tryz.prog 71 = true := by kernel_rfl
theorem hb72 : hasBody Tryz.prog 72 = true := by kernel_rfl
theorem hb73 : hasBody Tryz.prog 73 = true := by kernel_rfl
theorem hb74 : hasBody Tryz.prog 74 = true := by kernel_rfl
theorem hb75 : hasBody Tryz.prog 75 = true := by kernel_rfl
theorem hb76 : hasBody Tryz.prog 76 = true := by kernel_rfl
theorem hb77 : hasBody Tryz.prog 77 = true := by kernel_rfl
theorem hb78 : hasBody Tryz.prog 78 = true := by kernel_rfl
theorem hb79 : hasBody Tryz.prog 79 = true := by kernel_rfl
theorem hb80 : hasBody Tryz.prog 80 = true := by kernel_rfl
theorem hb81 : hasBody Tryz.prog 81 = true := by kernel_rfl
theorem hb82 : hasBody Tryz.prog 82 = true := by kernel_rfl
theorem hb83 : hasBody Tryz.prog 83 = true := by kernel_rfl
theorem hb84 : hasBody Tryz.prog 84 = true := by kernel_rfl
theorem hb85 : hasBody Tryz.prog 85 = true := by kernel_rfl
theorem hb86 : hasBody Tryz.prog 86 = true := by kernel_rfl
theorem hb87 : hasBody Tryz.prog 87 = true := by kernel_rfl
theorem hb88 : hasBody Tryz.prog 88 = true := by kernel_rfl
theorem hb89 : hasBody Tryz.prog 89 = true := by kernel_rfl
theorem hb90 : hasBody Tryz.prog 90 = true := by kernel_rfl
theorem hb91 : hasBody Tryz.prog 91 = true := by kernel_rfl
theorem hb92 : hasBody Tryz.prog 92 = true := by kernel_rfl
theorem hb93 : hasBody Tryz.prog 93 = true := by kernel_rfl
theorem hb94 : hasBody Tryz.prog 94 = true := by kernel_rfl
theorem hb95 : hasBody Tryz.prog 95 = true := by kernel_rfl
theorem hb96 : hasBody Tryz.prog 96 = true := by kernel_rfl
theorem hb97 : hasBody Tryz.prog 97 = true := by kernel_rfl
theorem hb98 : hasBody Tryz.prog 98 = true := by kernel_rfl
theorem hb99 : hasBody Tryz.prog 99 = true := by kernel_rfl
theorem hb100 : hasBody Tryz.prog 100 = true := by kernel_rfl
theorem hb101 : hasBody Tryz.prog 101 = true := by kernel_rfl
theorem hb102 : hasBody Tryz.prog 102 = true := by kernel_rfl
theorem hb103 : hasBody Tryz.prog 103 = true := by kernel_rfl
theorem hb104 : hasBody Tryz.prog 104 = true := by kernel_rfl
theorem hb105 : hasBody Tryz.prog 105 = true := by kernel_rfl
theorem hb106 : hasBody Tryz.prog 106 = true := by kernel_rfl
theorem hb107 : hasBody Tryz.prog 107 = true := by kernel_rfl
theorem hb108 : hasBody Tryz.prog 108 = true := by kernel_rfl
theorem hb109 : hasBody Tryz.prog 109 = true := by kernel_rfl
theorem hb110 : hasBody Tryz.prog 110 = true := by kernel_rfl
theorem hb111 : hasBody Tryz.prog 111 = true := by kernel_rfl
theorem hb112 : hasBody Tryz.prog 112 = true := by kernel_rfl
theorem hb113 : hasBody Tryz.prog 113 = true := by kernel_rfl
theorem hb114 : hasBody Tryz.prog 114 = true := by kernel_rfl
theorem hb115 : hasBody Tryz.prog 115 = true := by kernel_rfl
theorem hb116 : hasBody Tryz.prog 116 = false := by kernel_rfl
theorem hb117 : hasBody Tryz.prog 117 = true := by kernel_rfl
theorem hb118 : hasBody Tryz.prog 118 = true := by kernel_rfl
theorem hb119 : hasBody Tryz.prog 119 = true := by kernel_rfl
theorem hb120 : hasBody Tryz.prog 120 = true := by kernel_rfl
theorem hb121 : hasBody Tryz.prog 121 = true := by kernel_rfl
theorem hb122 : hasBody Tryz.prog 122 = true := by kernel_rfl
theorem hb123 : hasBody Tryz.prog 123 = true := by kernel_rfl
theorem hb124 : hasBody Tryz.prog 124 = false := by kernel_rfl
theorem hb125 : hasBody Tryz.prog 125 = false := by kernel_rfl
theorem hb126 : hasBody Tryz.prog 126 = false := by kernel_rfl
theorem hb127 : hasBody Tryz.prog 127 = false := by kernel_rfl
theorem hb128 : hasBody Tryz.prog 128 = false := by kernel_rfl
theorem hb129 : hasBody Tryz.prog 129 = false := by kernel_rfl
theorem hb130 : hasBody Tryz.prog 130 = false := by kernel_rfl
theorem hb131 : hasBody Tryz.prog 131 = false := by kernel_rfl
theorem hb132 : hasBody Tryz.prog 132 = false := by kernel_rfl
theorem hb133 : hasBody Tryz.prog 133 = false := by kernel_rfl
theorem hb134 : hasBody Tryz.prog 134 = false := by kernel_rfl
theorem hb135 : hasBody Tryz.prog 135 = false := by kernel_rfl
theorem hb136 : hasBody Tryz.prog 136 = false := by kernel_rfl
theorem hb137 : hasBody Tryz.prog 137 = false := by kernel_rfl
theorem hb138 : hasBody Tryz.prog 138 = false := by kernel_rfl
theorem hb139 : hasBody Tryz.prog 139 = false := by kernel_rfl
theorem hb140 : hasBody Tryz.prog 140 = false := by kernel_rfl
theorem hb141 : hasBody Tryz.prog 141 = false := by kernel_rfl
theorem hb142 : hasBody Tryz.prog 142 = false := by kernel_rfl
theorem hb143 : hasBody Tryz.prog 143 = false := by kernel_rfl
theorem hb144 : hasBody Tryz.prog 144 = true := by kernel_rfl
end Go.Proofs.YtfheoidnahhnlaaGreatDoor
