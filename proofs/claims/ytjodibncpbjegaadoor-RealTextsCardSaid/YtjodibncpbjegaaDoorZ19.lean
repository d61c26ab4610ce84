/- Merged: AvmG, AvmH, AvmI. -/
import Derived.Test.YtjodibncpbjegaaDoorZ18
/- Rows that grow: one more element, and what a round leaves. -/
set_option linter.unusedVariables false
set_option linter.unusedSimpArgs false
namespace Go.Proofs.YtjodibncpbjegaaDoor
open Go.RowKit
theorem aapp_last {e sz bytes n : Nat} {own : Bool} {es news es' : List (List AV)} {B : List (List AV)} {L : List (Nat × Nat × Nat)} {K : AV → AS → Prop} (hes : es ++ news = es') (hn : es.length = n)
    (hb : (n + news.length) * bytes ≤ 140737488355328) (hz : ∀ x ∈ es, x.length = sz) (h : K (.sl true (.lin L.length) es') ⟨B, L ++ [(n + news.length, e, sz)]⟩) : aapp e sz bytes (.sl own (.lin L.length) es) news ⟨B, L ++ [(n, e, sz)]⟩ K := by
  subst hes
  subst hn
  refine ⟨hb, by simp, hz, ?_⟩
  simpa using h
theorem BoxesOk.mid {S r m : List (List AV)} {c c' : List AV} {ln ln' : List (Nat × Nat × Nat)} (h : ∀ x ∈ c', InB (S ++ c :: r).length ln.length x) : BoxesOk ⟨S ++ c :: r, ln⟩ ⟨S ++ c' :: (r ++ m), ln'⟩ := fun i cs hi he => by
  simp only at hi he ⊢
  rcases Nat.lt_trichotomy i S.length with hl | rfl | hl
  · rw [List.getElem?_append_left hl] at he ⊢
    exact .inl he
  · right
    rw [List.getElem?_append_right (Nat.le_refl _)] at he
    simp only [Nat.sub_self, List.getElem?_cons_zero, Option.some.injEq] at he
    subst he
    exact h
  · left
    rw [List.getElem?_append_right (by omega)] at he ⊢
    obtain ⟨j, hj⟩ : ∃ j, i - S.length = j + 1 := ⟨i - S.length - 1, by omega⟩
    rw [hj] at he ⊢
    simp only [List.getElem?_cons_succ] at he ⊢
    simp only [List.length_append, List.length_cons] at hi
    rwa [List.getElem?_append_left (by omega)] at he
theorem cut_mid {S r m : List (List AV)} {c c' : List AV} {L : List (Nat × Nat × Nat)} {p p' : Nat × Nat × Nat} : AS.cut ⟨S ++ c' :: (r ++ m), L ++ [p']⟩ (S ++ c :: r).length (L ++ [p]).length = ⟨S ++ c' :: r, L ++ [p']⟩ := by
  have h1 : S ++ c' :: (r ++ m) = (S ++ c' :: r) ++ m := by simp
  have h2 : (S ++ c :: r).length = (S ++ c' :: r).length := by simp
  have h3 : (L ++ [p]).length = (L ++ [p']).length := by simp
  simp only [AS.cut]
  rw [h1, h2, h3, List.take_left, List.take_length]
theorem BoxesOk.midp {S p r m : List (List AV)} {c c' : List AV} {ln ln' : List (Nat × Nat × Nat)} (h : ∀ x ∈ c', InB (S ++ (p ++ c :: r)).length ln.length x) : BoxesOk ⟨S ++ (p ++ c :: r), ln⟩ ⟨S ++ (p ++ c' :: (r ++ m)), ln'⟩ := by
  rw [← List.append_assoc, ← List.append_assoc]
  exact .mid (by rwa [List.append_assoc])
theorem cut_midp {S p r m : List (List AV)} {c c' : List AV} {L : List (Nat × Nat × Nat)} {q q' : Nat × Nat × Nat} : AS.cut ⟨S ++ (p ++ c' :: (r ++ m)), L ++ [q']⟩ (S ++ (p ++ c :: r)).length (L ++ [q]).length = ⟨S ++ (p ++ c' :: r), L ++ [q']⟩ := by
  rw [← List.append_assoc, ← List.append_assoc, ← List.append_assoc]
  exact cut_mid
theorem cut_gen {S l m : List (List AV)} {K K' : List (Nat × Nat × Nat)} (h : K'.length = K.length) : AS.cut ⟨S ++ (l ++ m), K'⟩ (S ++ l).length K.length = ⟨S ++ l, K'⟩ := by
  simp only [AS.cut]
  rw [← List.append_assoc, List.take_left, ← h, List.take_length]
theorem cut_same2 {B : List (List AV)} {L : List (Nat × Nat × Nat)} {id : Nat} {x y : Nat × Nat × Nat} : AS.cut ⟨B, L.set id y⟩ B.length (L.set id x).length = ⟨B, L.set id y⟩ := by
  simp [AS.cut]
  exact List.take_of_length_le (by simp)
theorem InB_slin {n m id : Nat} {own : Bool} {es : List (List AV)} : InB n m (.sl own (.lin id) es) ↔ id < m := InB_lin
/-! ### What says less -/
def Wk (v u : AV) : Prop := ∀ g x, VSim g v x → VSim g u x
def Wks : List AV → List AV → Prop
  | [], [] => True
  | x :: l, y :: m => (Wk x y ∧ y.one = true ∧ y.dat0 = true) ∧ Wks l m
  | _, _ => False
def Wkss : List (List AV) → List (List AV) → Prop
  | [], [] => True
  | x :: l, y :: m => Wks x y ∧ Wkss l m
  | _, _ => False
def Wka : List AV → List AV → Prop
  | [], [] => True
  | x :: l, y :: m => Wk x y ∧ Wka l m
  | _, _ => False
theorem Wk.refl (v : AV) : Wk v v := fun _ _ h => h
theorem Wk.nil (own : Bool) : Wk (.s (.slice none 0 0)) (.sl own .none []) := by
  intro g x h
  cases h
  exact .sl own .none [] none 0 0 (fun _ => undef) (Nat.le_refl _) (Nat.zero_le _) (fun e he => by cases he) (fun j x hx => by simp at hx) (fun h => absurd rfl h) (fun j x hx => by simp at hx) trivial
theorem Wks.len : ∀ {l m : List AV}, Wks l m → l.length = m.length
  | [], [], _ => rfl
  | x :: l, y :: m, h => by simp [Wks.len h.2]
  | [], _ :: _, h => h.elim
  | _ :: _, [], h => h.elim
theorem Wks.at_ : ∀ {l m : List AV} {i : Nat} {y : AV}, Wks l m → m[i]? = some y → ∃ x, l[i]? = some x ∧ Wk x y ∧ y.one = true ∧ y.dat0 = true
  | x :: l, y :: m, 0, z, h, hz => by
    obtain rfl : y = z := by simpa using hz
    exact ⟨x, rfl, h.1.1, h.1.2.1, h.1.2.2⟩
  | x :: l, y :: m, i + 1, z, h, hz => by
    obtain ⟨x', h1, h2⟩ := Wks.at_ (i := i) h.2 (by simpa using hz)
    exact ⟨x', by simpa using h1, h2⟩
  | [], [], _, _, _, hz => by simp at hz
  | [], _ :: _, _, _, h, _ => h.elim
  | _ :: _, [], _, _, h, _ => h.elim
theorem Wks.app : ∀ {l m l' m' : List AV}, Wks l m → Wks l' m' → Wks (l ++ l') (m ++ m')
  | [], [], _, _, _, h => h
  | x :: l, y :: m, _, _, h, h' => ⟨h.1, Wks.app h.2 h'⟩
  | [], _ :: _, _, _, h, _ => h.elim
  | _ :: _, [], _, _, h, _ => h.elim
theorem Wkss.len : ∀ {l m : List (List AV)}, Wkss l m → l.length = m.length
  | [], [], _ => rfl
  | x :: l, y :: m, h => by simp [Wkss.len h.2]
  | [], _ :: _, h => h.elim
  | _ :: _, [], h => h.elim
theorem Wkss.flat : ∀ {l m : List (List AV)}, Wkss l m → Wks l.flatten m.flatten
  | [], [], _ => trivial
  | x :: l, y :: m, h => by simpa using Wks.app h.1 (Wkss.flat h.2)
  | [], _ :: _, h => h.elim
  | _ :: _, [], h => h.elim
theorem Wkss.sizes : ∀ {l m : List (List AV)}, Wkss l m → ∀ e ∈ m, ∃ e' ∈ l, e'.length = e.length
  | [], [], _, e, he => by cases he
  | x :: l, y :: m, h, e, he => by
    rcases List.mem_cons.1 he with rfl | he
    · exact ⟨x, List.mem_cons_self .., h.1.len⟩
    · obtain ⟨e', h1, h2⟩ := Wkss.sizes h.2 e he
      exact ⟨e', List.mem_cons_of_mem _ h1, h2⟩
  | [], _ :: _, h, _, _ => h.elim
  | _ :: _, [], h, _, _ => h.elim
theorem Wk.agg {l m : List AV} (h : Wks l m) : Wk (.agg l) (.agg m) := by
  intro g x hx
  cases hx with
  | agg _ a hs h1 hh =>
    exact .agg m a (by rw [hs, h.len]) (fun i y hy => by obtain ⟨_, _, _, h3, _⟩ := h.at_ hy; exact h3) (fun i y hy => by
      obtain ⟨x', q1, q2, _⟩ := h.at_ hy
      exact q2 _ _ (hh i x' q1))
theorem Wk.sl {own own' : Bool} {tag : Tag} {es es' : List (List AV)} (ho : own' = true → own = true) (h : Wkss es es') : Wk (.sl own tag es) (.sl own' .none es') := by
  intro g x hx
  cases hx with
  | sl _ _ _ A cap sz vs hl hc hsz h1 hA hh htag =>
    have hf := h.flat
    have e := h.len
    rw [e]
    refine .sl own' .none es' A cap sz vs (by omega) (by omega) (fun e he => by obtain ⟨e', q1, q2⟩ := h.sizes e he; rw [← q2]; exact hsz e' q1) (fun j y hy => by obtain ⟨_, _, _, q3, q4⟩ := hf.at_ hy; exact ⟨q3, q4⟩) (fun hne => ?_) (fun j y hy => by
      obtain ⟨x', q1, q2, _⟩ := hf.at_ hy
      exact q2 _ _ (hh j x' q1)) trivial
    obtain ⟨b, o, r1, r2, r3⟩ := hA (fun h0 => hne (by have := hf.len; rw [h0] at this; exact List.length_eq_zero_iff.1 this.symm))
    exact ⟨b, o, r1, fun h => r2 (ho h), fun j y hy => by obtain ⟨x', q1, _⟩ := hf.at_ hy; exact r3 j x' q1⟩
theorem ASim.weak : ∀ {g : Gh} {l m : List AV} {vs : List Value}, Wka l m → ASim g l vs → ASim g m vs
  | _, [], [], _, _, h => h
  | _, x :: l, y :: m, _, hw, h => by
    cases h with
    | cons h hr => exact .cons (hw.1 _ _ h) (ASim.weak hw.2 hr)
  | _, [], _ :: _, _, h, _ => h.elim
  | _, _ :: _, [], _, h, _ => h.elim
theorem DoesCall.weak {P : Program} {f : FuncId} {args args' : List AV} {st : AS} {R : AOut → AS → Prop} (h : DoesCall P f args' st R) (hw : Wka args args') : DoesCall P f args st R := fun g w vs hi ha => h g w vs hi (ha.weak hw)
theorem Gives.weak {P : Program} {f : FuncId} {args args' : List AV} {v : AV} (h : Gives P f args' v) (hw : Wka args args') : Gives P f args v := fun st => (h st).weak hw
end Go.Proofs.YtjodibncpbjegaaDoor
/- Rows of bytes: what the older contracts say, in plain data. -/
set_option linter.unusedVariables false
set_option linter.unusedSimpArgs false
namespace Go.Proofs.YtjodibncpbjegaaDoor
open Go.RowKit
section
variable {P : Program} {g : Gh} {st : AS} {w : World}
/-- The growing row is a new one from now on. -/
theorem Inv.lin_owned (hi : Inv g st w) {w' : World} (hk : Kept w w') {B : Nat} (hB : w.heap.size ≤ B) (C : Array Value) (e : TypeId) (sz n gc : Nat) (hgc : n ≤ gc) (hg0 : 0 < gc) (hC : C.size = gc * sz) (hw : w'.heap[B]? = some (.cells C e (0, 0))) (h1 : ∀ v ∈ C.toList.take (n * sz), oneV v = true) (idx : Nat) (ln : List Lin) (sln : List (Nat × Nat × Nat)) (hlen : ln.length = sln.length)
    (hidx : ∀ (i : Nat) L, ln[i]? = some L → if i = idx then L = ⟨some ⟨B, 0, none⟩, n, gc, e, sz⟩ ∧ sln[i]? = some (n, e, sz) else g.ln[i]? = some L ∧ sln[i]? = st.ln[i]?)
    (hle : ∀ (i : Nat) L, g.ln[i]? = some L → ∃ L', ln[i]? = some L' ∧ L.n ≤ L'.n ∧ (L.n = L'.n → L' = L)) :
    ∃ g', g.le g' ∧ g'.ln = ln ∧ Inv g' { st with ln := sln } w' ∧ ∀ (o : Nat) v, (C.toList.take (n * sz))[o]? = some v → g'.K B o = some v := by
  have H := hi.kept_ hk
  have hKn : ∀ o, g.K B o = none := fun o => by
    cases h : g.K B o with
    | none => rfl
    | some v => have := hi.K_lt h; omega
  refine ⟨{ g with K := fun b o => if b = B then (C.toList.take (n * sz))[o]? else g.K b o, ln := ln }, ?_, rfl, ?_, fun o v hv => ?_⟩
  · exact ⟨rfl, fun b o v hv => by
      have := hi.K_lt hv
      show (if b = B then _ else g.K b o) = some v
      rw [if_neg (by omega)]; exact hv, fun _ _ h => h, hle⟩
  · have hsub : g.sub { g with K := fun b o => if b = B then (C.toList.take (n * sz))[o]? else g.K b o, ln := ln } := ⟨rfl, fun b o v hv => by
      have := hi.K_lt hv
      show (if b = B then _ else g.K b o) = some v
      rw [if_neg (by omega)]; exact hv⟩
    have hle' : g.le { g with K := fun b o => if b = B then (C.toList.take (n * sz))[o]? else g.K b o, ln := ln } := ⟨rfl, hsub.K, fun _ _ h => h, hle⟩
    refine ⟨fun b o v hv => ?_, H.bxlen, fun i b cs hb hc => ?_, fun b hb => ?_, H.bxnd, hlen, fun i L hL => ?_, fun i j L L' a a' hL hL' hc1 hc2 ha ha' he => ?_, H.kept, H.ok, fun b o v hv hb => by
      by_cases e' : b = B
      · rw [e']
        intro C' T' lo hi' h
        rw [hw] at h
        cases h
        exact .inl rfl
      · exact H.nf b o v (by simpa [e'] using hv) hb⟩
    · by_cases e' : b = B
      · obtain rfl : B = b := e'.symm
        have hv' : (C.toList.take (n * sz))[o]? = some v := by simpa using hv
        refine ⟨?_, h1 v (List.mem_of_getElem? hv')⟩
        unfold World.cell?
        rw [show w'.heap[(⟨B, o, none⟩ : Addr).block]? = some (.cells C e (0, 0)) from hw]
        rw [List.getElem?_take] at hv'
        split at hv'
        · simpa using hv'
        · cases hv'
      · have hv' : g.K b o = some v := by simpa [e'] using hv
        exact H.K b o v hv'
    · obtain ⟨cur', T', h1, h2, h3⟩ := H.bx i b cs hb hc
      exact ⟨cur', T', h1, h2, fun j x hx => (h3 j x hx).mono hle'⟩
    · refine ⟨(hi.bxK b hb).1, fun o => ?_, (hi.bxK b hb).2.2⟩
      have := hi.bx_lt hb
      show (if b = B then _ else g.K b o) = none
      rw [if_neg (by omega)]; exact (hi.bxK b hb).2.1 o
    · have := hidx i L hL
      split at this
      · obtain ⟨rfl, hs⟩ := this
        refine ⟨hs, .inr ⟨B, C, rfl, Nat.le_trans hi.base_le hB, fun hm => ?_, hw, hgc, hg0, hC, fun o ho => ?_, fun o ho => ?_⟩⟩
        · have := hi.bx_lt hm; omega
        · show (if B = B then (C.toList.take (n * sz))[o]? else _) = _
          rw [if_pos rfl, List.getElem?_take, if_pos ho]; simp
        · show (if B = B then (C.toList.take (n * sz))[o]? else _) = _
          rw [if_pos rfl, List.getElem?_take, if_neg (by simp at ho; omega)]
      · obtain ⟨hL0, hs⟩ := this
        obtain ⟨k1, k2⟩ := H.ln i L hL0
        have hlt := (hi.ln i L hL0).2
        refine ⟨by rw [hs]; exact k1, ?_⟩
        rcases k2 with k2 | ⟨b, cur', e1, e2, e3, e4, e5, e6, e7, e8, e9⟩
        · exact .inl k2
        · have hb : b ≠ B := by have := (LinOk.lt hlt e6 e1).1; simp at this; omega
          refine .inr ⟨b, cur', e1, e2, e3, e4, e5, e6, e7, fun o ho => ?_, fun o ho => ?_⟩
          · show (if b = B then _ else g.K b o) = _
            rw [if_neg hb]; exact e8 o ho
          · show (if b = B then _ else g.K b o) = _
            rw [if_neg hb]; exact e9 o ho
    · have h1 := hidx i L hL
      have h2 := hidx j L' hL'
      by_cases hii : i = idx <;> by_cases hjj : j = idx
      · omega
      · rw [if_pos hii] at h1
        rw [if_neg hjj] at h2
        obtain ⟨rfl, _⟩ := h1
        obtain rfl := Option.some.inj ha
        have := (LinOk.lt (hi.ln j L' h2.1).2 hc2 ha').1
        simp at he; omega
      · rw [if_neg hii] at h1
        rw [if_pos hjj] at h2
        obtain ⟨rfl, _⟩ := h2
        obtain rfl := Option.some.inj ha'
        have := (LinOk.lt (hi.ln i L h1.1).2 hc1 ha).1
        simp at he; omega
      · rw [if_neg hii] at h1
        rw [if_neg hjj] at h2
        exact hi.lnd i j L L' a a' h1.1 h2.1 hc1 hc2 ha ha' he
  · show (if B = B then (C.toList.take (n * sz))[o]? else _) = _
    rw [if_pos rfl]; exact hv

theorem encB_getR (l : List UInt8) (j : Nat) (y : AV) (h : (encB l).flatten[j]? = some y) : ∃ b, l[j]? = some b ∧ y = .s (.int .u8 (b.toNat : Int)) := by
  rw [encB_flat, List.getElem?_map, Option.map_eq_some_iff] at h
  obtain ⟨b, h1, h2⟩ := h
  exact ⟨b, h1, h2.symm⟩
/-- Bytes in plain data are bytes in memory. -/
theorem bytes_sim {own : Bool} {tag : Tag} {l : List UInt8} {x : Value} (hi : Inv g st w) (h : VSim g (.sl own tag (encB l)) x) : ∃ A c, x = .slice A l.length c ∧ l.length ≤ c ∧ l.length ≤ 140737488355328 ∧ Bs w A l := by
  obtain ⟨A, cap, cur, rfl, c1, c2, c3, c4, c5, c6, c7, c8⟩ := sl_cells hi h (encB_lens l)
  rw [encB_len] at c1 c2 ⊢
  refine ⟨A, cap, rfl, c1, c2, ⟨fun hp => ?_⟩⟩
  have hne : (encB l).flatten ≠ [] := by
    rw [encB_flat]
    intro h0
    have : l = [] := by simpa using h0
    subst this; simp at hp
  obtain ⟨b, o, rfl, _, hK⟩ := c8 hne
  refine ⟨_, rfl, fun i hi' => ?_⟩
  have hy : (encB l).flatten[i]? = some (.s (.int .u8 (l[i].toNat : Int))) := by rw [encB_flat]; simp [hi']
  have h2 := c4.2 i _ hy
  have hic : i < cur.length := by rw [c5, encB_len]; omega
  rw [List.getD_eq_getElem?_getD, List.getElem?_eq_getElem hic] at h2
  have h3 : cur[i] = .int .u8 (l[i].toNat : Int) := h2.lit0 rfl
  have h4 := (hi.K _ _ _ (hK i _ (List.getElem?_eq_getElem hic))).1
  rw [add_spot]
  rw [h3] at h4
  simpa [List.getD_eq_getElem?_getD, hi'] using h4
/-- A call that hands back bytes of its own: a row that grows from now on. -/
theorem DoesCall.of_own {f : FuncId} {args : List AV} {R : AOut → AS → Prop} {l : List UInt8} {T : TypeId} (hl : 0 < l.length) (hl2 : l.length ≤ 140737488355328) (hR : R (.ret (.sl true (.lin st.ln.length) (encB l))) ⟨st.bx, st.ln ++ [(l.length, T, 1)]⟩)
    (h : ∀ g w vs, Inv g st w → ASim g args vs → Calls P f vs.toArray w fun e w' => ∃ A c, e = .returned (.slice A l.length c) ∧ w'.ownsRow w.heap.size T 1 (.slice A l.length c) l.length (cellsB l) ∧ Kept w w') : DoesCall P f args st R := by
  intro g w vs hi ha
  refine (h g w vs hi ha).mono ?_
  rintro e w' ⟨A, c, rfl, ⟨_, hown⟩, hk⟩
  rcases hown with ⟨h1, h2⟩ | ⟨B, cap, cur, h1, h2, h3, h4, h5, h6, h7⟩
  · omega
  · simp only [Value.slice.injEq] at h1
    obtain ⟨rfl, _, rfl⟩ := h1
    obtain ⟨g', q1, q2, q3, q4⟩ := hi.lin_owned hk h2 cur T 1 l.length c h4 (by omega) h6 h3 (by
      intro v hv
      rw [h7] at hv
      obtain ⟨b, _, rfl⟩ := List.mem_map.1 hv
      rfl) g.ln.length (g.ln ++ [⟨some ⟨B, 0, none⟩, l.length, c, T, 1⟩]) (st.ln ++ [(l.length, T, 1)]) (by simp [hi.lnlen]) (fun i L hL => by
        split
        · rename_i hii
          subst hii
          simp at hL
          subst hL
          exact ⟨rfl, by rw [hi.lnlen]; simp⟩
        · rename_i hii
          have hlt : i < g.ln.length := by
            have := (List.getElem?_eq_some_iff.1 hL).1
            simp at this
            omega
          rw [List.getElem?_append_left hlt] at hL
          exact ⟨hL, by rw [List.getElem?_append_left (by rw [← hi.lnlen]; exact hlt)]⟩)
      (fun i L hL => ⟨L, by rw [List.getElem?_append_left (List.getElem?_eq_some_iff.1 hL).1]; exact hL, Nat.le_refl _, fun _ => rfl⟩)
    refine ⟨g', _, _, q1, q3, .ret _ _ ?_, hR⟩
    rw [h7] at q4
    have := encB_len l
    have hsl : VSim g' (.sl true (.lin st.ln.length) (encB l)) (.slice (some ⟨B, 0, none⟩) (encB l).length c) := by
      refine .sl true _ (encB l) (some ⟨B, 0, none⟩) c 1 (fun j => (cellsB l).getD j undef) (by omega) (by omega) (encB_lens l) (fun j y hy => ?_) (fun _ => ⟨B, 0, rfl, fun _ => by rw [show g'.base = g.base by unfold Gh.base; rw [q1.w0]]; exact Nat.le_trans hi.base_le h2, fun j y hy => ?_⟩) (fun j y hy => ?_) ?_
      · obtain ⟨b, _, rfl⟩ := encB_getR l j y hy
        exact ⟨rfl, rfl⟩
      · obtain ⟨b, hb, rfl⟩ := encB_getR l j y hy
        rw [Nat.zero_add]
        refine q4 j _ ?_
        rw [List.getD_eq_getElem?_getD]
        simp [cellsB, hb]
      · obtain ⟨b, hb, rfl⟩ := encB_getR l j y hy
        rw [List.getD_eq_getElem?_getD]
        simp [cellsB, hb]
        exact .s _ rfl
      · refine ⟨⟨some ⟨B, 0, none⟩, l.length, c, T, 1⟩, by rw [q2, ← hi.lnlen]; simp, by rw [this]; exact Nat.le_refl _, fun _ => ⟨rfl, rfl⟩⟩
    rwa [this] at hsl
end
/-! ### Bytes behind bytes -/
theorem encB_app (l m : List UInt8) : encB l ++ encB m = encB (l ++ m) := by simp [encB]
theorem encB_one1 {x : Int} {b : UInt8} (h : (b.toNat : Int) = x) : [[AV.s (.int .u8 x)]] = encB [b] := by subst h; rfl
theorem aapp_bytes {e id : Nat} {own : Bool} {l m : List UInt8} {news : List (List AV)} {B : List (List AV)} {L : List (Nat × Nat × Nat)} {K : AV → AS → Prop} (hm : news = encB m) (hL : L[id]? = some (l.length, e, 1))
    (hb : l.length + m.length ≤ 140737488355328) (h : K (.sl true (.lin id) (encB (l ++ m))) ⟨B, L.set id (l.length + m.length, e, 1)⟩) : aapp e 1 1 (.sl own (.lin id) (encB l)) news ⟨B, L⟩ K := by
  subst hm
  refine ⟨by rw [encB_len, encB_len]; omega, by rw [encB_len]; exact hL, encB_lens l, ?_⟩
  rw [encB_app, encB_len, List.length_append]
  exact h
theorem set_in {α : Type} {L : List α} {id : Nat} {x y : α} {r : List α} (h : L[id]? = some y) : (L ++ r).set id x = L.set id x ++ r := List.set_append_left _ _ (List.getElem?_eq_some_iff.1 h).1
theorem get_in {α : Type} {L : List α} {id : Nat} {y : α} {r : List α} (h : L[id]? = some y) : (L ++ r)[id]? = some y := by rw [List.getElem?_append_left (List.getElem?_eq_some_iff.1 h).1]; exact h
theorem set_same {α : Type} {L : List α} {id : Nat} {y : α} (h : L[id]? = some y) : L.set id y = L := by
  obtain ⟨h1, rfl⟩ := List.getElem?_eq_some_iff.1 h
  exact List.set_getElem_self h1
theorem get_set {α : Type} {L : List α} {id : Nat} {x y : α} (h : L[id]? = some y) : (L.set id x)[id]? = some x := by
  rw [List.getElem?_set_self (List.getElem?_eq_some_iff.1 h).1]
theorem get_set_in {α : Type} {L : List α} {id : Nat} {x y : α} {r : List α} (h : L[id]? = some y) : (L.set id x ++ r)[id]? = some x := get_in (get_set h)
theorem set_set_in {α : Type} {L : List α} {id : Nat} {x y z : α} {r : List α} (h : L[id]? = some y) : (L.set id x ++ r).set id z = L.set id z ++ r := by
  rw [set_in (get_set h), List.set_set]
/-- The end of a function that laid bytes behind a row that it was handed. -/
theorem end_keep {st : AS} {id e : Nat} {own : Bool} {l : List UInt8} {n k : Nat} {l1 : List (List AV)} {r : List (Nat × Nat × Nat)} {R : AOut → AS → Prop} (h : st.ln[id]? = some (n, e, 1)) (hR : R (.ret (.sl own (.lin id) (encB l))) ⟨st.bx, st.ln.set id (k, e, 1)⟩) :
    RetForm st (.sl own (.lin id) (encB l)) ⟨st.bx ++ l1, st.ln.set id (k, e, 1) ++ r⟩ R := by
  have hlt := (List.getElem?_eq_some_iff.1 h).1
  refine .keep (InB_lin.2 hlt) .app ?_
  have : AS.cut ⟨st.bx ++ l1, st.ln.set id (k, e, 1) ++ r⟩ st.bx.length st.ln.length = ⟨st.bx, st.ln.set id (k, e, 1)⟩ := by
    simp only [AS.cut, List.take_left]
    congr 1
    rw [List.take_append_of_le_length (by simp), List.take_of_length_le (by simp)]
  rw [this]
  exact hR
def GApp (P : Program) (e : Nat) (f : FuncId) (args : List AV) (news : List UInt8) : Prop :=
  ∀ (st : AS) (id : Nat) (own : Bool) (l : List UInt8) (R : AOut → AS → Prop), st.ln[id]? = some (l.length, e, 1) → l.length + news.length ≤ 140737488355328 → R (.ret (.sl true (.lin id) (encB (l ++ news)))) ⟨st.bx, st.ln.set id (l.length + news.length, e, 1)⟩ →
    DoesCall P f (.sl own (.lin id) (encB l) :: args) st R
theorem app_end {R : AOut → AS → Prop} {bx : List (List AV)} {L : List (Nat × Nat × Nat)} {id e n n' : Nat} {a a' : List UInt8} (h : R (.ret (.sl true (.lin id) (encB a))) ⟨bx, L.set id (n, e, 1)⟩) (h1 : a = a') (h2 : n = n') :
    R (.ret (.sl true (.lin id) (encB a'))) ⟨bx, L.set id (n', e, 1)⟩ := by subst h1 h2; exact h
end Go.Proofs.YtjodibncpbjegaaDoor
/- Rounds and ends: boxes that change and boxes that go. No program. -/
set_option linter.unusedVariables false
set_option linter.unusedSimpArgs false
namespace Go.Proofs.YtjodibncpbjegaaDoor
open Go.RowKit
theorem cut_as {S l l' m : List (List AV)} {K K' : List (Nat × Nat × Nat)} (hl : l'.length = l.length) (h : K'.length = K.length) : AS.cut ⟨S ++ (l' ++ m), K'⟩ (S ++ l).length K.length = ⟨S ++ l', K'⟩ := by
  unfold AS.cut
  rw [← h, List.take_length, List.length_append, ← hl, ← List.length_append, ← List.append_assoc, List.take_left]
theorem boxes_as {S l l' m : List (List AV)} {K K' : List (Nat × Nat × Nat)} (hl : l'.length = l.length) (h : ∀ (i : Nat) c, l'[i]? = some c → l[i]? = some c ∨ ∀ x ∈ c, InB (S ++ l).length K.length x) : BoxesOk ⟨S ++ l, K⟩ ⟨S ++ (l' ++ m), K'⟩ := by
  intro i cs hi hc
  simp only at hi hc ⊢
  rcases Nat.lt_or_ge i S.length with hlt | hge
  · rw [List.getElem?_append_left hlt] at hc
    exact .inl (by rw [List.getElem?_append_left hlt]; exact hc)
  · rw [List.getElem?_append_right hge] at hc
    have hil : i - S.length < l'.length := by simp at hi; omega
    rw [List.getElem?_append_left hil] at hc
    rcases h _ _ hc with h1 | h1
    · exact .inl (by rw [List.getElem?_append_right hge]; exact h1)
    · exact .inr h1
/-- Forget the boxes and rows of one's own that are behind. -/
theorem box_same {α : Type} {l l' : List α} (P : α → Prop) (h : l' = l) : ∀ (i : Nat) c, l'[i]? = some c → l[i]? = some c ∨ P c := fun i c hc => .inl (by rw [← h]; exact hc)
theorem box_cons {α : Type} {P : α → Prop} {a b : α} {l m : List α} (h0 : a = b ∨ P a) (h : ∀ (i : Nat) c, l[i]? = some c → m[i]? = some c ∨ P c) : ∀ (i : Nat) c, (a :: l)[i]? = some c → (b :: m)[i]? = some c ∨ P c := fun i c hc => by
  cases i with
  | zero =>
    obtain rfl : a = c := by simpa using hc
    rcases h0 with rfl | h0
    · exact .inl rfl
    · exact .inr h0
  | succ i => simpa using h i c (by simpa using hc)
theorem box_nil {α : Type} {P : α → Prop} : ∀ (i : Nat) c, ([] : List α)[i]? = some c → ([] : List α)[i]? = some c ∨ P c := fun i c hc => by simp at hc
/-- A map's box that speaks of no box and no row. -/
theorem mapBox_InB {n m : Nat} {l : List (Value × AV)} (hk : ∀ p ∈ l, oneV p.1 = true ∧ AV.ofV p.1 = .s p.1) (h : ∀ p ∈ l, InB n m p.2) : ∀ x ∈ mapBox l, InB n m x := by
  intro x hx
  obtain rfl : x = .tup (l.map fun p => .tup [AV.ofV p.1, p.2]) := by simpa [mapBox] using hx
  refine .tup _ fun y hy => ?_
  obtain ⟨p, hp, rfl⟩ := List.mem_map.1 hy
  refine .tup _ fun z hz => ?_
  rcases List.mem_cons.1 hz with rfl | hz
  · rw [(hk p hp).2]; exact .s _
  · obtain rfl : z = p.2 := by simpa using hz
    exact h p hp
/-! ### Slices cut -/
theorem slice_hi {P : Program} {t e sz bs s : Nat} {ag : Bool} {z : AV} {own : Bool} {tag : Tag} {es : List (List AV)} {ik : IntKind} {k : Nat} {K : AV → Prop} (ht : tyOf P t = some ⟨s, ag, z, .slice e sz bs⟩) (hk : k ≤ es.length) (hp : 0 < sz) (hl : ∀ e ∈ es, e.length = sz)
    (h : K (.sl own .none (es.take k))) : aslice P t (.sl own tag es) none (some (.s (.int ik k))) K := by
  simp only [aslice, ht, Option.getD]
  refine ⟨by omega, by omega, by omega, hp, hl, ?_⟩
  simpa using h
theorem slice_lo {P : Program} {t e sz bs s : Nat} {ag : Bool} {z : AV} {own : Bool} {tag : Tag} {es : List (List AV)} {ik : IntKind} {k : Nat} {K : AV → Prop} (ht : tyOf P t = some ⟨s, ag, z, .slice e sz bs⟩) (hk : k ≤ es.length) (hp : 0 < sz) (hl : ∀ e ∈ es, e.length = sz)
    (h : K (.sl own .none (es.drop k))) : aslice P t (.sl own tag es) (some (.s (.int ik k))) none K := by
  simp only [aslice, ht, Option.getD]
  refine ⟨by omega, by omega, by omega, hp, hl, ?_⟩
  simpa using h
theorem slice_lh {P : Program} {t e sz bs s : Nat} {ag : Bool} {z : AV} {own : Bool} {tag : Tag} {es : List (List AV)} {ik ik' : IntKind} {j k : Nat} {K : AV → Prop} (ht : tyOf P t = some ⟨s, ag, z, .slice e sz bs⟩) (hj : j ≤ k) (hk : k ≤ es.length) (hp : 0 < sz) (hl : ∀ e ∈ es, e.length = sz)
    (h : K (.sl own .none ((es.take k).drop j))) : aslice P t (.sl own tag es) (some (.s (.int ik j))) (some (.s (.int ik' k))) K := by
  simp only [aslice, ht, Option.getD]
  refine ⟨by omega, by omega, by omega, hp, hl, ?_⟩
  simpa using h
/-- Bytes told as a text. -/
theorem conv_bytes {P : Program} {s d e bs s1 s2 s3 : Nat} {a1 a2 a3 : Bool} {z1 z2 z3 : AV} {own : Bool} {tag : Tag} {l : List UInt8} {ln : List (Nat × Nat × Nat)} {K : AV → Prop} (h1 : tyOf P s = some ⟨s1, a1, z1, .slice e 1 bs⟩) (h2 : tyOf P d = some ⟨s2, a2, z2, .string⟩) (h3 : tyOf P e = some ⟨s3, a3, z3, .int .u8⟩)
    (h : K (.s (.string ⟨l.toArray⟩))) : aconv P s d (.sl own tag (encB l)) ln K := by
  simp only [aconv, h1, h2, h3]
  exact ⟨l, rfl, h⟩
theorem encB_cut (l : List UInt8) (q n : Nat) : ((encB l).take (q + n)).drop q = encB ((l.drop q).take n) := by
  unfold encB
  rw [List.drop_take, Nat.add_sub_cancel_left, List.map_take, List.map_drop]
end Go.Proofs.YtjodibncpbjegaaDoor
