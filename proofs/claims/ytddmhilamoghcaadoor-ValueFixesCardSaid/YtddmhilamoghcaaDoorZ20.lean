/- Merged: AvmH, AvmI, AvmJ. -/
import Derived.Test.YtddmhilamoghcaaDoorZ19
/- Rows of bytes: what the older contracts say, in plain data. -/
set_option linter.unusedVariables false
set_option linter.unusedSimpArgs false
namespace Go.Proofs.YtddmhilamoghcaaDoor
open Go.RowKit
section
variable {P : Program} {g : Gh} {st : AS} {w : World}
/-- The growing row is a new one from now on. -/
theorem Inv.lin_owned (hi : Inv g st w) {w' : World} (hk : Kept w w') {B : Nat} (hB : w.heap.size ≤ B) (C : Array Value) (e : TypeId) (sz n gc : Nat) (hgc : n ≤ gc) (hg0 : 0 < gc) (hC : C.size = gc * sz) (hw : w'.heap[B]? = some (.cells C e (0, 0))) (h1 : ∀ v ∈ C.toList.take (n * sz), oneV v = true) (idx : Nat) (ln : List Lin) (sln : List (Nat × Nat × Nat)) (hlen : ln.length = sln.length)
    (hidx : ∀ (i : Nat) L, ln[i]? = some L → if i = idx then L = ⟨some ⟨B, 0, none⟩, n, gc, e, sz⟩ ∧ sln[i]? = some (n, e, sz) else g.ln[i]? = some L ∧ sln[i]? = st.ln[i]?)
    (hle : ∀ (i : Nat) L, g.ln[i]? = some L → ∃ L', ln[i]? = some L' ∧ L.n ≤ L'.n ∧ (L.n = L'.n → L' = L)) :
    ∃ g', g.le g' ∧ g'.ln = ln ∧ Inv g' { st with ln := sln } w' ∧ ∀ (o : Nat) v, (C.toList.take (n * sz))[o]? = some v → g'.K B o = some v := by
  have H := hi.kept_ hk
  have hKn : ∀ o, g.K B o = none := fun o => by
    cases h : g.K B o with
    | none => rfl
    | some v => have := hi.K_lt h; omega
  refine ⟨{ g with K := fun b o => if b = B then (C.toList.take (n * sz))[o]? else g.K b o, ln := ln }, ?_, rfl, ?_, fun o v hv => ?_⟩
  · exact ⟨rfl, fun b o v hv => by
      have := hi.K_lt hv
      show (if b = B then _ else g.K b o) = some v
      rw [if_neg (by omega)]; exact hv, fun _ _ h => h, hle⟩
  · have hsub : g.sub { g with K := fun b o => if b = B then (C.toList.take (n * sz))[o]? else g.K b o, ln := ln } := ⟨rfl, fun b o v hv => by
      have := hi.K_lt hv
      show (if b = B then _ else g.K b o) = some v
      rw [if_neg (by omega)]; exact hv⟩
    have hle' : g.le { g with K := fun b o => if b = B then (C.toList.take (n * sz))[o]? else g.K b o, ln := ln } := ⟨rfl, hsub.K, fun _ _ h => h, hle⟩
    refine ⟨fun b o v hv => ?_, H.bxlen, fun i b cs hb hc => ?_, fun b hb => ?_, H.bxnd, hlen, fun i L hL => ?_, fun i j L L' a a' hL hL' hc1 hc2 ha ha' he => ?_, H.kept, H.ok, fun b o v hv hb => by
      by_cases e' : b = B
      · rw [e']
        intro C' T' lo hi' h
        rw [hw] at h
        cases h
        exact .inl rfl
      · exact H.nf b o v (by simpa [e'] using hv) hb⟩
    · by_cases e' : b = B
      · obtain rfl : B = b := e'.symm
        have hv' : (C.toList.take (n * sz))[o]? = some v := by simpa using hv
        refine ⟨?_, h1 v (List.mem_of_getElem? hv')⟩
        unfold World.cell?
        rw [show w'.heap[(⟨B, o, none⟩ : Addr).block]? = some (.cells C e (0, 0)) from hw]
        rw [List.getElem?_take] at hv'
        split at hv'
        · simpa using hv'
        · cases hv'
      · have hv' : g.K b o = some v := by simpa [e'] using hv
        exact H.K b o v hv'
    · obtain ⟨cur', T', h1, h2, h3⟩ := H.bx i b cs hb hc
      exact ⟨cur', T', h1, h2, fun j x hx => (h3 j x hx).mono hle'⟩
    · refine ⟨(hi.bxK b hb).1, fun o => ?_, (hi.bxK b hb).2.2⟩
      have := hi.bx_lt hb
      show (if b = B then _ else g.K b o) = none
      rw [if_neg (by omega)]; exact (hi.bxK b hb).2.1 o
    · have := hidx i L hL
      split at this
      · obtain ⟨rfl, hs⟩ := this
        refine ⟨hs, .inr ⟨B, C, rfl, Nat.le_trans hi.base_le hB, fun hm => ?_, hw, hgc, hg0, hC, fun o ho => ?_, fun o ho => ?_⟩⟩
        · have := hi.bx_lt hm; omega
        · show (if B = B then (C.toList.take (n * sz))[o]? else _) = _
          rw [if_pos rfl, List.getElem?_take, if_pos ho]; simp
        · show (if B = B then (C.toList.take (n * sz))[o]? else _) = _
          rw [if_pos rfl, List.getElem?_take, if_neg (by simp at ho; omega)]
      · obtain ⟨hL0, hs⟩ := this
        obtain ⟨k1, k2⟩ := H.ln i L hL0
        have hlt := (hi.ln i L hL0).2
        refine ⟨by rw [hs]; exact k1, ?_⟩
        rcases k2 with k2 | ⟨b, cur', e1, e2, e3, e4, e5, e6, e7, e8, e9⟩
        · exact .inl k2
        · have hb : b ≠ B := by have := (LinOk.lt hlt e6 e1).1; simp at this; omega
          refine .inr ⟨b, cur', e1, e2, e3, e4, e5, e6, e7, fun o ho => ?_, fun o ho => ?_⟩
          · show (if b = B then _ else g.K b o) = _
            rw [if_neg hb]; exact e8 o ho
          · show (if b = B then _ else g.K b o) = _
            rw [if_neg hb]; exact e9 o ho
    · have h1 := hidx i L hL
      have h2 := hidx j L' hL'
      by_cases hii : i = idx <;> by_cases hjj : j = idx
      · omega
      · rw [if_pos hii] at h1
        rw [if_neg hjj] at h2
        obtain ⟨rfl, _⟩ := h1
        obtain rfl := Option.some.inj ha
        have := (LinOk.lt (hi.ln j L' h2.1).2 hc2 ha').1
        simp at he; omega
      · rw [if_neg hii] at h1
        rw [if_pos hjj] at h2
        obtain ⟨rfl, _⟩ := h2
        obtain rfl := Option.some.inj ha'
        have := (LinOk.lt (hi.ln i L h1.1).2 hc1 ha).1
        simp at he; omega
      · rw [if_neg hii] at h1
        rw [if_neg hjj] at h2
        exact hi.lnd i j L L' a a' h1.1 h2.1 hc1 hc2 ha ha' he
  · show (if B = B then (C.toList.take (n * sz))[o]? else _) = _
    rw [if_pos rfl]; exact hv

theorem encB_getR (l : List UInt8) (j : Nat) (y : AV) (h : (encB l).flatten[j]? = some y) : ∃ b, l[j]? = some b ∧ y = .s (.int .u8 (b.toNat : Int)) := by
  rw [encB_flat, List.getElem?_map, Option.map_eq_some_iff] at h
  obtain ⟨b, h1, h2⟩ := h
  exact ⟨b, h1, h2.symm⟩
/-- Bytes in plain data are bytes in memory. -/
theorem bytes_sim {own : Bool} {tag : Tag} {l : List UInt8} {x : Value} (hi : Inv g st w) (h : VSim g (.sl own tag (encB l)) x) : ∃ A c, x = .slice A l.length c ∧ l.length ≤ c ∧ l.length ≤ 140737488355328 ∧ Bs w A l := by
  obtain ⟨A, cap, cur, rfl, c1, c2, c3, c4, c5, c6, c7, c8⟩ := sl_cells hi h (encB_lens l)
  rw [encB_len] at c1 c2 ⊢
  refine ⟨A, cap, rfl, c1, c2, ⟨fun hp => ?_⟩⟩
  have hne : (encB l).flatten ≠ [] := by
    rw [encB_flat]
    intro h0
    have : l = [] := by simpa using h0
    subst this; simp at hp
  obtain ⟨b, o, rfl, _, hK⟩ := c8 hne
  refine ⟨_, rfl, fun i hi' => ?_⟩
  have hy : (encB l).flatten[i]? = some (.s (.int .u8 (l[i].toNat : Int))) := by rw [encB_flat]; simp [hi']
  have h2 := c4.2 i _ hy
  have hic : i < cur.length := by rw [c5, encB_len]; omega
  rw [List.getD_eq_getElem?_getD, List.getElem?_eq_getElem hic] at h2
  have h3 : cur[i] = .int .u8 (l[i].toNat : Int) := h2.lit0 rfl
  have h4 := (hi.K _ _ _ (hK i _ (List.getElem?_eq_getElem hic))).1
  rw [add_spot]
  rw [h3] at h4
  simpa [List.getD_eq_getElem?_getD, hi'] using h4
/-- A call that hands back bytes of its own: a row that grows from now on. -/
theorem DoesCall.of_own {f : FuncId} {args : List AV} {R : AOut → AS → Prop} {l : List UInt8} {T : TypeId} (hl : 0 < l.length) (hl2 : l.length ≤ 140737488355328) (hR : R (.ret (.sl true (.lin st.ln.length) (encB l))) ⟨st.bx, st.ln ++ [(l.length, T, 1)]⟩)
    (h : ∀ g w vs, Inv g st w → ASim g args vs → Calls P f vs.toArray w fun e w' => ∃ A c, e = .returned (.slice A l.length c) ∧ w'.ownsRow w.heap.size T 1 (.slice A l.length c) l.length (cellsB l) ∧ Kept w w') : DoesCall P f args st R := by
  intro g w vs hi ha
  refine (h g w vs hi ha).mono ?_
  rintro e w' ⟨A, c, rfl, ⟨_, hown⟩, hk⟩
  rcases hown with ⟨h1, h2⟩ | ⟨B, cap, cur, h1, h2, h3, h4, h5, h6, h7⟩
  · omega
  · simp only [Value.slice.injEq] at h1
    obtain ⟨rfl, _, rfl⟩ := h1
    obtain ⟨g', q1, q2, q3, q4⟩ := hi.lin_owned hk h2 cur T 1 l.length c h4 (by omega) h6 h3 (by
      intro v hv
      rw [h7] at hv
      obtain ⟨b, _, rfl⟩ := List.mem_map.1 hv
      rfl) g.ln.length (g.ln ++ [⟨some ⟨B, 0, none⟩, l.length, c, T, 1⟩]) (st.ln ++ [(l.length, T, 1)]) (by simp [hi.lnlen]) (fun i L hL => by
        split
        · rename_i hii
          subst hii
          simp at hL
          subst hL
          exact ⟨rfl, by rw [hi.lnlen]; simp⟩
        · rename_i hii
          have hlt : i < g.ln.length := by
            have := (List.getElem?_eq_some_iff.1 hL).1
            simp at this
            omega
          rw [List.getElem?_append_left hlt] at hL
          exact ⟨hL, by rw [List.getElem?_append_left (by rw [← hi.lnlen]; exact hlt)]⟩)
      (fun i L hL => ⟨L, by rw [List.getElem?_append_left (List.getElem?_eq_some_iff.1 hL).1]; exact hL, Nat.le_refl _, fun _ => rfl⟩)
    refine ⟨g', _, _, q1, q3, .ret _ _ ?_, hR⟩
    rw [h7] at q4
    have := encB_len l
    have hsl : VSim g' (.sl true (.lin st.ln.length) (encB l)) (.slice (some ⟨B, 0, none⟩) (encB l).length c) := by
      refine .sl true _ (encB l) (some ⟨B, 0, none⟩) c 1 (fun j => (cellsB l).getD j undef) (by omega) (by omega) (encB_lens l) (fun j y hy => ?_) (fun _ => ⟨B, 0, rfl, fun _ => by rw [show g'.base = g.base by unfold Gh.base; rw [q1.w0]]; exact Nat.le_trans hi.base_le h2, fun j y hy => ?_⟩) (fun j y hy => ?_) ?_
      · obtain ⟨b, _, rfl⟩ := encB_getR l j y hy
        exact ⟨rfl, rfl⟩
      · obtain ⟨b, hb, rfl⟩ := encB_getR l j y hy
        rw [Nat.zero_add]
        refine q4 j _ ?_
        rw [List.getD_eq_getElem?_getD]
        simp [cellsB, hb]
      · obtain ⟨b, hb, rfl⟩ := encB_getR l j y hy
        rw [List.getD_eq_getElem?_getD]
        simp [cellsB, hb]
        exact .s _ rfl
      · refine ⟨⟨some ⟨B, 0, none⟩, l.length, c, T, 1⟩, by rw [q2, ← hi.lnlen]; simp, by rw [this]; exact Nat.le_refl _, fun _ => ⟨rfl, rfl⟩⟩
    rwa [this] at hsl
end
/-! ### Bytes behind bytes -/
theorem encB_app (l m : List UInt8) : encB l ++ encB m = encB (l ++ m) := by simp [encB]
theorem encB_one1 {x : Int} {b : UInt8} (h : (b.toNat : Int) = x) : [[AV.s (.int .u8 x)]] = encB [b] := by subst h; rfl
theorem aapp_bytes {e id : Nat} {own : Bool} {l m : List UInt8} {news : List (List AV)} {B : List (List AV)} {L : List (Nat × Nat × Nat)} {K : AV → AS → Prop} (hm : news = encB m) (hL : L[id]? = some (l.length, e, 1))
    (hb : l.length + m.length ≤ 140737488355328) (h : K (.sl true (.lin id) (encB (l ++ m))) ⟨B, L.set id (l.length + m.length, e, 1)⟩) : aapp e 1 1 (.sl own (.lin id) (encB l)) news ⟨B, L⟩ K := by
  subst hm
  refine ⟨by rw [encB_len, encB_len]; omega, by rw [encB_len]; exact hL, encB_lens l, ?_⟩
  rw [encB_app, encB_len, List.length_append]
  exact h
theorem set_in {α : Type} {L : List α} {id : Nat} {x y : α} {r : List α} (h : L[id]? = some y) : (L ++ r).set id x = L.set id x ++ r := List.set_append_left _ _ (List.getElem?_eq_some_iff.1 h).1
theorem get_in {α : Type} {L : List α} {id : Nat} {y : α} {r : List α} (h : L[id]? = some y) : (L ++ r)[id]? = some y := by rw [List.getElem?_append_left (List.getElem?_eq_some_iff.1 h).1]; exact h
theorem set_same {α : Type} {L : List α} {id : Nat} {y : α} (h : L[id]? = some y) : L.set id y = L := by
  obtain ⟨h1, rfl⟩ := List.getElem?_eq_some_iff.1 h
  exact List.set_getElem_self h1
theorem get_set {α : Type} {L : List α} {id : Nat} {x y : α} (h : L[id]? = some y) : (L.set id x)[id]? = some x := by
  rw [List.getElem?_set_self (List.getElem?_eq_some_iff.1 h).1]
theorem get_set_in {α : Type} {L : List α} {id : Nat} {x y : α} {r : List α} (h : L[id]? = some y) : (L.set id x ++ r)[id]? = some x := get_in (get_set h)
theorem set_set_in {α : Type} {L : List α} {id : Nat} {x y z : α} {r : List α} (h : L[id]? = some y) : (L.set id x ++ r).set id z = L.set id z ++ r := by
  rw [set_in (get_set h), List.set_set]
/-- The end of a function that laid bytes behind a row that it was handed. -/
theorem end_keep {st : AS} {id e : Nat} {own : Bool} {l : List UInt8} {n k : Nat} {l1 : List (List AV)} {r : List (Nat × Nat × Nat)} {R : AOut → AS → Prop} (h : st.ln[id]? = some (n, e, 1)) (hR : R (.ret (.sl own (.lin id) (encB l))) ⟨st.bx, st.ln.set id (k, e, 1)⟩) :
    RetForm st (.sl own (.lin id) (encB l)) ⟨st.bx ++ l1, st.ln.set id (k, e, 1) ++ r⟩ R := by
  have hlt := (List.getElem?_eq_some_iff.1 h).1
  refine .keep (InB_lin.2 hlt) .app ?_
  have : AS.cut ⟨st.bx ++ l1, st.ln.set id (k, e, 1) ++ r⟩ st.bx.length st.ln.length = ⟨st.bx, st.ln.set id (k, e, 1)⟩ := by
    simp only [AS.cut, List.take_left]
    congr 1
    rw [List.take_append_of_le_length (by simp), List.take_of_length_le (by simp)]
  rw [this]
  exact hR
def GApp (P : Program) (e : Nat) (f : FuncId) (args : List AV) (news : List UInt8) : Prop :=
  ∀ (st : AS) (id : Nat) (own : Bool) (l : List UInt8) (R : AOut → AS → Prop), st.ln[id]? = some (l.length, e, 1) → l.length + news.length ≤ 140737488355328 → R (.ret (.sl true (.lin id) (encB (l ++ news)))) ⟨st.bx, st.ln.set id (l.length + news.length, e, 1)⟩ →
    DoesCall P f (.sl own (.lin id) (encB l) :: args) st R
theorem app_end {R : AOut → AS → Prop} {bx : List (List AV)} {L : List (Nat × Nat × Nat)} {id e n n' : Nat} {a a' : List UInt8} (h : R (.ret (.sl true (.lin id) (encB a))) ⟨bx, L.set id (n, e, 1)⟩) (h1 : a = a') (h2 : n = n') :
    R (.ret (.sl true (.lin id) (encB a'))) ⟨bx, L.set id (n', e, 1)⟩ := by subst h1 h2; exact h
end Go.Proofs.YtddmhilamoghcaaDoor
/- Rounds and ends: boxes that change and boxes that go. No program. -/
set_option linter.unusedVariables false
set_option linter.unusedSimpArgs false
namespace Go.Proofs.YtddmhilamoghcaaDoor
open Go.RowKit
theorem cut_as {S l l' m : List (List AV)} {K K' : List (Nat × Nat × Nat)} (hl : l'.length = l.length) (h : K'.length = K.length) : AS.cut ⟨S ++ (l' ++ m), K'⟩ (S ++ l).length K.length = ⟨S ++ l', K'⟩ := by
  unfold AS.cut
  rw [← h, List.take_length, List.length_append, ← hl, ← List.length_append, ← List.append_assoc, List.take_left]
theorem boxes_as {S l l' m : List (List AV)} {K K' : List (Nat × Nat × Nat)} (hl : l'.length = l.length) (h : ∀ (i : Nat) c, l'[i]? = some c → l[i]? = some c ∨ ∀ x ∈ c, InB (S ++ l).length K.length x) : BoxesOk ⟨S ++ l, K⟩ ⟨S ++ (l' ++ m), K'⟩ := by
  intro i cs hi hc
  simp only at hi hc ⊢
  rcases Nat.lt_or_ge i S.length with hlt | hge
  · rw [List.getElem?_append_left hlt] at hc
    exact .inl (by rw [List.getElem?_append_left hlt]; exact hc)
  · rw [List.getElem?_append_right hge] at hc
    have hil : i - S.length < l'.length := by simp at hi; omega
    rw [List.getElem?_append_left hil] at hc
    rcases h _ _ hc with h1 | h1
    · exact .inl (by rw [List.getElem?_append_right hge]; exact h1)
    · exact .inr h1
/-- Forget the boxes and rows of one's own that are behind. -/
theorem box_same {α : Type} {l l' : List α} (P : α → Prop) (h : l' = l) : ∀ (i : Nat) c, l'[i]? = some c → l[i]? = some c ∨ P c := fun i c hc => .inl (by rw [← h]; exact hc)
theorem box_cons {α : Type} {P : α → Prop} {a b : α} {l m : List α} (h0 : a = b ∨ P a) (h : ∀ (i : Nat) c, l[i]? = some c → m[i]? = some c ∨ P c) : ∀ (i : Nat) c, (a :: l)[i]? = some c → (b :: m)[i]? = some c ∨ P c := fun i c hc => by
  cases i with
  | zero =>
    obtain rfl : a = c := by simpa using hc
    rcases h0 with rfl | h0
    · exact .inl rfl
    · exact .inr h0
  | succ i => simpa using h i c (by simpa using hc)
theorem box_nil {α : Type} {P : α → Prop} : ∀ (i : Nat) c, ([] : List α)[i]? = some c → ([] : List α)[i]? = some c ∨ P c := fun i c hc => by simp at hc
/-- A map's box that speaks of no box and no row. -/
theorem mapBox_InB {n m : Nat} {l : List (Value × AV)} (hk : ∀ p ∈ l, oneV p.1 = true ∧ AV.ofV p.1 = .s p.1) (h : ∀ p ∈ l, InB n m p.2) : ∀ x ∈ mapBox l, InB n m x := by
  intro x hx
  obtain rfl : x = .tup (l.map fun p => .tup [AV.ofV p.1, p.2]) := by simpa [mapBox] using hx
  refine .tup _ fun y hy => ?_
  obtain ⟨p, hp, rfl⟩ := List.mem_map.1 hy
  refine .tup _ fun z hz => ?_
  rcases List.mem_cons.1 hz with rfl | hz
  · rw [(hk p hp).2]; exact .s _
  · obtain rfl : z = p.2 := by simpa using hz
    exact h p hp
/-! ### Slices cut -/
theorem slice_hi {P : Program} {t e sz bs s : Nat} {ag : Bool} {z : AV} {own : Bool} {tag : Tag} {es : List (List AV)} {ik : IntKind} {k : Nat} {K : AV → Prop} (ht : tyOf P t = some ⟨s, ag, z, .slice e sz bs⟩) (hk : k ≤ es.length) (hp : 0 < sz) (hl : ∀ e ∈ es, e.length = sz)
    (h : K (.sl own .none (es.take k))) : aslice P t (.sl own tag es) none (some (.s (.int ik k))) K := by
  simp only [aslice, ht, Option.getD]
  refine ⟨by omega, by omega, by omega, hp, hl, ?_⟩
  simpa using h
theorem slice_lo {P : Program} {t e sz bs s : Nat} {ag : Bool} {z : AV} {own : Bool} {tag : Tag} {es : List (List AV)} {ik : IntKind} {k : Nat} {K : AV → Prop} (ht : tyOf P t = some ⟨s, ag, z, .slice e sz bs⟩) (hk : k ≤ es.length) (hp : 0 < sz) (hl : ∀ e ∈ es, e.length = sz)
    (h : K (.sl own .none (es.drop k))) : aslice P t (.sl own tag es) (some (.s (.int ik k))) none K := by
  simp only [aslice, ht, Option.getD]
  refine ⟨by omega, by omega, by omega, hp, hl, ?_⟩
  simpa using h
theorem slice_lh {P : Program} {t e sz bs s : Nat} {ag : Bool} {z : AV} {own : Bool} {tag : Tag} {es : List (List AV)} {ik ik' : IntKind} {j k : Nat} {K : AV → Prop} (ht : tyOf P t = some ⟨s, ag, z, .slice e sz bs⟩) (hj : j ≤ k) (hk : k ≤ es.length) (hp : 0 < sz) (hl : ∀ e ∈ es, e.length = sz)
    (h : K (.sl own .none ((es.take k).drop j))) : aslice P t (.sl own tag es) (some (.s (.int ik j))) (some (.s (.int ik' k))) K := by
  simp only [aslice, ht, Option.getD]
  refine ⟨by omega, by omega, by omega, hp, hl, ?_⟩
  simpa using h
/-- Bytes told as a text. -/
theorem conv_bytes {P : Program} {s d e bs s1 s2 s3 : Nat} {a1 a2 a3 : Bool} {z1 z2 z3 : AV} {own : Bool} {tag : Tag} {l : List UInt8} {ln : List (Nat × Nat × Nat)} {K : AV → Prop} (h1 : tyOf P s = some ⟨s1, a1, z1, .slice e 1 bs⟩) (h2 : tyOf P d = some ⟨s2, a2, z2, .string⟩) (h3 : tyOf P e = some ⟨s3, a3, z3, .int .u8⟩)
    (h : K (.s (.string ⟨l.toArray⟩))) : aconv P s d (.sl own tag (encB l)) ln K := by
  simp only [aconv, h1, h2, h3]
  exact ⟨l, rfl, h⟩
theorem encB_cut (l : List UInt8) (q n : Nat) : ((encB l).take (q + n)).drop q = encB ((l.drop q).take n) := by
  unfold encB
  rw [List.drop_take, Nat.add_sub_cancel_left, List.map_take, List.map_drop]
end Go.Proofs.YtddmhilamoghcaaDoor
/- A box of the caller's that is written: a reader's. No program. -/
set_option linter.unusedVariables false
set_option linter.unusedSimpArgs false
namespace Go.Proofs.YtddmhilamoghcaaDoor
open Go.RowKit
section
variable {α : Type} {B m : List α} {id k : Nat} {x y : α}
theorem bset_app (h : id < B.length) : (B ++ m).set id x = B.set id x ++ m := List.set_append_left _ _ h
theorem bget_app (h : id < B.length) : (B.set id x ++ m)[id]? = some x := by
  rw [List.getElem?_append_left (by simpa using h), List.getElem?_set_self h]
theorem bget (h : id < B.length) : (B.set id x)[id]? = some x := List.getElem?_set_self h
theorem bown : (B.set id x ++ m)[B.length + k]? = m[k]? := by rw [List.getElem?_append_right (by simp)]; simp
theorem bown0 : (B.set id x ++ m)[B.length]? = m[0]? := by rw [List.getElem?_append_right (by simp)]; simp
theorem bsown : (B.set id x ++ m).set (B.length + k) y = B.set id x ++ m.set k y := by rw [List.set_append_right _ _ (by simp)]; simp
theorem bsown0 : (B.set id x ++ m).set B.length y = B.set id x ++ m.set 0 y := by rw [List.set_append_right _ _ (by simp)]; simp
theorem bset_app2 (h : id < B.length) : (B.set id x ++ m).set id y = B.set id y ++ m := by rw [bset_app (by simpa using h), List.set_set]
end
section
variable {st : AS} {id : Nat} {c' : List AV} {m : List (List AV)} {K k : List (Nat × Nat × Nat)} {R : AOut → AS → Prop}
theorem boxes_set (hc : ∀ x ∈ c', InB st.bx.length st.ln.length x) : BoxesOk st ⟨st.bx.set id c' ++ m, K⟩ := by
  intro i cs hi hcs
  simp only at hcs
  rw [List.getElem?_append_left (by simpa using hi), List.getElem?_set] at hcs
  split at hcs
  · split at hcs
    · obtain rfl := Option.some.inj hcs
      exact .inr hc
    · cases hcs
  · exact .inl hcs
theorem cut_set : AS.cut ⟨st.bx.set id c' ++ m, st.ln ++ k⟩ st.bx.length st.ln.length = ⟨st.bx.set id c', st.ln⟩ := by
  unfold AS.cut
  rw [List.take_left, show st.bx.length = (st.bx.set id c').length by simp, List.take_left]
/-- The end of a function that has written a box of its caller's. -/
theorem end_rd {v r : AV} (hc : ∀ x ∈ c', InB st.bx.length st.ln.length x) (hv : v.forget = r) (hb : InB st.bx.length st.ln.length r) (hR : R (.ret r) ⟨st.bx.set id c', st.ln⟩) : RetForm st v ⟨st.bx.set id c' ++ m, st.ln ++ k⟩ R := by
  subst hv
  exact .forget hb (boxes_set hc) (by rw [cut_set]; exact hR)
theorem end_rd1 {v r : AV} (hc : ∀ x ∈ c', InB st.bx.length st.ln.length x) (hv : v.forget = r) (hb : InB st.bx.length st.ln.length r) (hR : R (.ret r) ⟨st.bx.set id c', st.ln⟩) : RetForm st v ⟨st.bx.set id c' ++ m, st.ln⟩ R := by
  have := end_rd (m := m) (k := []) hc hv hb hR
  simpa using this
theorem end_rd0 {v r : AV} (hc : ∀ x ∈ c', InB st.bx.length st.ln.length x) (hv : v.forget = r) (hb : InB st.bx.length st.ln.length r) (hR : R (.ret r) ⟨st.bx.set id c', st.ln⟩) : RetForm st v ⟨st.bx.set id c', st.ln⟩ R := by
  have := end_rd (m := []) (k := []) hc hv hb hR
  simpa using this
theorem pan_rd {v : AV} (hc : ∀ x ∈ c', InB st.bx.length st.ln.length x) (hb : InB st.bx.length st.ln.length v) (hR : R (.panic v) ⟨st.bx.set id c', st.ln⟩) :
    InB st.bx.length st.ln.length v ∧ BoxesOk st ⟨st.bx.set id c' ++ m, st.ln ++ k⟩ ∧ R (.panic v) (AS.cut ⟨st.bx.set id c' ++ m, st.ln ++ k⟩ st.bx.length st.ln.length) :=
  ⟨hb, boxes_set hc, by rw [cut_set]; exact hR⟩
theorem pan_rd1 {v : AV} (hc : ∀ x ∈ c', InB st.bx.length st.ln.length x) (hb : InB st.bx.length st.ln.length v) (hR : R (.panic v) ⟨st.bx.set id c', st.ln⟩) :
    InB st.bx.length st.ln.length v ∧ BoxesOk st ⟨st.bx.set id c' ++ m, st.ln⟩ ∧ R (.panic v) (AS.cut ⟨st.bx.set id c' ++ m, st.ln⟩ st.bx.length st.ln.length) := by
  have := pan_rd (m := m) (k := []) hc hb hR
  simpa using this
theorem pan_rd0 {v : AV} (hc : ∀ x ∈ c', InB st.bx.length st.ln.length x) (hb : InB st.bx.length st.ln.length v) (hR : R (.panic v) ⟨st.bx.set id c', st.ln⟩) :
    InB st.bx.length st.ln.length v ∧ BoxesOk st ⟨st.bx.set id c', st.ln⟩ ∧ R (.panic v) (AS.cut ⟨st.bx.set id c', st.ln⟩ st.bx.length st.ln.length) := by
  have := pan_rd (m := []) (k := []) hc hb hR
  simpa using this
end
/-- What a call answers may be told less exactly. -/
def WkR (R : AOut → AS → Prop) : AOut → AS → Prop := fun o st' => (∃ v, o = .panic v ∧ R o st') ∨ ∃ v v', o = .ret v ∧ Wk v v' ∧ R (.ret v') st'
theorem wkr_ret {R : AOut → AS → Prop} {v v' : AV} {st : AS} (h : Wk v v') (hR : R (.ret v') st) : WkR R (.ret v) st := .inr ⟨v, v', rfl, h, hR⟩
theorem wkr_pan {R : AOut → AS → Prop} {v : AV} {st : AS} (hR : R (.panic v) st) : WkR R (.panic v) st := .inl ⟨v, rfl, hR⟩
theorem DoesCall.weakR {P : Program} {f : FuncId} {args : List AV} {st : AS} {R : AOut → AS → Prop}
    (h : DoesCall P f args st (WkR R)) : DoesCall P f args st R :=
  fun g w vs hi ha => (h g w vs hi ha).mono fun e w' ⟨g', o, st', h1, h2, h3, h4⟩ => by
    rcases h4 with ⟨v, rfl, h4⟩ | ⟨v, v', rfl, h4, h5⟩
    · exact ⟨g', _, st', h1, h2, h3, h4⟩
    · cases h3 with
      | ret _ x hx => exact ⟨g', .ret v', st', h1, h2, .ret _ _ (h4 _ _ hx), h5⟩
def retCT (st st' : AS) (R : AOut → AS → Prop) (ws : List AV) : AV → Prop := fun v => RetForm st (.tup (v :: ws)) st' R
theorem retCT_app {st st' : AS} {R : AOut → AS → Prop} {ws : List AV} {v : AV} : retCT st st' R ws v = RetForm st (.tup (v :: ws)) st' R := no_rfl rfl
theorem endsCT {P : Program} {st st' : AS} {R : AOut → AS → Prop} {fr : AFr} {a u : Tmp} {t : TypeId} : Ends P [.cell a t, .tmp u] st R fr st' = aload (tyOf P t) (look fr.l a) st' (retCT st st' R [look fr.l u]) := no_rfl rfl
theorem endsCTT {P : Program} {st st' : AS} {R : AOut → AS → Prop} {fr : AFr} {a u v : Tmp} {t : TypeId} : Ends P [.cell a t, .tmp u, .tmp v] st R fr st' = aload (tyOf P t) (look fr.l a) st' (retCT st st' R [look fr.l u, look fr.l v]) := no_rfl rfl
theorem panic_ifc {t : TypeId} {v : AV} {st : AS} {X : AV → AS → Prop} : apanic (.ifc t v) st X = X (.ifc t v) st := no_rfl rfl
/-- It answers what says at least v. -/
def GW (st : AS) (v : AV) : AOut → AS → Prop := fun o st' => ∃ v', o = .ret v' ∧ Wk v' v ∧ st' = st
theorem Gives.of_GW {P : Program} {f : FuncId} {args : List AV} {v : AV} (h : ∀ st, DoesCall P f args st (GW st v)) : Gives P f args v :=
  fun st => .weakR ((h st).mono fun o st' ⟨v', h1, h2, h3⟩ => .inr ⟨v', v, h1, h2, rfl, h3⟩)
theorem end_w {st : AS} {u v : AV} {l : List (List AV)} {k : List (Nat × Nat × Nat)} (hb : InB st.bx.length st.ln.length u.forget) (hw : Wk u.forget v) : RetForm st u ⟨st.bx ++ l, st.ln ++ k⟩ (GW st v) :=
  .forget hb .app ⟨_, rfl, hw, cut_app⟩
theorem end_w1 {st : AS} {u v : AV} {l : List (List AV)} (hb : InB st.bx.length st.ln.length u.forget) (hw : Wk u.forget v) : RetForm st u ⟨st.bx ++ l, st.ln⟩ (GW st v) :=
  .forget hb .app ⟨_, rfl, hw, cut_app1⟩
theorem Wk.tup3 {a a' b c : AV} (h : Wk a a') : Wk (.tup [a, b, c]) (.tup [a', b, c]) := by
  intro g x hx
  cases hx with
  | tup l y hs hh =>
    refine .tup _ y hs fun i z hz => ?_
    match i, hz with
    | 0, hz => obtain rfl := Option.some.inj hz; exact h _ _ (hh 0 _ rfl)
    | 1, hz => obtain rfl := Option.some.inj hz; exact hh 1 _ rfl
    | 2, hz => obtain rfl := Option.some.inj hz; exact hh 2 _ rfl
theorem Wk.tup2 {a a' b : AV} (h : Wk a a') : Wk (.tup [a, b]) (.tup [a', b]) := by
  intro g x hx
  cases hx with
  | tup l y hs hh =>
    refine .tup _ y hs fun i z hz => ?_
    match i, hz with
    | 0, hz => obtain rfl := Option.some.inj hz; exact h _ _ (hh 0 _ rfl)
    | 1, hz => obtain rfl := Option.some.inj hz; exact hh 1 _ rfl
/-- A reader's two cells. -/
def rdr (o : Bool) (l : List UInt8) (p : Nat) : List AV := [.sl o .none (encB l), .s (.int .i64 p)]
theorem rdr_InB {o : Bool} {l : List UInt8} {p n m : Nat} : ∀ x ∈ rdr o l p, InB n m x := by
  intro x hx
  simp only [rdr, List.mem_cons, List.mem_nil_iff, or_false] at hx
  rcases hx with rfl | rfl
  · exact InB_none.2 trivial
  · exact .s _
/-- What is read, and the place behind it; or why nothing. -/
inductive Rd (α : Type) where
  | ok (a : α) (p : Nat)
  | no (e : Int)
/-- A reader's method: it reads r, or panics with the error. -/
def RdCall {α : Type} (P : Program) (T : TypeId) (f : FuncId) (args : List AV) (l : List UInt8) (p : Nat) (r : Rd α) (enc : α → AV) : Prop :=
  ∀ (st : AS) (id : Nat) (o : Bool) (R : AOut → AS → Prop), st.bx[id]? = some (rdr o l p) → (∀ a q, r = .ok a q → R (.ret (enc a)) ⟨st.bx.set id (rdr o l q), st.ln⟩) →
    (∀ e q, r = .no e → R (.panic (.ifc T (.agg [.s (.int .i64 e)]))) ⟨st.bx.set id (rdr o l q), st.ln⟩) → DoesCall P f (.bp id 0 :: args) st R
theorem wrong_InB {n m : Nat} {T : TypeId} {e : Int} : InB n m (.ifc T (.agg [.s (.int .i64 e)])) := by simp [InB_ifc, InB_agg, InB_s]
/-! ### Every order, where an operation in between turns the store -/
def ordS (P : Program) (ops : Array Oper) (X : AV → AS → Prop) (N : AFr → AS → Prop) (S : AS → Prop) : List (Bool × Bool) → List Oper → AFr → AS → Prop
  | [], [], fr, st => N fr st
  | (true, _) :: fl, o :: os, fr, st => S st ∧ awant (wantB ops fr o) (∃ v, (∀ s, S s → afree P fr.eval o.op o.type s (fun u => u = v)) ∧ ordS P ops X N S fl os (fr.put o.dst v) st) (ordS P ops X N S fl os (fr.put o.dst .und) st)
  | (false, late) :: fl, o :: os, fr, st => awant (wantB ops fr o) (aexec P fr.eval o.op o.type st (fun v st' => (late = false → S st') ∧ ordS P ops X N S fl os (fr.put o.dst v) st') X) ((late = false → S st) ∧ ordS P ops X N S fl os (fr.put o.dst .und) st)
  | _, _, _, _ => False
theorem ordS_ord {P : Program} {l : List Oper} {X : AV → AS → Prop} {N : AFr → AS → Prop} {S : AS → Prop} (all : List Nat) : ∀ (fl : List (Bool × Bool)) (os : List Oper) (k : Nat) (fr : AFr) (st : AS), (∀ j, os[j]? = l[k + j]?) → (∀ i, k ≤ i → (i ∈ all ↔ i ∈ lates k fl)) →
    ordS P l.toArray X N S fl os fr st → aord P l.toArray X N S all (orders k fl) fr st
  | [], [], k, fr, st, _, _, h => h
  | (true, lt) :: fl, o :: os, k, fr, st, hl, ha, h => by
    obtain ⟨h1, h2⟩ := h
    have ho : l.toArray[k]? = some o := by have := hl 0; simpa using this.symm
    have hl' : ∀ j, os[j]? = l[k + 1 + j]? := fun j => by have := hl (j + 1); simpa [Nat.add_assoc, Nat.add_comm 1 j] using this
    have ha' : ∀ i, k + 1 ≤ i → (i ∈ all ↔ i ∈ lates (k + 1) fl) := fun i hi => by
      have := ha i (by omega)
      rw [this]
      cases lt with
      | true => simp only [lates, List.mem_cons]; constructor
                · rintro (h | h)
                  · omega
                  · exact h
                · exact .inr
      | false => rfl
    refine ⟨h1, o, ?_⟩
    unfold awant at h2
    split at h2
    · rename_i t ht
      cases t with
      | true =>
        obtain ⟨v, k1, k2⟩ := h2.1 rfl
        refine ⟨v, ho, .inl ⟨ht, fun s J X' hs hj => ?_⟩, ordS_ord all fl os (k + 1) _ _ hl' ha' k2⟩
        obtain ⟨u, q1, q2⟩ := afree_yields (k1 s hs)
        subst q1
        exact q2 J X' hj
      | false => exact ⟨.und, ho, .inr ⟨ht, rfl⟩, ordS_ord all fl os (k + 1) _ _ hl' ha' (h2.2 rfl)⟩
    · exact h2.elim
  | (false, lt) :: fl, o :: os, k, fr, st, hl, ha, h => by
    have ho : l.toArray[k]? = some o := by have := hl 0; simpa using this.symm
    have hl' : ∀ j, os[j]? = l[k + 1 + j]? := fun j => by have := hl (j + 1); simpa [Nat.add_assoc, Nat.add_comm 1 j] using this
    have ha' : ∀ i, k + 1 ≤ i → (i ∈ all ↔ i ∈ lates (k + 1) fl) := fun i hi => by
      have := ha i (by omega)
      rw [this]
      cases lt with
      | true => simp only [lates, List.mem_cons]; constructor
                · rintro (h | h)
                  · omega
                  · exact h
                · exact .inr
      | false => rfl
    have hlate : k ∉ all → lt = false := fun hk => by
      cases lt with
      | true => exact absurd ((ha k (Nat.le_refl _)).2 (by simp [lates])) hk
      | false => rfl
    have go : ∀ fr' st', ((lt = false → S st') ∧ ordS P l.toArray X N S fl os fr' st') → (k ∉ all → S st') ∧ ((k ∉ all → S st') → aord P l.toArray X N S all (orders (k + 1) fl) fr' st') := fun fr' st' ⟨q1, q2⟩ =>
      ⟨fun hk => q1 (hlate hk), fun _ => ordS_ord all fl os (k + 1) fr' st' hl' ha' q2⟩
    unfold ordS at h
    show aopX P l.toArray X k _ fr st
    unfold aopX
    simp only [ho]
    unfold awant at h ⊢
    split at h
    · exact ⟨fun e => aexec_mono (fun v s hv => go _ _ hv) (fun _ _ h => h) (h.1 e), fun e => go _ _ (h.2 e)⟩
    · exact h.elim
  | [], _ :: _, k, fr, st, _, _, h => by simp [ordS] at h
  | (true, _) :: _, [], k, fr, st, _, _, h => by simp [ordS] at h
  | (false, _) :: _, [], k, fr, st, _, _, h => by simp [ordS] at h
theorem drawS {P : Program} {l : List Oper} {X : AV → AS → Prop} {N : AFr → AS → Prop} {fr : AFr} {st : AS} (S : AS → Prop) (fl : List (Bool × Bool)) (hm : P.follows .mixedOrders = true)
    (hB : (Region.noSelect l.toArray && (orders 0 fl).length == l.toArray.size && ordC .any l.toArray (lates 0 fl) (orders 0 fl) (Array.replicate l.toArray.size false)) = true)
    (h : ordS P l.toArray X N S fl l fr st) : ADraw P l.toArray X N fr st :=
  ADraw.of_ord (S := S) (lates 0 fl) (orders 0 fl) hm hB (ordS_ord (lates 0 fl) fl l 0 fr st (fun j => by simp) (fun i _ => .rfl) h)
section
variable {P : Program} {ops : Array Oper} {X : AV → AS → Prop} {N : AFr → AS → Prop} {S : AS → Prop} {st : AS} {fr : AFr} {ty : TypeId}
def ordSK (P : Program) (ops : Array Oper) (X : AV → AS → Prop) (N : AFr → AS → Prop) (S : AS → Prop) (late : Bool) (fl : List (Bool × Bool)) (os : List Oper) (fr : AFr) (dst : Option Tmp) : AV → AS → Prop := fun v st => (late = false → S st) ∧ ordS P ops X N S fl os (fr.put dst v) st
theorem ordSK_not {fl : List (Bool × Bool)} {os : List Oper} {dst : Option Tmp} {v : AV} : ordSK P ops X N S false fl os fr dst v st = (S st ∧ ordS P ops X N S fl os (fr.put dst v) st) := by simp [ordSK]
theorem ordSK_late {fl : List (Bool × Bool)} {os : List Oper} {dst : Option Tmp} {v : AV} : ordSK P ops X N S true fl os fr dst v st = ordS P ops X N S fl os (fr.put dst v) st := by simp [ordSK]
theorem ordS_nil : ordS P ops X N S [] [] fr st = N fr st := no_rfl rfl
theorem ordS_solo {b : Bool} {fl : List (Bool × Bool)} {dst : Option Tmp} {op : Op} {pos : String} {after : Array Edge} {os : List Oper} : ordS P ops X N S ((false, b) :: fl) (⟨dst, op, ty, pos, after, none⟩ :: os) fr st =
    aexec P fr.eval op ty st (ordSK P ops X N S b fl os fr dst) X :=
  propext ⟨fun h => h.1 rfl, fun h => ⟨fun _ => h, fun e => by cases e⟩⟩
theorem ordS_free {b : Bool} {fl : List (Bool × Bool)} {dst : Option Tmp} {op : Op} {pos : String} {after : Array Edge} {os : List Oper} (v : AV) (hS : S st) (h : ∀ s, S s → afree P fr.eval op ty s (fun u => u = v)) (k : ordS P ops X N S fl os (fr.put dst v) st) :
    ordS P ops X N S ((true, b) :: fl) (⟨dst, op, ty, pos, after, none⟩ :: os) fr st := ⟨hS, fun _ => ⟨v, h, k⟩, fun e => by cases e⟩
end
/-- The store, but for where a reader stands. -/
def AtSome (B : List (List AV)) (id : Nat) (o : Bool) (l : List UInt8) (m : List (List AV)) (ln : List (Nat × Nat × Nat)) : AS → Prop := fun s => ∃ q, s = ⟨B.set id (rdr o l q) ++ m, ln⟩
/-! ### Rounds -/
theorem cut_len {st : AS} {n m : Nat} (h1 : st.bx.length = n) (h2 : st.ln.length = m) : st.cut n m = st := by
  subst h1 h2
  exact cut_same
theorem cut_to2 {B l' m : List (List AV)} {K' : List (Nat × Nat × Nat)} {n k : Nat} (h1 : (B ++ l').length = n) (h2 : K'.length = k) : AS.cut ⟨B ++ (l' ++ m), K'⟩ n k = ⟨B ++ l', K'⟩ := by
  subst h1 h2
  unfold AS.cut
  rw [List.take_length, ← List.append_assoc, List.take_left]
theorem boxes_as0 {S l l' : List (List AV)} {K K' : List (Nat × Nat × Nat)} (hl : l'.length = l.length) (h : ∀ (i : Nat) c, l'[i]? = some c → l[i]? = some c ∨ ∀ x ∈ c, InB (S ++ l).length K.length x) : BoxesOk ⟨S ++ l, K⟩ ⟨S ++ l', K'⟩ := by
  have := boxes_as (m := []) (K' := K') hl h
  rwa [List.append_nil] at this
theorem boxes_rd {B l l' m : List (List AV)} {x x' : List AV} {id : Nat} {K K' : List (Nat × Nat × Nat)} (hl : l'.length = l.length) (hx : ∀ c ∈ x', InB (B.set id x ++ l).length K.length c)
    (h : ∀ (i : Nat) c, l'[i]? = some c → l[i]? = some c ∨ ∀ y ∈ c, InB (B.set id x ++ l).length K.length y) : BoxesOk ⟨B.set id x ++ l, K⟩ ⟨B.set id x' ++ (l' ++ m), K'⟩ := by
  intro i cs hi hc
  simp only at hi hc ⊢
  rcases Nat.lt_or_ge i B.length with hlt | hge
  · rw [List.getElem?_append_left (by simpa using hlt), List.getElem?_set] at hc
    rw [List.getElem?_append_left (by simpa using hlt), List.getElem?_set]
    split at hc
    · rename_i he
      rw [if_pos (he ▸ hlt)] at hc
      obtain rfl := Option.some.inj hc
      exact .inr hx
    · rename_i he
      rw [if_neg he]
      exact .inl hc
  · rw [List.getElem?_append_right (by simpa using hge)] at hc
    rw [List.getElem?_append_right (by simpa using hge)]
    simp only [List.length_set] at hc hi ⊢
    have hil : i - B.length < l'.length := by simp at hi; omega
    rw [List.getElem?_append_left hil] at hc
    exact h _ _ hc
theorem boxes_rd0 {B l l' : List (List AV)} {x x' : List AV} {id : Nat} {K K' : List (Nat × Nat × Nat)} (hl : l'.length = l.length) (hx : ∀ c ∈ x', InB (B.set id x ++ l).length K.length c)
    (h : ∀ (i : Nat) c, l'[i]? = some c → l[i]? = some c ∨ ∀ y ∈ c, InB (B.set id x ++ l).length K.length y) : BoxesOk ⟨B.set id x ++ l, K⟩ ⟨B.set id x' ++ l', K'⟩ := by
  have := boxes_rd (m := []) (K' := K') hl hx h
  rwa [List.append_nil] at this
end Go.Proofs.YtddmhilamoghcaaDoor
