/- Merged: Avm8. -/
import Derived.Test.YtjodibncpbjegaaDoorZ8
/- append, run; what an operation does is what the plain data say. No program. -/
set_option linter.unusedVariables false
set_option linter.unusedSimpArgs false
namespace Go.Proofs.YtjodibncpbjegaaDoor
open Go.RowKit

variable {P : Program} {g : Gh} {st : AS} {w : World} {K X : AV → AS → Prop}

/-- A growing row that has room. -/
theorem Inv.lin_room (hi : Inv g st w) {id b : Nat} {L : Lin} {C : Array Value} {m : Nat} {cur : List Value} (hL : g.ln[id]? = some L) (hA : L.A = some ⟨b, 0, none⟩) (hb : g.base ≤ b) (hbx : b ∉ g.bx) (hw : w.heap[b]? = some (.cells C L.e (0, 0)))
    (hcap : L.n + m ≤ L.cap) (hm : 0 < m) (hC : C.size = L.cap * L.sz) (k1 : ∀ o, o < L.n * L.sz → g.K b o = C[o]?) (k2 : ∀ o, L.n * L.sz ≤ o → g.K b o = none) (hlc : cur.length = m * L.sz) (h1 : ∀ v ∈ cur, oneV v = true) :
    ∃ g', g.le g' ∧ g'.ln = g.ln.set id { L with n := L.n + m } ∧ Inv g' { st with ln := st.ln.set id (L.n + m, L.e, L.sz) } (w.setRow b (splice C.toList (L.n * L.sz) cur).toArray) ∧
      (∀ (o : Nat) v, cur[o]? = some v → g'.K b (L.n * L.sz + o) = some v) := by
  have hid := (List.getElem?_eq_some_iff.1 hL).1
  have hle0 : L.n * L.sz + cur.length ≤ C.toList.length := by
    rw [hlc, ← Nat.add_mul]
    simp only [Array.length_toList, hC]
    exact Nat.mul_le_mul_right _ hcap
  have hspl := splice_get C.toList (L.n * L.sz) cur hle0
  have hoth : ∀ k, k ≠ b → (w.setRow b (splice C.toList (L.n * L.sz) cur).toArray).heap[k]? = w.heap[k]? := fun k hk => by
    simp only [World.setRow]
    simp [Array.getElem?_modify, Ne.symm hk]
  have hself := setRow_heap w b C (splice C.toList (L.n * L.sz) cur).toArray L.e (0, 0) hw
  have hsz : (w.setRow b (splice C.toList (L.n * L.sz) cur).toArray).heap.size = w.heap.size := by simp [World.setRow]
  have hln : ∀ (i : Nat) L', (g.ln.set id { L with n := L.n + m })[i]? = some L' → (i = id ∧ L' = { L with n := L.n + m }) ∨ (i ≠ id ∧ g.ln[i]? = some L') := fun i L' h => by
    by_cases e : i = id
    · subst e
      left
      refine ⟨rfl, ?_⟩
      rw [List.getElem?_set_self hid] at h
      exact (Option.some.inj h).symm
    · rw [List.getElem?_set_ne (Ne.symm e)] at h
      exact .inr ⟨e, h⟩
  have hle : g.le { g with K := fun b' o => if b' = b then (if o < (L.n + m) * L.sz then (splice C.toList (L.n * L.sz) cur)[o]? else none) else g.K b' o, ln := g.ln.set id { L with n := L.n + m } } := by
    refine ⟨rfl, fun b' o v hv => ?_, fun _ _ h => h, fun i L' h => ?_⟩
    · show (if b' = b then _ else g.K b' o) = some v
      split
      · rename_i e
        subst e
        have ho : o < L.n * L.sz := Nat.lt_of_not_le fun h => by rw [k2 o h] at hv; cases hv
        rw [k1 o ho] at hv
        have h2 : o < (L.n + m) * L.sz := by rw [Nat.add_mul]; omega
        rw [if_pos h2, hspl, if_pos ho]
        simpa using hv
      · exact hv
    · by_cases e : i = id
      · subst e
        rw [hL] at h
        obtain rfl := Option.some.inj h
        refine ⟨_, List.getElem?_set_self hid, by show L.n ≤ L.n + m; omega, fun he => ?_⟩
        have : L.n = L.n + m := he
        omega
      · exact ⟨L', by show (g.ln.set id _)[i]? = _; rw [List.getElem?_set_ne (Ne.symm e)]; exact h, Nat.le_refl _, fun _ => rfl⟩
  refine ⟨_, hle, rfl, ?_, fun o v hv => ?_⟩
  · refine ⟨fun b' o v hv => ?_, hi.bxlen, fun i b' cs hb' hc => ?_, fun b' hb' => ?_, hi.bxnd, by simp [hi.lnlen], fun i L' h => ?_, fun i j L1 L2 a a' hL1 hL2 hc1 hc2 ha ha' he => ?_, ?_, hi.ok, fun b' o v hv hb' => by
      by_cases e : b' = b
      · rw [e]
        intro C' T' lo hi' h
        rw [hself] at h
        cases h
        exact .inl rfl
      · rw [hoth b' e]; exact hi.nf b' o v (by simpa [e] using hv) hb'⟩
    · by_cases e : b' = b
      · subst e
        have hv' : (if o < (L.n + m) * L.sz then (splice C.toList (L.n * L.sz) cur)[o]? else none) = some v := by simpa using hv
        split at hv'
        · refine ⟨?_, ?_⟩
          · unfold World.cell?
            rw [show (w.setRow b' (splice C.toList (L.n * L.sz) cur).toArray).heap[(⟨b', o, none⟩ : Addr).block]? = _ from hself]
            simpa using hv'
          · rename_i ho
            rw [hspl] at hv'
            split at hv'
            · rename_i h3
              have := k1 o h3
              exact (hi.K b' o v (by rw [this]; simpa using hv')).2
            · rename_i h3
              rw [if_pos (by rw [hlc, ← Nat.add_mul]; exact ho)] at hv'
              exact h1 v (List.mem_of_getElem? hv')
        · cases hv'
      · have hv' : g.K b' o = some v := by simpa [e] using hv
        refine ⟨?_, (hi.K b' o v hv').2⟩
        rw [World.cell?_of_block (hoth b' e)]
        exact (hi.K b' o v hv').1
    · have hne : b' ≠ b := fun e => hbx (e ▸ List.mem_of_getElem? hb')
      obtain ⟨cur', T', e1, e2, e3⟩ := hi.bx i b' cs hb' hc
      exact ⟨cur', T', by rw [hoth b' hne]; exact e1, e2, fun j x hx => (e3 j x hx).mono hle⟩
    · have hne : b' ≠ b := fun e => hbx (e ▸ hb')
      refine ⟨(hi.bxK b' hb').1, fun o => ?_, (hi.bxK b' hb').2.2⟩
      show (if b' = b then _ else g.K b' o) = none
      rw [if_neg hne]; exact (hi.bxK b' hb').2.1 o
    · rcases hln i L' h with ⟨rfl, rfl⟩ | ⟨hne, hq⟩
      · refine ⟨?_, .inr ⟨b, _, hA, hb, hbx, hself, hcap, by show 0 < L.cap; omega, ?_, fun o ho => ?_, fun o ho => ?_⟩⟩
        · have hid' : i < st.ln.length := by rw [← hi.lnlen]; exact hid
          exact List.getElem?_set_self hid'
        · rw [List.size_toArray, splice_length _ _ _ hle0]; simpa using hC
        · show (if b = b then (if o < (L.n + m) * L.sz then _ else none) else _) = _
          have ho' : o < (L.n + m) * L.sz := ho
          rw [if_pos rfl, if_pos ho']; simp
        · show (if b = b then (if o < (L.n + m) * L.sz then _ else none) else _) = _
          have ho' : (L.n + m) * L.sz ≤ o := ho
          rw [if_pos rfl, if_neg (by omega)]
      · obtain ⟨e1, e2⟩ := hi.ln i L' hq
        refine ⟨by show (st.ln.set id _)[i]? = _; rw [List.getElem?_set_ne (Ne.symm hne)]; exact e1, ?_⟩
        rcases e2 with e2 | ⟨b', C', f1, f2, f3, f4, f5, f6, f7, f8, f9⟩
        · exact .inl e2
        · have hbb : b' ≠ b := fun e => by
            subst e
            exact hne (hi.lnd i id L' L _ _ hq hL f6 (by omega) f1 hA rfl)
          refine .inr ⟨b', C', f1, f2, f3, (hoth b' hbb).trans f4, f5, f6, f7, fun o ho => ?_, fun o ho => ?_⟩
          · show (if b' = b then _ else g.K b' o) = _
            rw [if_neg hbb]; exact f8 o ho
          · show (if b' = b then _ else g.K b' o) = _
            rw [if_neg hbb]; exact f9 o ho
    · have conv : ∀ (i : Nat) (L' : Lin), (g.ln.set id { L with n := L.n + m })[i]? = some L' → ∃ L0, g.ln[i]? = some L0 ∧ L0.A = L'.A ∧ L0.cap = L'.cap := fun i L' h => by
        rcases hln i L' h with ⟨rfl, rfl⟩ | ⟨_, h⟩
        · exact ⟨L, hL, rfl, rfl⟩
        · exact ⟨L', h, rfl, rfl⟩
      obtain ⟨M1, m1, m2, m3⟩ := conv i L1 hL1
      obtain ⟨M2, n1, n2, n3⟩ := conv j L2 hL2
      exact hi.lnd i j M1 M2 a a' m1 n1 (by omega) (by omega) (m2.trans ha) (n2.trans ha') he
    · have hbase := hb
      refine ⟨⟨Below.trans hi.kept.1.1 ⟨rfl, rfl, rfl, by rw [hsz]; exact Nat.le_refl _, fun k hk => hoth k (by
        have hk' : k < g.w0.W.heap.size := hk
        unfold Gh.base at hbase
        omega)⟩, by rw [hsz]; exact hi.kept.1.2⟩, fun k o hk => ?_⟩
      obtain ⟨z1, z2⟩ := hi.kept.2 k o hk
      refine ⟨(hoth k fun e => ?_).trans z1, z2⟩
      subst e
      rw [hw] at z1
      rw [← Option.some.inj z1] at z2
      simp [isC] at z2
  · show (if b = b then (if L.n * L.sz + o < (L.n + m) * L.sz then _ else none) else _) = _
    have ho := (List.getElem?_eq_some_iff.1 hv).1
    rw [if_pos rfl, if_pos (by rw [Nat.add_mul]; omega), hspl, if_neg (by omega), if_pos (by omega), Nat.add_sub_cancel_left]
    exact hv

theorem csim_append {g : Gh} {a b : List AV} {x y : List Value} (h : CSim g a x) (k : CSim g b y) : CSim g (a ++ b) (x ++ y) := by
  refine ⟨by simp [h.1, k.1], fun j z hz => ?_⟩
  rcases Nat.lt_or_ge j a.length with hj | hj
  · rw [List.getElem?_append_left hj] at hz
    rw [List.getD_eq_getElem?_getD, List.getElem?_append_left (by rw [h.1]; exact hj), ← List.getD_eq_getElem?_getD]
    exact h.2 j z hz
  · rw [List.getElem?_append_right hj] at hz
    rw [List.getD_eq_getElem?_getD, List.getElem?_append_right (by rw [h.1]; exact hj), h.1, ← List.getD_eq_getElem?_getD]
    exact k.2 _ z hz
theorem csim_mono {g g' : Gh} (h : g.le g') {a : List AV} {x : List Value} (hs : CSim g a x) : CSim g' a x := ⟨hs.1, fun j y hy => (hs.2 j y hy).mono h⟩
theorem lens_append {a b : List (List AV)} {sz : Nat} (h : ∀ e ∈ a, e.length = sz) (k : ∀ e ∈ b, e.length = sz) : ∀ e ∈ a ++ b, e.length = sz := fun e he => by
  rcases List.mem_append.1 he with he | he
  · exact h e he
  · exact k e he
theorem okget_append {a b : List AV} (h : ∀ (j : Nat) y, a[j]? = some y → y.one = true ∧ y.dat0 = true) (k : ∀ (j : Nat) y, b[j]? = some y → y.one = true ∧ y.dat0 = true) : ∀ (j : Nat) y, (a ++ b)[j]? = some y → y.one = true ∧ y.dat0 = true := fun j y hy => by
  rcases Nat.lt_or_ge j a.length with hj | hj
  · rw [List.getElem?_append_left hj] at hy; exact h j y hy
  · rw [List.getElem?_append_right hj] at hy; exact k _ y hy
theorem ones_of {g : Gh} {a : List AV} {x : List Value} (h : CSim g a x) (k : ∀ (j : Nat) y, a[j]? = some y → y.one = true ∧ y.dat0 = true) : ∀ v ∈ x, oneV v = true := h.one (by
  rw [List.all_eq_true]
  intro y hy
  obtain ⟨j, hj⟩ := List.getElem?_of_mem hy
  exact (k j y hj).1)

/-- What is known of append's arguments, and of the row that it grows. -/
theorem app_core (hi : Inv g st w) {t u ty e : TypeId} {i : TypeInfo} {z : Value} {sz : Nat} (ht : P.underlying t = some (.slice e)) (hinf : P.info? e = some i) (hz : i.zero = some z) (hs : i.size = sz) (hzs : z.cells.size = sz) (hpz : 0 < sz) (hpb : 0 < i.bytes)
    {news : List (List AV)} {cur : List Value} {xv av : Value} {a : AV} (hsz : ∀ x ∈ news, x.length = sz) (hok : ∀ (j : Nat) y, news.flatten[j]? = some y → y.one = true ∧ y.dat0 = true) (hc : CSim g news.flatten cur) (hsrc : _root_.Go.Src P sz u xv news.length cur w)
    (hv : VSim g a av) (h : aapp e sz i.bytes a news st K) : VRun P (Builtin.append_ #[t, u] ty #[av, xv]) g w K := by
  have hlc : cur.length = news.length * sz := hsrc.newsLen
  have hnews1 := ones_of hc hok
  -- a row that is made
  have fresh : ∀ (es : List (List AV)) (A : Option Addr) (cap : Nat) (old : List Value), (∀ e ∈ es, e.length = sz) → (∀ (j : Nat) y, es.flatten[j]? = some y → y.one = true ∧ y.dat0 = true) → CSim g es.flatten old →
      (∀ w', Inv g st w' → (Builtin.firstCells sz es.length (.slice A es.length cap)).run P w' = .ok old.toArray w') → cap < es.length + news.length → (es.length + news.length) * i.bytes ≤ 140737488355328 →
      ∀ (idx : Nat) (sln : List (Nat × Nat × Nat)) (mk : Lin → List Lin), (∀ L, (mk L).length = sln.length) →
      (∀ L0 (j : Nat) L, (mk L0)[j]? = some L → if j = idx then L = L0 ∧ sln[j]? = some ((es ++ news).length, e, sz) else g.ln[j]? = some L ∧ sln[j]? = st.ln[j]?) → (∀ L0, (mk L0)[idx]? = some L0) →
      (∀ L0 : Lin, L0.n = (es ++ news).length → ∀ (j : Nat) L, g.ln[j]? = some L → ∃ L', (mk L0)[j]? = some L' ∧ L.n ≤ L'.n ∧ (L.n = L'.n → L' = L)) →
      K (.sl true (.lin idx) (es ++ news)) { st with ln := sln } → VRun P (Builtin.append_ #[t, u] ty #[.slice A es.length cap, xv]) g w K := by
    intro es A cap old h1 h2 h3 hread hlt hb idx sln mk hmk1 hmk2 hmk3 hmk4 hK
    have hlo : old.length = es.length * sz := by rw [h3.1, flat_len es sz h1]
    obtain ⟨gc, C, hrun, hge, hCs, htake⟩ := grow_core hi (ty := ty) ht hinf hz hs hzs hlo hread hsrc hlt hb hpb
    have hcc := csim_append h3 hc
    have hokk := okget_append h2 hok
    have hlen : (es ++ news).length = es.length + news.length := by simp
    have hflat : (es ++ news).flatten = es.flatten ++ news.flatten := by simp
    obtain ⟨g', q1, q2, q3, q4⟩ := hi.drew.lin_fresh C e sz (es.length + news.length) gc hge (by omega) hCs (by rw [htake]; exact ones_of hcc hokk) idx (mk ⟨some ⟨w.heap.size, 0, none⟩, es.length + news.length, gc, e, sz⟩) sln (hmk1 _)
      (fun j L hL => by have := hmk2 _ j L hL; rw [hlen] at this; exact this) (fun j L hL => hmk4 _ (by simp) j L hL)
    rw [htake] at q4
    refine ⟨_, _, g', _, _, hrun, q1, q3, ?_, hK⟩
    rw [← hlen]
    refine sl_mk (lens_append h1 hsz) _ _ (old ++ cur) (by rw [hlen]; exact hge) (by rw [hlen]; exact Nat.le_trans (Nat.le_mul_of_pos_right _ hpb) hb) (by rw [hflat]; exact hokk) (by rw [hflat]; exact csim_mono q1 hcc) (fun _ => ⟨w.heap.size, 0, rfl, fun _ => ?_, fun j v hv => ?_⟩) ?_
    · unfold Gh.base; rw [q1.w0]; exact hi.base_le
    · rw [Nat.zero_add]; exact q4 j v hv
    · exact ⟨_, by rw [q2]; exact hmk3 _, by rw [hlen]; exact Nat.le_refl _, fun _ => ⟨rfl, rfl⟩⟩
  -- a row that is made, and stands behind the others
  have fresh' : ∀ (es : List (List AV)) (A : Option Addr) (cap : Nat) (old : List Value), (∀ e ∈ es, e.length = sz) → (∀ (j : Nat) y, es.flatten[j]? = some y → y.one = true ∧ y.dat0 = true) → CSim g es.flatten old →
      (∀ w', Inv g st w' → (Builtin.firstCells sz es.length (.slice A es.length cap)).run P w' = .ok old.toArray w') → cap < es.length + news.length → (es.length + news.length) * i.bytes ≤ 140737488355328 →
      K (.sl true (.lin st.ln.length) (es ++ news)) { st with ln := st.ln ++ [((es ++ news).length, e, sz)] } → VRun P (Builtin.append_ #[t, u] ty #[.slice A es.length cap, xv]) g w K := by
    intro es A cap old h1 h2 h3 hread hlt hb hK
    refine fresh es A cap old h1 h2 h3 hread hlt hb st.ln.length _ (fun L => g.ln ++ [L]) (fun L => by simp [hi.lnlen]) (fun L0 j L hL => ?_) (fun L0 => by rw [← hi.lnlen]; simp) (fun L0 _ j L hL => ⟨L, by rw [List.getElem?_append_left (List.getElem?_eq_some_iff.1 hL).1]; exact hL, Nat.le_refl _, fun _ => rfl⟩) hK
    split
    · rename_i hj
      subst hj
      rw [← hi.lnlen] at hL
      refine ⟨by simpa using hL.symm, by simp⟩
    · rename_i hj
      have hlt' := (List.getElem?_eq_some_iff.1 hL).1
      have hj' : j < g.ln.length := by simp [hi.lnlen] at hlt' ⊢; omega
      rw [List.getElem?_append_left hj'] at hL
      exact ⟨hL, List.getElem?_append_left (by rw [← hi.lnlen]; exact hj')⟩
  -- nothing is appended
  have none_ : ∀ (A : Option Addr) (n cap : Nat), news = [] → n ≤ cap → (Builtin.append_ #[t, u] ty #[.slice A n cap, xv]).run P w = .ok (.slice A n cap) w := by
    intro A n cap h0 hn
    subst h0
    have hcur : cur = [] := List.eq_nil_of_length_eq_zero (by simpa using hlc)
    subst hcur
    subst hs
    have hcells : (Builtin.firstCells i.size 0 xv).run P w = .ok #[] w := hsrc.cells
    have hlen0 : ∀ w', (Builtin.lenOf xv).run P w' = .ok 0 w' := hsrc.len
    rcases hsrc.kind with ⟨e', hk⟩ | hk <;> cases A <;> simp [Builtin.append_, run_underlying ht, run_underlying hk, sizeOf, typeInfo, hinf, hlen0, hn, hcells, storeCells]
  have empty : ∀ (A : Option Addr), news = [] → K (.sl true (.lin st.ln.length) []) { st with ln := st.ln ++ [(0, e, sz)] } → VRun P (Builtin.append_ #[t, u] ty #[.slice A 0 0, xv]) g w K := by
    intro A h0 hK
    obtain ⟨g', q1, q2, q3, q4⟩ := hi.lin_empty A e sz
    refine ⟨_, _, g', _, _, none_ A 0 0 h0 (Nat.le_refl _), q1, q4, ?_, hK⟩
    refine sl_mk (es := []) (sz := sz) (by simp) A 0 [] (Nat.le_refl _) (Nat.zero_le _) (by simp) ⟨rfl, by simp⟩ (fun h => absurd rfl h) ⟨_, by rw [q2, ← hi.lnlen]; simp; rfl, Nat.le_refl _, fun _ => ⟨rfl, rfl⟩⟩
  unfold aapp at h
  split at h
  · -- nil
    obtain ⟨hb, hK⟩ := h
    cases hv
    by_cases h0 : news = []
    · subst h0
      exact empty none rfl hK
    · have hpos : 0 < news.length := List.length_pos_iff.2 h0
      exact fresh' [] none 0 [] (by simp) (by simp) ⟨rfl, by simp⟩ (fun w' _ => run_firstCells_none w' sz 0 0 0) (by simpa using hpos) (by simpa using hb) hK
  · -- full
    rename_i own es
    obtain ⟨hb, h1, ⟨hor, hK⟩ | ⟨hn0, hK⟩⟩ := h
    rotate_left
    · have hv' := hv
      obtain ⟨A, cap, old, rfl, c1, c2, c3, c4, c5, c6, c7, c8⟩ := sl_cells hi hv h1
      exact ⟨_, _, g, .sl own .full es, st, none_ A es.length cap hn0 c1, .refl g, hi, hv', hK⟩
    obtain ⟨A, cap, old, rfl, c1, c2, c3, c4, c5, c6, c7, c8⟩ := sl_cells hi hv h1
    have hcap : cap = es.length := c3
    by_cases h0 : news = []
    · rcases hor with rfl | hne
      · subst h0
        subst hcap
        exact empty A rfl hK
      · exact absurd h0 hne
    · have hpos : 0 < news.length := List.length_pos_iff.2 h0
      refine fresh' es A cap old h1 c7 c4 (fun w' hi' => read_cells hi' c5 (fun hne => ?_) (fun h => ?_) cap) (by omega) hb hK
      · obtain ⟨b, o, e1, _, e3⟩ := c8 (fun h => hne (List.eq_nil_of_length_eq_zero (by rw [c4.1, h]; rfl)))
        exact ⟨b, o, e1, e3⟩
      · rcases Nat.mul_eq_zero.1 h with h | h <;> omega
  · -- the head of a growing one
    rename_i own id es
    obtain ⟨hb, hst, h1, hK⟩ := h
    obtain ⟨A, cap, old, rfl, c1, c2, c3, c4, c5, c6, c7, c8⟩ := sl_cells hi hv h1
    obtain ⟨L, hL, hLn, hLe⟩ := c3
    obtain ⟨k1, k2⟩ := hi.ln id L hL
    rw [hst] at k1
    have k1' := Option.some.inj k1
    simp only [Prod.mk.injEq] at k1'
    obtain ⟨e1, e2, e3⟩ := k1'
    obtain ⟨rfl, rfl⟩ := hLe e1
    by_cases h0 : news = []
    · subst h0
      refine ⟨_, _, g, .sl true (.lin id) es, st, none_ L.A es.length L.cap rfl c1, .refl g, hi, ?_, ?_⟩
      · refine sl_mk h1 L.A L.cap old c1 c2 c7 c4 (fun hne => ?_) ⟨L, hL, by omega, fun _ => ⟨rfl, rfl⟩⟩
        obtain ⟨b, o, f1, _, f3⟩ := c8 hne
        refine ⟨b, o, f1, fun _ => ?_, f3⟩
        have hcap : 0 < L.cap := by
          have : es ≠ [] := fun h => hne (by rw [h]; rfl)
          have := List.length_pos_iff.2 this
          omega
        exact (LinOk.lt k2 hcap f1).2.1
      · have e5 : ({ st with ln := st.ln.set id ((es ++ []).length, e, sz) } : AS) = st := by
          have : st.ln.set id ((es ++ []).length, e, sz) = st.ln := by
            apply List.ext_getElem?
            intro j
            by_cases hj : j = id
            · subst hj
              rw [List.getElem?_set_self (List.getElem?_eq_some_iff.1 hst).1, hst]
              simp
            · rw [List.getElem?_set_ne (Ne.symm hj)]
          rw [this]
        rw [e5, List.append_nil] at hK
        exact hK
    · have hpos : 0 < news.length := List.length_pos_iff.2 h0
      have hread : ∀ w', Inv g st w' → (Builtin.firstCells sz es.length (.slice L.A es.length L.cap)).run P w' = .ok old.toArray w' := fun w' hi' => read_cells hi' c5 (fun hne => by
        obtain ⟨b, o, f1, _, f3⟩ := c8 (fun h => hne (List.eq_nil_of_length_eq_zero (by rw [c4.1, h]; rfl)))
        exact ⟨b, o, f1, f3⟩) (fun h => by rcases Nat.mul_eq_zero.1 h with h | h <;> omega) L.cap
      by_cases hroom : es.length + news.length ≤ L.cap
      · rcases k2 with ⟨_, k2⟩ | ⟨b, C, f1, f2, f3, f4, f5, f6, f7, f8, f9⟩
        · omega
        · have hst' := run_storeCells_at (P := P) b (es.length * sz) L.e cur 0 C w f4 (by rw [hlc, f7, Nat.add_zero, ← Nat.add_mul, ← e3]; exact Nat.mul_le_mul_right _ hroom) (fun v hv => by rw [oneCell_oneV]; exact hnews1 v hv)
          simp only [Nat.add_zero] at hst'
          obtain ⟨g', q1, q2, q3, q4⟩ := hi.lin_room (m := news.length) (cur := cur) hL f1 f2 f3 f4 (by omega) hpos f7 f8 f9 (by rw [hlc, e3]) hnews1
          refine ⟨.slice L.A (es ++ news).length L.cap, _, g', .sl true (.lin id) (es ++ news), _, ?_, q1, q3, ?_, ?_⟩
          · have hadd : (⟨b, 0, none⟩ : Addr).add (es.length * sz) = ⟨b, es.length * sz, none⟩ := by rw [add_spot, Nat.zero_add]
            subst hs
            have hlen : (es ++ news).length = es.length + news.length := by simp
            rw [hlen, f1]
            have hspl : (splice C.toList (L.n * L.sz) cur).toArray = (C.toList.take (es.length * i.size) ++ cur ++ C.toList.drop (es.length * i.size + cur.length)).toArray := by rw [← e1, ← e3]; rfl
            rw [hspl]
            rcases hsrc.kind with ⟨e', hk⟩ | hk <;> simp [Builtin.append_, run_underlying ht, run_underlying hk, sizeOf, typeInfo, hinf, hsrc.len, hroom, hsrc.cells, hadd, hst']
          · have hlen : (es ++ news).length = es.length + news.length := by simp
            have hflat : (es ++ news).flatten = es.flatten ++ news.flatten := by simp
            refine sl_mk (lens_append h1 hsz) _ _ (old ++ cur) (by rw [hlen]; exact hroom) (by rw [hlen]; exact Nat.le_trans (Nat.le_mul_of_pos_right _ hpb) hb) (by rw [hflat]; exact okget_append c7 hok) (by rw [hflat]; exact csim_mono q1 (csim_append c4 hc)) (fun _ => ⟨b, 0, f1, fun _ => by unfold Gh.base; rw [q1.w0]; exact f2, fun j v hv => ?_⟩) ?_
            · rw [Nat.zero_add]
              rcases Nat.lt_or_ge j old.length with hj | hj
              · rw [List.getElem?_append_left hj] at hv
                have hne : es.flatten ≠ [] := fun h => by rw [h] at c4; have := c4.1; simp at this; subst this; simp at hj
                obtain ⟨b', o, f1', _, f3'⟩ := c8 hne
                rw [f1] at f1'
                have := Option.some.inj f1'
                simp only [Addr.mk.injEq] at this
                obtain ⟨rfl, rfl, _⟩ := this
                have := f3' j v hv
                rw [Nat.zero_add] at this
                exact q1.K _ _ _ this
              · rw [List.getElem?_append_right hj] at hv
                have := q4 _ v hv
                have e7 : L.n * L.sz + (j - old.length) = j := by rw [← e1, ← e3, ← c5]; omega
                rwa [e7] at this
            · refine ⟨{ L with n := L.n + news.length }, by rw [q2]; exact List.getElem?_set_self (List.getElem?_eq_some_iff.1 hL).1, ?_, fun _ => ⟨rfl, rfl⟩⟩
              show (es ++ news).length ≤ L.n + news.length
              rw [hlen]; omega
          · have hlen : (es ++ news).length = L.n + news.length := by simp; omega
            rw [hlen, e2, e3] at hK
            exact hK
      · have hidl := (List.getElem?_eq_some_iff.1 hL).1
        have hidl' : id < st.ln.length := by rw [← hi.lnlen]; exact hidl
        refine fresh es L.A L.cap old h1 c7 c4 hread (by omega) hb id (st.ln.set id ((es ++ news).length, e, sz)) (fun L' => g.ln.set id L') (fun L' => by simp [hi.lnlen]) (fun L0 j L' hL' => ?_) (fun L0 => List.getElem?_set_self hidl) (fun L0 hL0 j L' hL' => ?_) hK
        · split
          · rename_i hj
            subst hj
            rw [List.getElem?_set_self hidl] at hL'
            exact ⟨(Option.some.inj hL').symm, List.getElem?_set_self hidl'⟩
          · rename_i hj
            rw [List.getElem?_set_ne (Ne.symm hj)] at hL'
            exact ⟨hL', List.getElem?_set_ne (Ne.symm hj)⟩
        · by_cases hj : j = id
          · subst hj
            rw [hL] at hL'
            obtain rfl := Option.some.inj hL'
            refine ⟨L0, List.getElem?_set_self hidl, by rw [hL0]; simp; omega, fun he => ?_⟩
            rw [hL0] at he
            simp at he
            omega
          · exact ⟨L', by rw [List.getElem?_set_ne (Ne.symm hj)]; exact hL', Nat.le_refl _, fun _ => rfl⟩
  · exact h.elim
end Go.Proofs.YtjodibncpbjegaaDoor
