/- Merged: AOpen9, ResPure2, ResPure3. -/
import Derived.Test.YtknpaooloambdaaDoorZ38
/- Arguments of types []string, api.Row, gabionlaw09.There. -/
set_option linter.unusedVariables false
set_option linter.unusedSimpArgs false
namespace Go.Proofs.YtknpaooloambdaaDoor
open Go.ChangeShapes Go.WideShapes Go.ChangeAt Go.RowKit
section
variable {H : Type} {enc : TypeId × Value → H} {W : World}
theorem open_names {A : Option Addr} {len cap : Nat} {d : DataW H} {p : List MemPlace} (h : DataW.Trod enc Tryd.prog W 0 (fun _ => true) true 40 (.slice A len cap) d p) (hl : Light Tryd.prog 40 d) : ∃ l : List ByteArray, VSim (gh0 W) (.sl false .none (encNs l)) (.slice A len cap) := by
  obtain ⟨n, hn⟩ := h
  obtain ⟨l, _, _, _, q3⟩ := open_slice_gen (fun s : ByteArray => [AV.s (.string s)]) (fun _ => True) Tryd.underlying40 (by kernel_rfl : Tryd.prog.cellsOf 9 = 1) (by decide) (by rw [show Tryd.prog.bytesOf 9 = 16 by kernel_rfl]; decide) (fun _ => rfl)
    (fun m' cs' y' hm h' hl' => by
      obtain ⟨t, e0, _, _⟩ := DataW.trod_string Tryd.underlying9 h'
      subst e0
      exact ⟨t, trivial, .s rfl rfl⟩) hn hl
  exact ⟨l, Reads.one q3⟩
theorem open_vals9 {m : Nat} {cs : List Value} {y : DataW H × List MemPlace} (h : DataW.trod enc Tryd.prog W 0 (fun _ => true) true m 23 cs = some y) (hl : Light Tryd.prog 23 y.1) : ∃ l : List V, (∀ v ∈ l, v.fits) ∧ Reads W [.sl false .none (encL false l)] cs := by
  obtain ⟨l, q1, q2, _, q3⟩ := open_slice_gen (encV false) V.fits Tryd.underlying23 (by kernel_rfl : Tryd.prog.cellsOf 25 = 5) (by decide) (by rw [show Tryd.prog.bytesOf 25 = 64 by kernel_rfl]; decide) (encV_len false)
    (fun m' cs' y' hm h' hl' => open_V m' cs' y' h' hl') h hl
  rw [← encL_eq] at q3
  exact ⟨l, q1, q3⟩
set_option maxRecDepth 20000 in
/-- An argument of type api.Row. -/
theorem open_row {a : Array Value} {d : DataW H} {p : List MemPlace} (h : DataW.Trod enc Tryd.prog W 0 (fun _ => true) true 45 (.agg a) d p) (hl : Light Tryd.prog 45 d) : ∃ l : List V, (∀ v ∈ l, v.fits) ∧ VSim (gh0 W) (.agg [.sl false .none (encL false l)]) (.agg a) := by
  obtain ⟨n, hn⟩ := h
  have hu := Tryd.underlying45
  obtain ⟨xs, m, rfl, hy, hlen, hxl, hf⟩ := DataW.trod_struct hu hn
  injection hy with e1 e2
  subst e1
  rw [show Tryd.prog.cellsOf 45 = 1 by kernel_rfl] at hlen
  match xs, hxl with
  | [y0], _ =>
  have l1 : Tryd.prog.cellsOf 23 = 1 := by kernel_rfl
  have f0 : DataW.trod enc Tryd.prog W 0 (fun _ => true) true m 23 (List.take (Tryd.prog.cellsOf 23) (List.drop 0 (Value.agg a).cells.toList)) = some y0 := hf 0 _ rfl
  rw [l1, List.drop_zero, List.take_of_length_le (by omega)] at f0
  obtain ⟨l, q1, q3⟩ := open_vals9 f0 (hl.field hu (j := 0) rfl (d := y0.1) rfl)
  exact ⟨l, q1, reads_agg q3 (.inl ⟨a, rfl⟩)⟩
set_option maxRecDepth 20000 in
/-- An argument of type There. -/
theorem open_there {A : Array Value} {d : DataW H} {p : List MemPlace} (h : DataW.Trod enc Tryd.prog W 0 (fun _ => true) true 58 (.agg A) d p) (hl : Light Tryd.prog 58 d) : ∃ (t : T) (v : V) (n : Int) (x : Nat), v.fits ∧ (-9223372036854775808 ≤ n ∧ n ≤ 9223372036854775807) ∧ x < 18446744073709551616 ∧
    VSim (gh0 W) (.agg [.s (.int .i64 t.kind), .sl false .none (encTL false t.of), .s (.int .i64 v.kind), .s (.int .i64 v.int), .s (.float .f64 v.float), .s (.string v.text), .sl false .none (encL false v.items), .s (.int .i64 n), .s (.float .f64 x)]) (.agg A) := by
  obtain ⟨n, hn⟩ := h
  have hu := Tryd.underlying58
  obtain ⟨xs, m, rfl, hy, hlen, hxl, hf⟩ := DataW.trod_struct hu hn
  injection hy with e1 e2
  subst e1
  rw [show Tryd.prog.cellsOf 58 = 9 by kernel_rfl] at hlen
  have hcs : (Value.agg A).cells.toList = A.toList := rfl
  rw [hcs] at hlen hf
  obtain ⟨cs⟩ := A
  match cs, hlen with
  | [c0, c1, c2, c3, c4, c5, c6, c7, c8], _ =>
  match xs, hxl with
  | [y0, y1, y2, y3], _ =>
  have l1 : Tryd.prog.cellsOf 31 = 2 := by kernel_rfl
  have l2 : Tryd.prog.cellsOf 25 = 5 := by kernel_rfl
  have l3 : Tryd.prog.cellsOf 2 = 1 := by kernel_rfl
  have l4 : Tryd.prog.cellsOf 22 = 1 := by kernel_rfl
  have f0 := hf 0 _ rfl
  have f1 := hf 1 _ rfl
  have f2 := hf 2 _ rfl
  have f3 := hf 3 _ rfl
  simp only [l1, l2, l3, l4, List.drop_succ_cons, List.drop_zero, List.take_succ_cons, List.take_zero, List.getElem?_cons_succ, List.getElem?_cons_zero] at f0 f1 f2 f3
  have h0 := hl.field hu (j := 0) rfl (d := y0.1) rfl
  have h1 := hl.field hu (j := 1) rfl (d := y1.1) rfl
  obtain ⟨t, g0, r0⟩ := open_T _ _ _ f0 h0
  obtain ⟨v, g1, r1⟩ := open_V _ _ _ f1 h1
  obtain ⟨k, e2, _, w2⟩ := DataW.trod_int Tryd.underlying2 f2
  obtain ⟨x, e3, _, w3⟩ := trod_float' Tryd.underlying22 f3
  have hx : x < 18446744073709551616 := by
    simp [Lit.wf, FloatKind.format] at w3
    omega
  have k2 := i64_of_wf w2
  cases e2
  cases e3
  refine ⟨t, v, k, x, g1, ⟨k2.1, by omega⟩, hx, ?_⟩
  rw [encT_eq] at r0
  rw [encV_eq] at r1
  exact reads_agg (r0.app (r1.app ((Reads.s rfl rfl).app (Reads.s rfl rfl)))) (.inl ⟨_, rfl⟩)
end
end Go.Proofs.YtknpaooloambdaaDoor
/- Values read under their own type, and what is told is of the type. No program. -/
set_option linter.unusedVariables false
set_option linter.unusedSimpArgs false
namespace Go.Proofs.YtknpaooloambdaaDoor
open Go
mutual
theorem ofV_fix : ∀ (v : V) (t : T), ofV (mapV fixB v) t = ofV v t
  | .mk k i f tx l, t => by rw [mapV, ofV, ofV, ofVs_fix l (headT t.of)]
theorem ofVs_fix : ∀ (l : List V) (u : T), ofVs (mapL fixB l) u = ofVs l u
  | [], u => by rw [mapL]
  | x :: l, u => by rw [mapL, ofVs, ofVs, ofV_fix x u, ofVs_fix l u]
end
theorem own_nest_is {k i : Int} {f : Nat} {t : ByteArray} {l : List V} (h : ownP (.mk k i f t l)) (hk : k = 6 ∨ k = 7) : i = 0 ∧ fixB f = 0 ∧ t = ⟨#[]⟩ := by
  unfold ownP at h
  simp only [V.kind_mk, V.int_mk, V.float_mk, V.text_mk, V.items_mk] at h
  have : i = 0 ∧ fixB f = 0 ∧ t.toList = [] := by
    rcases h with h | h | h | h | h | h
    · omega
    · omega
    · omega
    · omega
    · exact ⟨h.2.1, h.2.2.1, h.2.2.2.1⟩
    · exact ⟨h.2.1, h.2.2.1, h.2.2.2⟩
  exact ⟨this.1, this.2.1, ba_toList t this.2.2⟩
theorem seqA_all {F : V → V × Int} {g : V → V} : ∀ {l : List V}, (∀ x ∈ l, F x = (g x, 0)) → seqA F l = (l.map g, 0)
  | [], _ => rfl
  | x :: l, h => by
    have h1 := h x (List.mem_cons_self ..)
    have h2 := seqA_all (F := F) (g := g) (l := l) fun y hy => h y (List.mem_cons_of_mem _ hy)
    rw [seqA, h1, h2]
    rfl
theorem seqA_ok {F : V → V × Int} : ∀ {l : List V}, (seqA F l).2 = 0 → (seqA F l).1.length = l.length ∧ ∀ y ∈ (seqA F l).1, ∃ x ∈ l, F x = (y, 0)
  | [], _ => ⟨rfl, fun y hy => by cases hy⟩
  | x :: l, h => by
    rw [seqA] at h ⊢
    split at h
    · rename_i h0
      rw [if_pos h0]
      split at h
      · rename_i h1
        rw [if_pos h1]
        obtain ⟨g1, g2⟩ := seqA_ok h1
        refine ⟨by simp [g1], fun y hy => ?_⟩
        rcases List.mem_cons.1 hy with rfl | hy
        · exact ⟨x, List.mem_cons_self .., by rw [← h0]⟩
        · obtain ⟨z, hz, he⟩ := g2 y hy
          exact ⟨z, List.mem_cons_of_mem _ hz, he⟩
      · rename_i h1; exact absurd h h1
    · rename_i h0; exact absurd h h0
theorem rdA_self : ∀ (n : Nat) (v : V) (t : T) (d c : Nat), chkT t d = 0 → chk v c = 0 → ofV v t = true → 5 - d ≤ n → rdA n v t t = (mapV fixB v, 0)
  | 0, v, t, d, c, ht, _, _, hm => by
    obtain ⟨k, a⟩ := t
    have := (chkT_ok ht).1
    omega
  | n + 1, v, t, d, c, ht, hv, hof, hm => by
    obtain ⟨k0, a⟩ := t
    obtain ⟨k, i, f, tx, l⟩ := v
    rw [ofV_eq, Bool.and_eq_true, decide_eq_true_eq] at hof
    obtain ⟨rfl, hofs⟩ := hof
    simp only [T.kind_mk, T.of_mk] at *
    obtain ⟨hc4, hown, _, _, _, hall⟩ := chk_ok hv
    rw [rdA_mk]
    by_cases h67 : k = 6 ∨ k = 7
    · rw [if_pos ⟨rfl, h67⟩]
      obtain ⟨u, rfl, hu⟩ := chkT_nest ht h67
      have hs : seqA (fun x => rdA n x (headT [u]) (headT [u])) l = (l.map (mapV fixB), 0) := seqA_all fun x hx => by
        obtain ⟨j, hj⟩ := List.getElem?_of_mem hx
        exact rdA_self n x u (d + 1) (c + 1) hu (hall x hx) (ofVs_at l u j x hofs hj) (by have := (chkT_ok ht).1; omega)
      rw [V.items_mk, hs]
      obtain ⟨rfl, h2, rfl⟩ := own_nest_is hown h67
      rw [mapV_eq, h2]
      rfl
    · rw [if_neg (by omega), if_neg (by omega), if_neg (by omega), plainV_else i f tx l (by omega) (by omega), if_neg (by omega), mapV_eq]
theorem canT_self : ∀ (n : Nat) (t : T) (d : Nat), chkT t d = 0 → 5 - d ≤ n → canT n t t = true
  | 0, t, d, ht, hm => by
    obtain ⟨k, a⟩ := t
    have := (chkT_ok ht).1
    omega
  | n + 1, t, d, ht, hm => by
    obtain ⟨k, a⟩ := t
    rw [canT_mk]
    by_cases h67 : k = 6 ∨ k = 7
    · rw [if_pos ⟨rfl, h67⟩]
      obtain ⟨u, rfl, hu⟩ := chkT_nest ht h67
      exact canT_self n u (d + 1) hu (by have := (chkT_ok ht).1; omega)
    · rw [if_neg (by omega), if_neg (by omega), if_neg (by omega), if_pos rfl]
theorem readV_self {v : V} {t : T} (ht : chkT t 1 = 0) (hv : chk v 1 = 0) (hof : ofV v t = true) : readV v t t = (mapV fixB v, 0) := rdA_self 8 v t 1 1 ht hv hof (by decide)
theorem canF_self {t : T} (ht : chkT t 1 = 0) : canF t t = true := canT_self 8 t 1 ht (by decide)
theorem chk_of {k i : Int} {f : Nat} {t : ByteArray} {l : List V} {d : Nat} (hd : d ≤ 4) (ho : ownP (.mk k i f t l)) (ht : t.size ≤ 1024) (hl : l.length ≤ 256) (hu : k = 4 → utf t = true) (h : chks l (d + 1) = 0) : chk (.mk k i f t l) d = 0 := by
  rw [chk_eq, if_neg (by omega), if_neg (by simpa using ho), if_neg (by omega), if_neg (by omega), if_neg (by rintro ⟨h1, h2⟩; rw [hu h1] at h2; cases h2), h]
theorem chks_of : ∀ {l : List V} {d : Nat}, (∀ x ∈ l, chk x d = 0) → chks l d = 0
  | [], d, _ => by rw [chks]
  | x :: l, d, h => by rw [chks, if_pos (h x (List.mem_cons_self ..))]; exact chks_of fun y hy => h y (List.mem_cons_of_mem _ hy)
theorem ofVs_mem {l : List V} {u : T} (h : ∀ x ∈ l, ofV x u = true) : ofVs l u = true := ofVs_of l u fun i x hx => h x (List.mem_of_getElem? hx)
theorem nil_size : (⟨#[]⟩ : ByteArray).size ≤ 1024 := by decide
theorem plain_typed {k i : Int} {f : Nat} {t : ByteArray} {l : List V} {j : Int} {c e : Nat} {w : V} (he : e ≤ 4) (hv : chk (.mk k i f t l) c = 0) (hn : nestK k = false) (hp : k = j ∨ pairK k j = true) (h : plainV (.mk k i f t l) j = (w, 0)) : chk w e = 0 ∧ w.kind = j ∧ w.items = [] := by
  obtain ⟨_, hown, hts, _, hutf, _⟩ := chk_ok hv
  have hl : l = [] := by
    by_cases hl : l = []
    · exact hl
    · have := own_nest hown hl
      rcases this with rfl | rfl <;> simp [nestK] at hn
  subst hl
  unfold ownP at hown
  simp only [V.kind_mk, V.int_mk, V.float_mk, V.text_mk, V.items_mk] at hown
  have hj : k = j ∨ (k = 2 ∧ j = 3) ∨ (k = 3 ∧ j = 2) ∨ (k = 1 ∧ j = 2) ∨ (k = 4 ∧ j = 5) ∨ (k = 5 ∧ j = 4) := by
    rw [pairK_eq] at hp
    simp only [Bool.or_eq_true, Bool.and_eq_true, beq_iff_eq] at hp
    omega
  have hk67 : k ≠ 6 ∧ k ≠ 7 := by
    simp only [nestK, Bool.or_eq_false_iff, beq_eq_false_iff_ne] at hn
    exact hn
  have mk : ∀ (i' : Int) (f' : Nat), ownP (.mk j i' f' t []) → (j = 4 → utf t = true) → chk (.mk j i' f' t []) e = 0 := fun i' f' ho hu => chk_of he ho hts (by simp) hu (by rw [chks])
  rcases hj with rfl | ⟨rfl, rfl⟩ | ⟨rfl, rfl⟩ | ⟨rfl, rfl⟩ | ⟨rfl, rfl⟩ | ⟨rfl, rfl⟩
  · rw [plainV_else i f t [] (by omega) (by omega), if_neg (by omega)] at h
    injection h with h
    subst h
    refine ⟨mk _ _ ?_ hutf, rfl, rfl⟩
    unfold ownP
    simp only [V.kind_mk, V.int_mk, V.float_mk, V.text_mk, V.items_mk, fixB_fixB]
    exact hown
  · rw [plainV_int] at h
    injection h with h h2
    subst h
    refine ⟨mk _ _ ?_ (by simp), rfl, rfl⟩
    unfold ownP
    simp only [V.kind_mk, V.int_mk, V.float_mk, V.text_mk, V.items_mk, List.map_nil]
    have : t.toList = [] := (show fixB f = 0 ∧ t.toList = [] by simpa using hown).2
    simp_all
  · rw [plainV_float] at h
    injection h with h h2
    subst h
    refine ⟨mk _ _ ?_ (by simp), rfl, rfl⟩
    unfold ownP
    simp only [V.kind_mk, V.int_mk, V.float_mk, V.text_mk, V.items_mk, List.map_nil, fixB_zero]
    simp_all
  · rw [plainV_else i f t [] (by omega) (by omega), if_neg (by omega)] at h
    injection h with h
    subst h
    refine ⟨mk _ _ ?_ (by simp), rfl, rfl⟩
    unfold ownP
    simp only [V.kind_mk, V.int_mk, V.float_mk, V.text_mk, V.items_mk, fixB_fixB, List.map_nil]
    simp_all
  · rw [plainV_else i f t [] (by omega) (by omega), if_neg (by omega)] at h
    injection h with h
    subst h
    refine ⟨mk _ _ ?_ (by simp), rfl, rfl⟩
    unfold ownP
    simp only [V.kind_mk, V.int_mk, V.float_mk, V.text_mk, V.items_mk, fixB_fixB, List.map_nil]
    simp_all
  · rw [plainV_else i f t [] (by omega) (by omega)] at h
    injection h with h h2
    subst h
    have hu : utf t = true := by
      cases hh : utf t
      · rw [hh] at h2; simp at h2
      · rfl
    refine ⟨mk _ _ ?_ (fun _ => hu), rfl, rfl⟩
    unfold ownP
    simp only [V.kind_mk, V.int_mk, V.float_mk, V.text_mk, V.items_mk, fixB_fixB, List.map_nil]
    simp_all
theorem ofV_plain {w : V} {j : Int} {b : List T} (h1 : w.kind = j) (h2 : w.items = []) : ofV w (.mk j b) = true := by
  obtain ⟨k, i, f, t, l⟩ := w
  simp only [V.kind_mk, V.items_mk] at h1 h2
  subst h1 h2
  rw [ofV_eq]
  simp [ofVs]
theorem rdA_typed : ∀ (n : Nat) (v : V) (f t : T) (d e c : Nat) (w : V), chkT f d = 0 → chkT t e = 0 → chk v c = 0 → ofV v f = true → canT n f t = true → (5 - d) + (5 - e) ≤ n → rdA n v f t = (w, 0) → chk w e = 0 ∧ ofV w t = true
  | 0, v, f, t, d, e, c, w, hf, ht, _, _, _, hm, _ => by
    obtain ⟨k, a⟩ := f
    have := (chkT_ok hf).1
    omega
  | n + 1, v, f, t, d, e, c, w, hf, ht, hv, hof, hcan, hm, hr => by
    obtain ⟨k0, a⟩ := f
    obtain ⟨j, b⟩ := t
    obtain ⟨k, i, fl, tx, l⟩ := v
    rw [ofV_eq, Bool.and_eq_true, decide_eq_true_eq] at hof
    obtain ⟨rfl, hofs⟩ := hof
    simp only [T.kind_mk, T.of_mk] at *
    obtain ⟨hd4, hbf, _⟩ := chkT_ok hf
    obtain ⟨he4, hbt, _⟩ := chkT_ok ht
    obtain ⟨hc4, hown, hts, hl256, hutf, hall⟩ := chk_ok hv
    have hofx : ∀ (u : T), a = [u] → ∀ x ∈ l, ofV x u = true := fun u hu x hx => by
      subst hu
      obtain ⟨m, hm⟩ := List.getElem?_of_mem hx
      exact ofVs_at l u m x hofs hm
    rw [rdA_mk, V.items_mk] at hr
    rw [canT_mk] at hcan
    by_cases hA : k = j ∧ (j = 6 ∨ j = 7)
    · rw [if_pos hA] at hr hcan
      obtain ⟨rfl, h67⟩ := hA
      obtain ⟨u, rfl, hu⟩ := chkT_nest hf h67
      obtain ⟨u', rfl, hu'⟩ := chkT_nest ht h67
      change nestV k (seqA (fun x => rdA n x u u') l) = _ at hr
      unfold nestV at hr
      by_cases hs : (seqA (fun x => rdA n x u u') l).2 = 0
      · rw [if_pos hs] at hr
        injection hr with hr
        obtain ⟨g1, g2⟩ := seqA_ok hs
        have hys : ∀ y ∈ (seqA (fun x => rdA n x u u') l).1, chk y (e + 1) = 0 ∧ ofV y u' = true := fun y hy => by
          obtain ⟨x, hx, he⟩ := g2 y hy
          exact rdA_typed n x u u' (d + 1) (e + 1) (c + 1) y hu hu' (hall x hx) (hofx u rfl x hx) hcan (by omega) he
        subst hr
        refine ⟨chk_of he4 ?_ nil_size (by rw [g1]; exact hl256) (by omega) (chks_of fun y hy => (hys y hy).1), ?_⟩
        · unfold ownP at hown ⊢
          simp only [V.kind_mk, V.int_mk, V.float_mk, V.text_mk, V.items_mk, fixB_zero, g1, nil_list] at hown ⊢
          rcases h67 with rfl | rfl
          · simp_all
          · simp_all
        · rw [ofV_eq]
          simp only [T.kind_mk, T.of_mk, decide_true, Bool.true_and]
          exact ofVs_mem fun y hy => (hys y hy).2
      · rw [if_neg hs] at hr
        injection hr with _ hr
        exact absurd hr hs
    · rw [if_neg hA] at hr hcan
      by_cases j6 : j = 6
      · subst j6
        rw [if_pos rfl] at hr hcan
        obtain ⟨u', rfl, hu'⟩ := chkT_nest ht (.inl rfl)
        injection hr with h1 h2
        have hR := rdA_typed n (.mk k i fl tx l) (.mk k a) u' d (e + 1) c (rdA n (.mk k i fl tx l) (.mk k a) u').1 hf hu' hv (by rw [ofV_eq]; simp only [T.kind_mk, T.of_mk, decide_true, Bool.true_and]; exact hofs) hcan (by omega) (by
          change (rdA n (.mk k i fl tx l) (.mk k a) u').2 = 0 at h2
          rw [← h2])
        subst h1
        change chk (.mk 6 0 0 ⟨#[]⟩ [(rdA n (.mk k i fl tx l) (.mk k a) u').1]) e = 0 ∧ _
        refine ⟨chk_of he4 ?_ nil_size (by simp) (by omega) (chks_of fun y hy => by obtain rfl := List.mem_singleton.1 hy; exact hR.1), ?_⟩
        · unfold ownP
          simp [V.kind_mk, V.int_mk, V.float_mk, V.text_mk, V.items_mk, fixB_zero, nil_list]
        · rw [ofV_eq]
          simp only [T.kind_mk, T.of_mk, decide_true, Bool.true_and]
          exact ofVs_mem fun y hy => by obtain rfl := List.mem_singleton.1 hy; exact hR.2
      · rw [if_neg j6] at hr hcan
        by_cases k6 : k = 6
        · subst k6
          rw [if_pos rfl] at hr hcan
          obtain ⟨u, rfl, hu⟩ := chkT_nest hf (.inl rfl)
          cases l with
          | nil => injection hr with _ hr; omega
          | cons x l => exact rdA_typed n x u (.mk j b) (d + 1) e (c + 1) w hu ht (hall x (List.mem_cons_self ..)) (hofx u rfl x (List.mem_cons_self ..)) hcan (by omega) hr
        · rw [if_neg k6] at hr hcan
          have hp : k = j ∨ pairK k j = true := by
            by_cases hkj : k = j
            · exact .inl hkj
            · rw [if_neg hkj] at hcan; exact .inr hcan
          have hk7 : k ≠ 7 := by
            rintro rfl
            rcases hp with h | h
            · exact hA ⟨h, .inr h.symm⟩
            · simp [pairK] at h
          obtain ⟨g1, g2, g3⟩ := plain_typed he4 hv (by simp [nestK, k6, hk7]) hp hr
          exact ⟨g1, ofV_plain g2 g3⟩
theorem readV_typed {v : V} {f t : T} {w : V} (hf : chkT f 1 = 0) (ht : chkT t 1 = 0) (hv : chk v 1 = 0) (hof : ofV v f = true) (hc : canF f t = true) (hr : readV v f t = (w, 0)) : isV w t = true := by
  obtain ⟨h1, h2⟩ := rdA_typed 8 v f t 1 1 1 w hf ht hv hof hc (by decide) hr
  unfold isV
  simp [ht, h1, h2]
/-- Made an opt, and taken out again. -/
theorem rdA_opt : ∀ (n m : Nat) (v : V) (t : T) (d c : Nat), chkT t d = 0 → chk v c = 0 → ofV v t = true → 6 - d ≤ n → 6 - d ≤ m → (rdA n v t (.mk 6 [t])).2 = 0 ∧ rdA m (rdA n v t (.mk 6 [t])).1 (.mk 6 [t]) t = (mapV fixB v, 0)
  | 0, m, v, t, d, c, ht, _, _, hn, _ => by
    obtain ⟨k, a⟩ := t
    have := (chkT_ok ht).1
    omega
  | n + 1, 0, v, t, d, c, ht, _, _, _, hm => by
    obtain ⟨k, a⟩ := t
    have := (chkT_ok ht).1
    omega
  | n + 1, m + 1, v, t, d, c, ht, hv, hof, hn, hm => by
    obtain ⟨k0, a⟩ := t
    have hd4 := (chkT_ok ht).1
    by_cases h6 : k0 = 6
    · subst h6
      obtain ⟨u, rfl, hu⟩ := chkT_nest ht (.inl rfl)
      obtain ⟨k, i, f, tx, l⟩ := v
      rw [ofV_eq, Bool.and_eq_true, decide_eq_true_eq] at hof
      obtain ⟨rfl, hofs⟩ := hof
      obtain ⟨hc4, hown, _, _, _, hall⟩ := chk_ok hv
      obtain ⟨rfl, h2, rfl⟩ := own_nest_is hown (.inl rfl)
      have hx : ∀ x ∈ l, (rdA n x u (.mk 6 [u])).2 = 0 ∧ rdA m (rdA n x u (.mk 6 [u])).1 (.mk 6 [u]) u = (mapV fixB x, 0) := fun x hx => by
        obtain ⟨j, hj⟩ := List.getElem?_of_mem hx
        exact rdA_opt n m x u (d + 1) (c + 1) hu (hall x hx) (ofVs_at l u j x hofs hj) (by omega) (by omega)
      have hs : seqA (fun x => rdA n x u (.mk 6 [u])) l = (l.map fun x => (rdA n x u (.mk 6 [u])).1, 0) := seqA_all fun x hxl => by
        have := (hx x hxl).1
        rw [← this]
      have e1 : rdA (n + 1) (.mk 6 0 f ⟨#[]⟩ l) (.mk 6 [u]) (.mk 6 [.mk 6 [u]]) = (.mk 6 0 0 ⟨#[]⟩ (l.map fun x => (rdA n x u (.mk 6 [u])).1), 0) := by
        rw [rdA_mk, if_pos ⟨rfl, .inl rfl⟩]
        change nestV 6 (seqA (fun x => rdA n x u (.mk 6 [u])) l) = _
        rw [hs]
        rfl
      change (rdA (n + 1) (.mk 6 0 f ⟨#[]⟩ l) (.mk 6 [u]) (.mk 6 [.mk 6 [u]])).2 = 0 ∧ rdA (m + 1) (rdA (n + 1) (.mk 6 0 f ⟨#[]⟩ l) (.mk 6 [u]) (.mk 6 [.mk 6 [u]])).1 (.mk 6 [.mk 6 [u]]) (.mk 6 [u]) = _
      rw [e1]
      refine ⟨rfl, ?_⟩
      have key : ∀ l' : List V, (∀ x ∈ l', rdA m (rdA n x u (.mk 6 [u])).1 (.mk 6 [u]) u = (mapV fixB x, 0)) → seqA (fun y => rdA m y (.mk 6 [u]) u) (l'.map fun x => (rdA n x u (.mk 6 [u])).1) = (l'.map (mapV fixB), 0) := by
        intro l'
        induction l' with
        | nil => intro _; rfl
        | cons x l' ih =>
          intro hx'
          have h1 := hx' x (List.mem_cons_self ..)
          have h2 := ih fun y hy => hx' y (List.mem_cons_of_mem _ hy)
          rw [List.map_cons, seqA, h1, h2]
          rfl
      have hs2 := key l fun x hxl => (hx x hxl).2
      rw [rdA_mk, if_pos ⟨rfl, .inl rfl⟩]
      change nestV 6 (seqA (fun y => rdA m y (.mk 6 [u]) u) (l.map fun x => (rdA n x u (.mk 6 [u])).1)) = _
      rw [hs2, mapV_eq, h2]
      rfl
    · have e1 : rdA (n + 1) v (.mk k0 a) (.mk 6 [.mk k0 a]) = (.mk 6 0 0 ⟨#[]⟩ [mapV fixB v], 0) := by
        rw [rdA_mk, if_neg (by omega), if_pos rfl]
        change (V.mk 6 0 0 ⟨#[]⟩ [(rdA n v (.mk k0 a) (.mk k0 a)).1], (rdA n v (.mk k0 a) (.mk k0 a)).2) = _
        rw [rdA_self n v (.mk k0 a) d c ht hv hof (by omega)]
      rw [e1]
      refine ⟨rfl, ?_⟩
      rw [rdA_mk, if_neg (by omega), if_neg h6, if_pos rfl]
      change rdA m (mapV fixB v) (.mk k0 a) (.mk k0 a) = _
      rw [rdA_self m (mapV fixB v) (.mk k0 a) d c ht (by rw [chk_map]; exact hv) (by rw [ofV_fix]; exact hof) (by omega), map2]
end Go.Proofs.YtknpaooloambdaaDoor
/- Rows under their own schema, and under some of its columns. No program. -/
set_option linter.unusedVariables false
set_option linter.unusedSimpArgs false
namespace Go.Proofs.YtknpaooloambdaaDoor
open Go
theorem seqG_ok {α : Type} {F : α → V × Int} : ∀ {l : List α}, (seqG F l).2 = 0 → (seqG F l).1.length = l.length ∧ ∀ (i : Nat) x, l[i]? = some x → ∃ y, (seqG F l).1[i]? = some y ∧ F x = (y, 0)
  | [], _ => ⟨rfl, fun i x hx => by simp at hx⟩
  | x :: l, h => by
    rw [seqG] at h ⊢
    split at h
    · rename_i h0
      rw [if_pos h0]
      split at h
      · rename_i h1
        rw [if_pos h1]
        obtain ⟨g1, g2⟩ := seqG_ok h1
        refine ⟨by simp [g1], fun i z hz => ?_⟩
        cases i with
        | zero =>
          obtain rfl : x = z := by simpa using hz
          exact ⟨(F x).1, rfl, by rw [← h0]⟩
        | succ i =>
          obtain ⟨y, hy, he⟩ := g2 i z (by simpa using hz)
          exact ⟨y, by simpa using hy, he⟩
      · rename_i h1; exact absurd h h1
    · rename_i h0; exact absurd h h0
theorem seqG_all {α : Type} {F : α → V × Int} {g : α → V} : ∀ {l : List α}, (∀ x ∈ l, F x = (g x, 0)) → seqG F l = (l.map g, 0)
  | [], _ => rfl
  | x :: l, h => by
    have h1 := h x (List.mem_cons_self ..)
    have h2 := seqG_all (F := F) (g := g) (l := l) fun y hy => h y (List.mem_cons_of_mem _ hy)
    rw [seqG, h1, h2]
    rfl
theorem findC_own {s : List C} (h : chkS s = 0) {i : Nat} {c : C} (hi : s[i]? = some c) : findC s c.name = some i := by
  refine findC_some hi rfl fun j y hj hy hn => ?_
  have h1 := (colE_ok (colsE_all s [] (chkS_is h).2.2.1 i c hi)).2.1
  have h2 : twice (s.take i) c.name = true := twice_iff.2 ⟨j, y, by rw [List.getElem?_take, if_pos hj]; exact hy, hn⟩
  rw [List.nil_append, h2] at h1
  cases h1
theorem rowE_is {a b : List C} {r ys : List V} (h : rowE a b r = (ys, 0)) : chkRS a b = 0 ∧ r.length = a.length ∧ givsE r a = 0 ∧ seqG (colV a r) b = (ys, 0) := by
  unfold rowE at h
  split at h
  · split at h
    · split at h
      · rename_i h1 h2 h3; exact ⟨h1, h2, h3, h⟩
      · rename_i h3
        injection h with _ h
        exact absurd h h3
    · injection h with _ h; omega
  · rename_i h1
    injection h with _ h
    exact absurd h h1
theorem colV_own {s : List C} {r : List V} (hs : chkS s = 0) (hl : r.length = s.length) (hg : givsE r s = 0) {i : Nat} {c x : C} {v : V} (hc : s[i]? = some x) (hn : c.name = x.name) (ht : c.ty = x.ty) (hv : r[i]? = some v) : colV s r c = (mapV fixB v, 0) := by
  have hf := findC_own hs hc
  rw [← hn] at hf
  rw [colV_some hf hv hc, ht]
  obtain ⟨g1, g2, g3⟩ := givE_is (givsE_all hl hg i v x hv hc)
  exact readV_self g1 g2 g3
theorem rowE_self {s : List C} {r ys : List V} (h : rowE s s r = (ys, 0)) : ys = r.map (mapV fixB) := by
  obtain ⟨h1, h2, h3, h4⟩ := rowE_is h
  have hs := (chkRS_is h1).1
  have h0 : (seqG (colV s r) s).2 = 0 := by rw [h4]
  obtain ⟨g1, g2⟩ := seqG_ok h0
  rw [h4] at g1 g2
  refine List.ext_getElem? fun i => ?_
  rw [List.getElem?_map]
  rcases Nat.lt_or_ge i s.length with hi | hi
  · have hc : s[i]? = some s[i] := List.getElem?_eq_getElem hi
    have hv : r[i]? = some (r[i]'(by omega)) := List.getElem?_eq_getElem _
    obtain ⟨y, hy, he⟩ := g2 i _ hc
    rw [colV_own hs h2 h3 hc rfl rfl hv] at he
    injection he with he _
    rw [hy, hv, Option.map_some, he]
  · rw [List.getElem?_eq_none (by simp only at g1; omega), List.getElem?_eq_none (by omega)]
    rfl
/-! ### Projections -/
theorem projA_is {s : List C} : ∀ {l pre : List ByteArray} {ps : List C}, projA s pre l = (ps, 0) → ps.length = l.length ∧ ∀ (i : Nat) n, l[i]? = some n → hasN (pre ++ l.take i) n = false ∧ ∃ k x, findC s n = some k ∧ s[k]? = some x ∧ ps[i]? = some (fixC x)
  | [], pre, ps, h => by
    injection h with h
    subst h
    exact ⟨rfl, fun i n hn => by simp at hn⟩
  | n :: l, pre, ps, h => by
    rw [projA] at h
    split at h
    · injection h with _ h; omega
    · rename_i hh
      have hn : hasN pre n = false := by simpa using hh
      cases hf : findC s n with
      | none => rw [hf] at h; injection h with _ h; omega
      | some k =>
        rw [hf] at h
        obtain ⟨x, hx, _⟩ := findC_is hf
        dsimp only at h
        rw [hx] at h
        dsimp only at h
        unfold preC at h
        split at h
        · rename_i h0
          injection h with h
          subst h
          obtain ⟨g1, g2⟩ := projA_is (s := s) (l := l) (pre := pre ++ [n]) (ps := (projA s (pre ++ [n]) l).1) (by rw [← h0])
          refine ⟨by simp [g1], fun i m hm => ?_⟩
          cases i with
          | zero =>
            obtain rfl : n = m := by simpa using hm
            exact ⟨by simpa using hn, k, x, hf, hx, rfl⟩
          | succ i =>
            obtain ⟨q1, k', x', q2, q3, q4⟩ := g2 i m (by simpa using hm)
            refine ⟨?_, k', x', q2, q3, by simpa using q4⟩
            rw [List.take_succ_cons]
            simpa using q1
        · rename_i h0
          injection h with _ h
          exact absurd h h0
def sumW (W : C → Nat) : List C → Nat
  | [] => 0
  | c :: l => W c + sumW W l
theorem sumW_filter (W : C → Nat) (c : C) : ∀ l : List C, (l.map C.name).Nodup → (∀ q ∈ l, q.name = c.name → W q ≤ W c) → sumW W l ≤ sumW W (l.filter fun q => decide (q.name ≠ c.name)) + W c
  | [], _, _ => by simp [sumW]
  | q :: l, hn, h => by
    rw [List.map_cons, List.nodup_cons] at hn
    by_cases hq : q.name = c.name
    · have hf : l.filter (fun q => decide (q.name ≠ c.name)) = l := by
        rw [List.filter_eq_self]
        intro x hx
        have : x.name ≠ c.name := fun he => hn.1 (by rw [hq, ← he]; exact List.mem_map_of_mem hx)
        simpa using this
      rw [List.filter_cons_of_neg (by simp [hq]), hf, sumW]
      have := h q (List.mem_cons_self ..) hq
      omega
    · rw [List.filter_cons_of_pos (by simpa using hq), sumW, sumW]
      have := sumW_filter W c l hn.2 fun x hx => h x (List.mem_cons_of_mem _ hx)
      omega
theorem sumW_le (W : C → Nat) : ∀ (s l : List C), (l.map C.name).Nodup → (s.map C.name).Nodup → (∀ q ∈ l, ∃ x ∈ s, x.name = q.name ∧ W q ≤ W x) → sumW W l ≤ sumW W s
  | [], l, _, _, h => by
    cases l with
    | nil => exact Nat.le_refl _
    | cons q l => obtain ⟨x, hx, _⟩ := h q (List.mem_cons_self ..); cases hx
  | c :: s, l, hl, hs, h => by
    rw [List.map_cons, List.nodup_cons] at hs
    have h1 := sumW_filter W c l hl fun q hq he => by
      obtain ⟨x, hx, hn, hw⟩ := h q hq
      rcases List.mem_cons.1 hx with rfl | hx
      · exact hw
      · exact absurd (by rw [← he, ← hn]; exact List.mem_map_of_mem hx) hs.1
    have h2 := sumW_le W s (l.filter fun q => decide (q.name ≠ c.name)) (by
      have : ((l.filter fun q => decide (q.name ≠ c.name)).map C.name).Sublist (l.map C.name) := List.Sublist.map _ List.filter_sublist
      exact this.nodup hl) hs.2 fun q hq => by
        obtain ⟨hm, hne⟩ := List.mem_filter.1 hq
        obtain ⟨x, hx, hn, hw⟩ := h q hm
        rcases List.mem_cons.1 hx with rfl | hx
        · exact absurd hn.symm (by simpa using hne)
        · exact ⟨x, hx, hn, hw⟩
    rw [sumW]
    omega
theorem colsB_sum : ∀ l : List C, (colsB l).length = sumW (fun c => (colB c).length) l
  | [] => rfl
  | c :: l => by
    have := colsB_sum l
    unfold colsB at this ⊢
    rw [List.map_cons, List.flatten_cons, List.length_append, this, sumW]
theorem colB_fix (x : C) : colB (fixC x) = colB x := by
  unfold colB fixC
  dsimp only
  rw [valB_map]
theorem dfltE_fix (x : C) : dfltE (fixC x) = dfltE x := by
  unfold dfltE fixC
  dsimp only
  have h : sameV (mapV fixB x.dflt) zeroV = sameV x.dflt zeroV := by
    rw [Bool.eq_iff_iff, sameV_iff, sameV_iff, map2]
  rw [chk_map, ofV_fix, h]
theorem proj_chk {s : List C} {names : List ByteArray} {ps : List C} (h : projE s names = (ps, 0)) : chkS s = 0 ∧ chkS ps = 0 ∧ ps.length = names.length ∧ ∀ (i : Nat) n, names[i]? = some n → ∃ k x, findC s n = some k ∧ s[k]? = some x ∧ ps[i]? = some (fixC x) := by
  unfold projE at h
  split at h
  · rename_i hs
    split at h
    · injection h with _ h; omega
    · rename_i hn0
      obtain ⟨g1, g2⟩ := projA_is h
      have hgood : goodN s names := fun i n hn => by
        obtain ⟨q1, k, x, q2, _⟩ := g2 i n hn
        exact ⟨by simpa using q1, by rw [q2]; rfl⟩
      have hlen := goodN_len hgood
      obtain ⟨hs0, hs16, hsc, hsb⟩ := chkS_is hs
      have hat : ∀ (i : Nat) c, ps[i]? = some c → ∃ n k x, names[i]? = some n ∧ hasN (names.take i) n = false ∧ findC s n = some k ∧ s[k]? = some x ∧ x.name = n ∧ c = fixC x := fun i c hc => by
        have hi : i < names.length := by have := (List.getElem?_eq_some_iff.1 hc).1; omega
        obtain ⟨q1, k, x, q2, q3, q4⟩ := g2 i names[i] (List.getElem?_eq_getElem hi)
        obtain ⟨x', hx', hn'⟩ := findC_is q2
        rw [q3] at hx'
        obtain rfl := Option.some.inj hx'
        rw [hc] at q4
        exact ⟨_, k, x, List.getElem?_eq_getElem hi, by simpa using q1, q2, q3, hn', Option.some.inj q4⟩
      have hnames : ps.map C.name = names := by
        refine List.ext_getElem? fun i => ?_
        rw [List.getElem?_map]
        rcases Nat.lt_or_ge i ps.length with hi | hi
        · have hc : ps[i]? = some ps[i] := List.getElem?_eq_getElem hi
          obtain ⟨n, k, x, q1, _, _, _, q5, q6⟩ := hat i _ hc
          rw [hc, q1, q6]
          show some x.name = some n
          rw [q5]
        · rw [List.getElem?_eq_none hi, List.getElem?_eq_none (by omega)]
          rfl
      have hcol : ∀ (i : Nat) c, ps[i]? = some c → colE ([] ++ ps.take i) c = 0 := fun i c hc => by
        obtain ⟨n, k, x, q1, q2, q3, q4, q5, rfl⟩ := hat i c hc
        obtain ⟨e1, _, e3, e4⟩ := colE_ok (colsE_all s [] hsc k x q4)
        have ht : twice (ps.take i) x.name = false := by
          cases hh : twice (ps.take i) x.name
          · rfl
          · obtain ⟨j, y, hj, hy⟩ := twice_iff.1 hh
            have : hasN (names.take i) n = true := by
              rw [hasN_mem, ← hnames, ← List.map_take, ← q5, ← hy]
              exact List.mem_map_of_mem (List.mem_of_getElem? hj)
            rw [q2] at this
            cases this
        rw [List.nil_append]
        unfold colE
        rw [if_neg (by show ¬ nameB x.name = false; rw [e1]; decide), if_neg (by show ¬ twice (ps.take i) x.name = true; rw [ht]; decide), if_pos (show chkT (fixC x).ty 1 = 0 from e3), dfltE_fix]
        exact e4
      have hcols : colsE [] ps = 0 := colsE_zero ps [] hcol
      have hnd : (ps.map C.name).Nodup := by
        rw [hnames, List.nodup_iff_pairwise_ne, List.pairwise_iff_getElem]
        intro i j hi hj hij he
        have h1 := (hgood j names[j] (List.getElem?_eq_getElem hj)).1
        have h2 : hasN (names.take j) names[j] = true := hasN_mem.2 (by
          rw [← he]
          exact List.mem_take_iff_getElem.2 ⟨i, by omega, rfl⟩)
        rw [h1] at h2
        cases h2
      have hsnd : (s.map C.name).Nodup := by
        rw [List.nodup_iff_pairwise_ne, List.pairwise_iff_getElem]
        intro i j hi hj hij he
        rw [List.length_map] at hi hj
        have h1 := findC_own hs (List.getElem?_eq_getElem hi)
        have h2 := findC_own hs (List.getElem?_eq_getElem hj)
        rw [List.getElem_map, List.getElem_map] at he
        rw [he, h2] at h1
        have := Option.some.inj h1
        omega
      have hsum : (colsB ps).length ≤ (colsB s).length := by
        rw [colsB_sum, colsB_sum]
        refine sumW_le _ s ps hnd hsnd fun q hq => ?_
        obtain ⟨i, hi⟩ := List.getElem?_of_mem hq
        obtain ⟨n, k, x, _, _, _, q4, q5, rfl⟩ := hat i q hi
        exact ⟨x, List.mem_of_getElem? q4, rfl, by rw [colB_fix]; exact Nat.le_refl _⟩
      have hp1 : (put ps.length).length ≤ 1 := put_len 1 _ (by decide) (by omega)
      have hp2 : 1 ≤ (put s.length).length := by
        cases hh : put s.length with
        | nil =>
          have : (put s.length).length = 0 := by rw [hh]; rfl
          have := put_pos s.length
          omega
        | cons a l => simp
      refine ⟨hs, ?_, g1, fun i n hn => by obtain ⟨_, k, x, q2, q3, q4⟩ := g2 i n hn; exact ⟨k, x, q2, q3, q4⟩⟩
      unfold chkS
      rw [if_neg (by omega), if_neg (by omega), if_pos hcols, if_neg]
      unfold schB at hsb ⊢
      rw [List.length_append] at hsb ⊢
      omega
  · rename_i hs
    injection h with _ h
    exact absurd h hs
theorem resE_zero {a : List C} : ∀ {l : List C}, (∀ c ∈ l, resC a c = 0) → resE a l = 0
  | [], _ => rfl
  | c :: l, h => by
    rw [resE, if_pos (h c (List.mem_cons_self ..))]
    exact resE_zero fun x hx => h x (List.mem_cons_of_mem _ hx)
/-- A row under the schema that Project makes. -/
theorem rowE_proj {s ps : List C} {names : List ByteArray} {r ys : List V} (h : rowE s s r = (ys, 0)) (hp : projE s names = (ps, 0)) : ∃ zs, rowE s ps r = (zs, 0) ∧ zs.length = names.length ∧ ps.length = names.length ∧ ∀ (i : Nat) n, names[i]? = some n → ∃ k v, findC s n = some k ∧ r[k]? = some v ∧ zs[i]? = some (mapV fixB v) := by
  obtain ⟨h1, h2, h3, h4⟩ := rowE_is h
  obtain ⟨p1, p2, p3, p4⟩ := proj_chk hp
  have hcol : ∀ (i : Nat) n, names[i]? = some n → ∃ k x v, findC s n = some k ∧ s[k]? = some x ∧ ps[i]? = some (fixC x) ∧ r[k]? = some v ∧ colV s r (fixC x) = (mapV fixB v, 0) := fun i n hn => by
    obtain ⟨k, x, q2, q3, q4⟩ := p4 i n hn
    have hk := (List.getElem?_eq_some_iff.1 q3).1
    have hv : r[k]? = some (r[k]'(by omega)) := List.getElem?_eq_getElem _
    exact ⟨k, x, _, q2, q3, q4, hv, colV_own p1 h2 h3 q3 rfl rfl hv⟩
  have hat : ∀ (i : Nat) c, ps[i]? = some c → ∃ n, names[i]? = some n := fun i c hc => by
    have hi : i < names.length := by have := (List.getElem?_eq_some_iff.1 hc).1; omega
    exact ⟨_, List.getElem?_eq_getElem hi⟩
  have hres : resE s ps = 0 := resE_zero fun c hc => by
    obtain ⟨i, hi⟩ := List.getElem?_of_mem hc
    obtain ⟨n, hn⟩ := hat i c hi
    obtain ⟨k, x, v, q1, q2, q3, _⟩ := hcol i n hn
    rw [hi] at q3
    obtain rfl := Option.some.inj q3
    have hf0 : findC s x.name = some k := findC_own p1 q2
    have hf : findC s (fixC x).name = some k := hf0
    rw [resC_some hf q2]
    have : canF x.ty (fixC x).ty = true := canF_self (chkS_ty p1 q2)
    rw [if_pos this]
  have hc0 : chkRS s ps = 0 := by unfold chkRS; rw [if_pos p1, if_pos p2, hres]
  have hall : ∀ c ∈ ps, (colV s r c).2 = 0 := fun c hc => by
    obtain ⟨i, hi⟩ := List.getElem?_of_mem hc
    obtain ⟨n, hn⟩ := hat i c hi
    obtain ⟨k, x, v, _, _, q3, _, q5⟩ := hcol i n hn
    rw [hi] at q3
    obtain rfl := Option.some.inj q3
    rw [q5]
  have hseq := seqG_all (F := colV s r) (g := fun c => (colV s r c).1) (l := ps) fun c hc => by rw [← hall c hc]
  refine ⟨ps.map fun c => (colV s r c).1, ?_, by rw [List.length_map, p3], p3, fun i n hn => ?_⟩
  · unfold rowE
    rw [if_pos hc0, if_pos h2, if_pos h3, hseq]
  · obtain ⟨k, x, v, q1, q2, q3, q4, q5⟩ := hcol i n hn
    refine ⟨k, v, q1, q4, ?_⟩
    rw [List.getElem?_map, q3]
    show some (colV s r (fixC x)).1 = _
    rw [q5]
theorem isV_mk {v : V} {t : T} (h1 : chkT t 1 = 0) (h2 : chk v 1 = 0) (h3 : ofV v t = true) : isV v t = true := by unfold isV; simp [h1, h2, h3]
/-- What is told is of the reader's schema. -/
theorem rowE_typed {a b : List C} {r ys : List V} (h : rowE a b r = (ys, 0)) : chkRS a b = 0 ∧ ys.length = b.length ∧ ∀ (i : Nat) y c, ys[i]? = some y → b[i]? = some c → isV y c.ty = true := by
  obtain ⟨h1, h2, h3, h4⟩ := rowE_is h
  obtain ⟨ha, hb, hres⟩ := chkRS_is h1
  obtain ⟨g1, g2⟩ := seqG_ok (F := colV a r) (l := b) (by rw [h4])
  rw [h4] at g1 g2
  refine ⟨h1, g1, fun i y c hy hc => ?_⟩
  obtain ⟨y', hy', he⟩ := g2 i c hc
  simp only at hy'
  rw [hy] at hy'
  obtain rfl := Option.some.inj hy'
  have htc := chkS_ty hb hc
  have hrc := hres c (List.mem_of_getElem? hc)
  cases hf : findC a c.name with
  | none =>
    rw [colV_none hf] at he
    injection he with he
    subst he
    rw [resC_no hf] at hrc
    have hh : c.has = true := by
      cases hx : c.has
      · rw [hx] at hrc; simp at hrc
      · rfl
    have hd := (colE_ok (colsE_all b [] (chkS_is hb).2.2.1 i c hc)).2.2.2
    unfold dfltE at hd
    rw [if_pos hh] at hd
    split at hd
    · split at hd
      · rename_i q1 q2
        exact isV_mk htc (by rw [chk_map]; exact q1) (by rw [ofV_fix]; exact q2)
      · cases hd
    · rename_i q1; exact absurd hd q1
  | some k =>
    obtain ⟨x, hx, _⟩ := findC_is hf
    have hk := (List.getElem?_eq_some_iff.1 hx).1
    have hv : r[k]? = some (r[k]'(by omega)) := List.getElem?_eq_getElem _
    rw [colV_some hf hv hx] at he
    obtain ⟨q1, q2, q3⟩ := givE_is (givsE_all h2 h3 k _ x hv hx)
    rw [resC_some hf hx] at hrc
    have hcan : canF x.ty c.ty = true := by
      cases hh : canF x.ty c.ty
      · rw [hh] at hrc; simp at hrc
      · rfl
    exact readV_typed q1 htc q2 q3 hcan he
end Go.Proofs.YtknpaooloambdaaDoor
