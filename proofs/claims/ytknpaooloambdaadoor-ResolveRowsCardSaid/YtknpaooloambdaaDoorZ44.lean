/- Merged: ALs9s, OpenGen, AOpen, TFit, AOpenS. -/
import Derived.Test.YtknpaooloambdaaDoorZ43
import Derived.ProofKit
import Derived.OpenShut
import Derived.SizedLaws
import Derived.Laws.Cover2
/- Laws of layer 09: what was resolved is the caller's own. -/
set_option linter.unusedVariables false
set_option linter.unusedSimpArgs false
namespace Go.Proofs.YtknpaooloambdaaDoor
open Go.RowKit
attribute [local go_sem] run_store_fl
def GSpo (f : FuncId) (n : Nat) : Prop := ∀ (g : Gh) (hi : Nat) (v : V), v.rank < n → Under g.K hi → ∀ (W : World) (k i : Int) (fl : Nat) (t : ByteArray) (A : Option Addr) (m c : Nat), hi ≤ W.heap.size → Cur g v.items A m c → Spo g.K g.base W →
  Calls Tryd.prog f #[.agg #[.int .i64 k, .int .i64 i, .float .f64 fl, .string t, .slice A m c]] W fun e W' => e = .returned (.tuple #[]) ∧ Spo g.K g.base W' ∧ Beside g.base hi W W'
set_option maxRecDepth 20000 in
set_option maxHeartbeats 4000000 in
theorem u_spoil_step (n : Nat) (hn : GSpo 30 n) : GSpo 30 (n + 1) := by
  intro g hi v hv hu W k i fl t A m c hh hc hs
  have hr : ∀ x ∈ v.items, x.rank < n := fun x hx => by
    have := V.rank_lt hx
    have := V.rank_eq v
    omega
  have hle := hc.len
  go_enter Tryd.func30, Tryd.ntmps30
  have ka := (Kept.refl W).alloc (.cells #[.int .i64 k, .int .i64 i, .float .f64 fl, .string t, .slice A m c] 25)
  have hw := heap_alloc_new W (.cells #[.int .i64 k, .int .i64 i, .float .f64 fl, .string t, .slice A m c] 25)
  go_wp2_with fail
  go_loopw [2] (fun u wr => ∃ j : Nat, u = .int .i64 j ∧ j ≤ m ∧ Spo g.K g.base wr ∧ Beside g.base hi W wr ∧ wr.heap[W.heap.size]? = some (.cells #[.int .i64 k, .int .i64 i, .float .f64 fl, .string t, .slice A m c] 25)) (fun u _ => m - (intOf u).toNat)
  case atStart => exact ⟨0, rfl, Nat.zero_le _, hs.kept ka, .of ka, hw⟩
  case round =>
    obtain ⟨j, rfl, hj, r1, r2, r3⟩ := hrel
    have d4 := cells_cell r3 4
    by_cases hlt : j < m
    · obtain ⟨ad, x, k', i', f', t', B, m', d, rfl, hx, hb, c0, c1, c2, c3, c4, hc', v0, hv0⟩ := hc.at_ r1 hlt
      have i0 : (0 : Int) ≤ (j : Int) := by omega
      have i1 : (j : Int) < (m : Int) := by omega
      go_wp2_with fail
      have hsz := r2.size
      refine (hn g hi x (hr x (List.mem_of_getElem? hx)) hu wr k' i' f' t' B m' d (by omega) hc' r1).mono ?_
      rintro e w1 ⟨rfl, q1, q2⟩
      clear c0 c1 c2 c3 c4
      obtain ⟨ad', x2, k2, i2, f2, t2, B2, m2, d2, e2, _, _, c0, c1, c2, c3, c4, _⟩ := hc.at_ q1 hlt
      obtain rfl := Option.some.inj e2
      obtain ⟨z0, z1, z2, z3, z4⟩ := hc.thaw q1 hlt rfl
      have hwlt : W.heap.size < wr.heap.size := (Array.getElem?_eq_some_iff.1 r3).1
      have r3' := (q2.block _ hh hwlt).trans r3
      have d4' := cells_cell r3' 4
      obtain ⟨n1, n2, n3, n4⟩ := five_cells c1 c2 c3 c4
      go_wp2_with fail
      go_roundw
      case rel =>
        have hbh : ad.block < hi := by have := hu _ _ _ hv0; exact this
        have hbk : (ad.add (j * 5)).block = ad.block := add_block ..
        exact ⟨j + 1, by go_num, by omega, hc.five q1 hlt rfl 77 0 0 ⟨#[]⟩, (r2.trans q2).five (by rw [hbk]; exact hb) (by rw [hbk]; exact hbh) _ _ _ _ _, (five_block (by rw [hbk]; omega)).trans r3'⟩
      case measure => simp [intOf]; omega
    · have i1 : ¬ ((j : Int) < (m : Int)) := by omega
      go_wp2_with fail
      exact bodyPost_end (v := .tuple #[]) (by simp [results, Tryd.results30]) rfl ⟨rfl, r1, r2⟩
theorem u_spoilN : ∀ n, GSpo 30 n
  | 0 => fun g hi v h => absurd h (Nat.not_lt_zero _)
  | n + 1 => u_spoil_step n (u_spoilN n)
theorem u_spoil {g : Gh} {hi : Nat} (v : V) (hu : Under g.K hi) {W : World} {k i : Int} {fl : Nat} {t : ByteArray} {A : Option Addr} {m c : Nat} (hh : hi ≤ W.heap.size) (hc : VSim g (.sl true .none (encL true v.items)) (.slice A m c)) (hs : Spo g.K g.base W) :
    Calls Tryd.prog 30 #[.agg #[.int .i64 k, .int .i64 i, .float .f64 fl, .string t, .slice A m c]] W fun e W' => e = .returned (.tuple #[]) ∧ Spo g.K g.base W' ∧ Beside g.base hi W W' :=
  u_spoilN _ g hi v (Nat.lt_succ_self _) hu W k i fl t A m c hh (.inl hc) hs
def roVs (s : List V × Int) : List V := if s.2 = 0 then s.1 else []
theorem wk_rowO (s : List V × Int) : Wk (rowO s) (.tup [.agg [.sl true .none (encL true (roVs s))], .s (.int .i64 s.2)]) := by
  unfold rowO roVs
  by_cases h : s.2 = 0
  · rw [if_pos h, if_pos h, h]
    exact .refl _
  · rw [if_neg h, if_neg h]
    refine Wks.tup rfl fun i x y hx hy => ?_
    match i, hx, hy with
    | 0, hx, hy =>
      obtain rfl : AV.agg [.s (.slice none 0 0)] = x := Option.some.inj hx
      obtain rfl : AV.agg [.sl true .none (encL true [])] = y := Option.some.inj hy
      refine Wk.agg ⟨⟨?_, rfl, rfl⟩, trivial⟩
      rw [encL]
      exact Wk.nil _
    | 1, hx, hy =>
      obtain rfl : AV.s (.int .i64 s.2) = x := Option.some.inj hx
      obtain rfl : AV.s (.int .i64 s.2) = y := Option.some.inj hy
      exact .refl _
theorem VSim.len_L {g : Gh} {o : Bool} {t : Tag} {l : List V} {x : Value} (h : VSim g (.sl o t (encL o l)) x) : ∃ B d, x = .slice B l.length d ∧ l.length ≤ 140737488355328 := by
  obtain ⟨B, d, e, _, h2, _⟩ := VSim.elem (n := 5) h (encL_lens o _) (by omega)
  rw [encL_len] at e h2
  exact ⟨B, d, e, h2⟩
theorem u_Row9 {a b : List C} {r : List V} {W : World} (hT : WorldOk W) (ha : ∀ c ∈ a, c.fits) (hb : ∀ c ∈ b, c.fits) (hr : ∀ v ∈ r, v.fits) {vs : List V} {e0 : Int} (hv : roVs (rowE a b r) = vs) (he : (rowE a b r).2 = e0) {xa xb xr : Value}
    (ma : VSim (gh0 W) (.sl false .none (encCL false a)) xa) (mb : VSim (gh0 W) (.sl false .none (encCL false b)) xb) (mr : VSim (gh0 W) (.sl false .none (encL false r)) xr) :
    Calls Tryd.prog 21 #[.agg #[xa], .agg #[xb], .agg #[xr]] W fun e W' => Kept W W' ∧ ∃ B d K, e = .returned (.tuple #[.agg #[.slice B vs.length d], .int .i64 e0]) ∧ vs.length ≤ 140737488355328 ∧ Ans W W' (.sl true .none (encL true vs)) (.slice B vs.length d) K := by
  subst hv he
  refine ((g_RowV a b r false false false ha hb hr).callsA hT (.cons (ma.mk1 rfl) (.cons (mb.mk1 rfl) (.cons (mr.mk1 rfl) .nil)))).mono ?_
  rintro e W' ⟨hk, x, K, rfl, hans⟩
  obtain ⟨p, q, rfl, h1, h3⟩ := (hans.weak (wk_rowO _)).two
  obtain ⟨y, rfl, h4⟩ := h1.one_
  obtain rfl := h3.lit
  obtain ⟨B, d, rfl, q2⟩ := h4.sim.len_L
  exact ⟨hk, B, d, K, rfl, q2, h4⟩
theorem u_rRow9 {a b : List C} {r : List V} {W : World} (hT : WorldOk W) (ha : ∀ c ∈ a, c.fits) (hb : ∀ c ∈ b, c.fits) (hr : ∀ v ∈ r, v.fits) {vs : List V} {e0 : Int} (hv : roVs (rowE a b r) = vs) (he : (rowE a b r).2 = e0) {xa xb xr : Value}
    (ma : VSim (gh0 W) (.sl false .none (encCL false a)) xa) (mb : VSim (gh0 W) (.sl false .none (encCL false b)) xb) (mr : VSim (gh0 W) (.sl false .none (encL false r)) xr) :
    Calls Tryd.prog 28 #[.agg #[xa], .agg #[xb], .agg #[xr]] W fun e W' => Kept W W' ∧ ∃ B d K, e = .returned (.tuple #[.agg #[.slice B vs.length d], .int .i64 e0]) ∧ vs.length ≤ 140737488355328 ∧ Ans W W' (.sl true .none (encL true vs)) (.slice B vs.length d) K := by
  subst hv he
  refine ((g_rRowV a b r false false false ha hb hr).callsA hT (.cons (ma.mk1 rfl) (.cons (mb.mk1 rfl) (.cons (mr.mk1 rfl) .nil)))).mono ?_
  rintro e W' ⟨hk, x, K, rfl, hans⟩
  obtain ⟨p, q, rfl, h1, h3⟩ := (hans.weak (wk_rowO _)).two
  obtain ⟨y, rfl, h4⟩ := h1.one_
  obtain rfl := h3.lit
  obtain ⟨B, d, rfl, q2⟩ := h4.sim.len_L
  exact ⟨hk, B, d, K, rfl, q2, h4⟩
theorem u_rows9 {W : World} (hT : WorldOk W) {vs : List V} {A B : Option Addr} {n c m d : Nat} (h1 : VSim (gh0 W) (.sl false .none (encL false vs)) (.slice A n c)) (h2 : VSim (gh0 W) (.sl false .none (encL false vs)) (.slice B m d)) :
    Calls Tryd.prog 29 #[.agg #[.slice A n c], .agg #[.slice B m d]] W fun e W' => e = .returned (.bool true) ∧ Kept W W' := by
  have c0 := g_rows vs vs false false
  rw [exL_refl] at c0
  exact c0.calls hT (.cons (h1.mk1 rfl) (.cons (h2.mk1 rfl) .nil))
set_option maxRecDepth 20000 in
set_option maxHeartbeats 4000000 in
theorem l_ResolveRows {a b : List C} {r : List V} {W : World} {x0 x1 x2 : Value} (hT : WorldOk W) (ha : ∀ c ∈ a, c.fits) (hb : ∀ c ∈ b, c.fits) (hr : ∀ v ∈ r, v.fits)
    (m0 : VSim (gh0 W) (.agg [.sl false .none (encCL false a)]) x0) (m1 : VSim (gh0 W) (.agg [.sl false .none (encCL false b)]) x1) (m2 : VSim (gh0 W) (.agg [.sl false .none (encL false r)]) x2) :
    Calls Tryd.prog 10 #[x0, x1, x2] W fun e W' => e = .returned (.bool true) ∧ Kept W W' := by
  obtain ⟨y0, rfl, ms0⟩ := m0.one_
  obtain ⟨y1, rfl, ms1⟩ := m1.one_
  obtain ⟨y2, rfl, ms2⟩ := m2.one_
  obtain ⟨A0, c0, rfl, _, _, _⟩ := VSim.elem (n := 9) ms0 (encCL_lens false a) (by omega)
  obtain ⟨A1, c1, rfl, _, _, _⟩ := VSim.elem (n := 9) ms1 (encCL_lens false b) (by omega)
  obtain ⟨A2, c2, rfl, _⟩ := ms2.len_L
  rw [encCL_len] at ms0 m0 ms1 m1 ⊢
  rw [encCL_len]
  have na := noOwnCL a
  have nb := noOwnCL b
  have nr := noOwnL r
  obtain ⟨vs, hv⟩ : ∃ vs, roVs (rowE a b r) = vs := ⟨_, rfl⟩
  obtain ⟨e0, he⟩ : ∃ e0, (rowE a b r).2 = e0 := ⟨_, rfl⟩
  have nv := noOwnL vs
  go_enter Tryd.func10, Tryd.ntmps10
  have ja := (Kept.refl W).alloc (.cells #[.slice A0 a.length c0] 37)
  have jb := (Kept.refl (W.alloc (.cells #[.slice A0 a.length c0] 37))).alloc (.cells #[.slice A1 b.length c1] 37)
  have jr := (Kept.refl ((W.alloc (.cells #[.slice A0 a.length c0] 37)).alloc (.cells #[.slice A1 b.length c1] 37))).alloc (.cells #[.slice A2 r.length c2] 45)
  have g0 := heap_alloc_new W (.cells #[.slice A0 a.length c0] 37)
  have g1 := heap_alloc_new (W.alloc (.cells #[.slice A0 a.length c0] 37)) (.cells #[.slice A1 b.length c1] 37)
  have g2 := heap_alloc_new ((W.alloc (.cells #[.slice A0 a.length c0] 37)).alloc (.cells #[.slice A1 b.length c1] 37)) (.cells #[.slice A2 r.length c2] 45)
  rw [World.size_alloc] at g1
  rw [World.size_alloc, World.size_alloc] at g2
  replace g0 := kept_box (kept_box g0 jb) jr
  replace g1 := kept_box g1 jr
  have k0 := (ja.trans jb).trans jr
  obtain ⟨w0, hw0⟩ : ∃ w0, w0 = ((W.alloc (.cells #[.slice A0 a.length c0] 37)).alloc (.cells #[.slice A1 b.length c1] 37)).alloc (.cells #[.slice A2 r.length c2] 45) := ⟨_, rfl⟩
  have d0 := box1 g0
  have d1 := box1 g1
  have d2 := box1 g2
  go_wp2_with fail
  clear d0 d1 d2
  rw [← hw0] at k0 g0 g1 g2 ⊢
  clear hw0 ja jb jr
  refine (u_Row9 (hT.kept k0) ha hb hr hv he (ms0.kept0 na k0) (ms1.kept0 nb k0) (ms2.kept0 nr k0)).mono ?_
  rintro e w2 ⟨k2, B, d, K2, rfl, lm2, a2⟩
  have gR := heap_alloc_new w2 (.cells #[.slice B vs.length d] 45)
  have jR := (Kept.refl w2).alloc (.cells #[.slice B vs.length d] 45)
  have h2 := k2.trans jR
  have d0 := box1 (kept_box g0 h2)
  have d1 := box1 (kept_box g1 h2)
  have d2 := box1 (kept_box g2 h2)
  go_wp2_with fail
  clear d0 d1 d2
  refine (u_rRow9 (hT.kept (k0.trans h2)) ha hb hr hv he (ms0.kept0 na (k0.trans h2)) (ms1.kept0 nb (k0.trans h2)) (ms2.kept0 nr (k0.trans h2))).mono ?_
  rintro e w3 ⟨k3, B3, d3, K3, rfl, lm3, a3⟩
  have gQ := heap_alloc_new w3 (.cells #[.slice B3 vs.length d3] 45)
  have jQ := (Kept.refl w3).alloc (.cells #[.slice B3 vs.length d3] 45)
  have h3 := k3.trans jQ
  have cR := box1 (kept_box gR h3)
  have cQ := box1 gQ
  go_wp2_with fail
  clear cR cQ
  refine (u_rows9 (hT.kept ((k0.trans h2).trans h3)) (a2.kept (wk_freeL _) nv (jR.trans h3)) (a3.kept (wk_freeL _) nv jQ)).mono ?_
  rintro e w4 ⟨rfl, k4⟩
  have h4 := (h2.trans h3).trans k4
  have z5 := (jR.trans h3).trans k4
  have s5 := (Spo.start a2.hK a2.hN).kept z5
  have u5 := Under.of a2.hK
  have z35 := jQ.trans k4
  have gR5 := kept_box gR (h3.trans k4)
  have gQ5 := kept_box gQ k4
  have h23 := (jR.trans k3).size
  have cR := box1 gR5
  go_wp2_with fail
  clear cR
  refine (u_spoil (.mk 0 0 0 ⟨#[]⟩ vs) u5 z5.size a2.sim s5).mono ?_
  rintro e w6 ⟨rfl, _, r2⟩
  have K15 := r2.kept w0 (Nat.le_refl _) h4
  have K05 := k0.trans K15
  have gQ := r2.hi_ h23 gQ5
  have m3 := a3.own (allOwn_L _) (wk_freeL _) nv (fun b h1 h2 => (r2.block b (Nat.le_trans jR.size h1) (Nat.lt_of_lt_of_le h2 z35.size)).trans (z35.block b h2))
  have d0 := box1 (kept_box g0 K15)
  have d1 := box1 (kept_box g1 K15)
  have d2 := box1 (kept_box g2 K15)
  go_wp2_with fail
  clear d0 d1 d2
  refine (u_Row9 (hT.kept K05) ha hb hr hv he (ms0.kept0 na K05) (ms1.kept0 nb K05) (ms2.kept0 nr K05)).mono ?_
  rintro e w7 ⟨k7, B7, d7, K7, rfl, lm7, a7⟩
  have gP := heap_alloc_new w7 (.cells #[.slice B7 vs.length d7] 45)
  have jP := (Kept.refl w7).alloc (.cells #[.slice B7 vs.length d7] 45)
  go_wp2_with fail
  refine (g_live9.calls (hT.kept (K05.trans (k7.trans jP))) .nil).mono ?_
  rintro e w8 ⟨rfl, k8⟩
  have kz := (k7.trans jP).trans k8
  have cP := box1 (kept_box gP k8)
  have cQ := box1 (kept_box gQ kz)
  go_wp2_with fail
  refine (u_rows9 (hT.kept (K05.trans kz)) (a7.kept (wk_freeL _) nv (jP.trans k8)) (m3.kept0 nv kz)).mono ?_
  rintro e w9 ⟨rfl, k9⟩
  go_wp2_with fail
  go_ret
  exact ⟨rfl, (K05.trans kz).trans k9⟩
end Go.Proofs.YtknpaooloambdaaDoor
/- From a row's data to plain data: scalars, slices and structs that came in. No program beside the given type facts. -/
set_option linter.unusedVariables false
set_option linter.unusedSimpArgs false
namespace Go.Proofs.YtknpaooloambdaaDoor
open Go.ChangeShapes Go.WideShapes Go.ChangeAt Go.RowKit
section
variable {H : Type} {enc : TypeId × Value → H} {W : World} {P : Program}
/-- Every weight in it is within the form's reach. -/
def Light (P : Program) (t : TypeId) (d : DataW H) : Prop := ∀ n ∈ d.weights P t, n ≤ reachBytes
theorem light_at {ts : List TypeId} {ds : List (DataW H)} (h : (DataW.weightsEach P ts ds).all (· ≤ reachBytes) = true) {j : Nat} {t : TypeId} {d : DataW H} (ht : ts[j]? = some t) (hd : ds[j]? = some d) : Light P t d := fun n hn => by
  have := List.all_eq_true.1 h _ (DataW.weights_mem_each ht hd n hn)
  simpa using this
theorem weightsAll_mem {e : TypeId} : ∀ {l : List (DataW H)} {d : DataW H}, d ∈ l → ∀ n ∈ d.weights P e, n ∈ DataW.weightsAll P e l
  | x :: l, d, h, n, hn => by
    simp only [DataW.weightsAll, List.mem_append]
    rcases List.mem_cons.1 h with rfl | h
    · exact .inl hn
    · exact .inr (weightsAll_mem h n hn)
  | [], _, h, _, _ => by cases h
theorem Light.field {t : TypeId} {fs : Array Field} {ds : List (DataW H)} (hu : P.underlying t = some (.struct fs)) (h : Light P t (.agg ds)) {j : Nat} {f : Field} {d : DataW H} (hf : fs[j]? = some f) (hd : ds[j]? = some d) : Light P f.type d := fun n hn => by
  refine h n ?_
  simp only [DataW.weights, hu]
  exact DataW.weights_mem_each (j := j) (by simp [hf]) hd n hn
theorem Light.elem {t e : TypeId} {es sp : List (DataW H)} (hu : P.underlying t = some (.slice e)) (h : Light P t (.slice es sp)) {d : DataW H} (hd : d ∈ es) : Light P e d := fun n hn => by
  refine h n ?_
  simp only [DataW.weights, hu, List.mem_cons, List.mem_append]
  exact .inr (.inl (weightsAll_mem hd n hn))
theorem Light.len {t e : TypeId} {es sp : List (DataW H)} (hu : P.underlying t = some (.slice e)) (h : Light P t (.slice es sp)) : es.length * P.bytesOf e ≤ 140737488351232 := by
  have := h ((es.length + sp.length) * P.bytesOf e) (by simp [DataW.weights, hu])
  have h2 : es.length * P.bytesOf e ≤ (es.length + sp.length) * P.bytesOf e := Nat.mul_le_mul_right _ (by omega)
  have h3 : reachBytes = 140737488351232 := rfl
  omega

/-- Cells that read as plain data, in a world at the beginning. -/
def Reads (W : World) (l : List AV) (cs : List Value) : Prop := cs.length = l.length ∧ ∀ (i : Nat) x, l[i]? = some x → x.one = true ∧ x.dat0 = true ∧ oneV (cs.getD i undef) = true ∧ VSim (gh0 W) x (cs.getD i undef)
theorem Reads.nil : Reads W [] [] := ⟨rfl, fun i x h => by simp at h⟩
theorem Reads.app {l m : List AV} {cs ds : List Value} (h : Reads W l cs) (h' : Reads W m ds) : Reads W (l ++ m) (cs ++ ds) := by
  refine ⟨by simp [h.1, h'.1], fun i x hx => ?_⟩
  rcases Nat.lt_or_ge i l.length with hi | hi
  · rw [List.getElem?_append_left hi] at hx
    have := h.2 i x hx
    rwa [List.getD_eq_getElem?_getD, List.getElem?_append_left (by rw [h.1]; exact hi), ← List.getD_eq_getElem?_getD]
  · rw [List.getElem?_append_right hi] at hx
    have := h'.2 _ x hx
    rwa [List.getD_eq_getElem?_getD, List.getElem?_append_right (by rw [h.1]; exact hi), h.1, ← List.getD_eq_getElem?_getD]
theorem Reads.s {v : Value} (h : oneV v = true) (hd : AV.dat0 (.s v) = true) : Reads W [.s v] [v] := ⟨rfl, fun i x hx => by
  cases i with
  | zero =>
    obtain rfl : AV.s v = x := by simpa using hx
    exact ⟨h, hd, h, .s v h⟩
  | succ i => simp at hx⟩
theorem Reads.agg {l : List AV} {cs : List Value} (h : Reads W l cs) : VSim (gh0 W) (.agg l) (.agg cs.toArray) :=
  .agg l _ (by simp [h.1]) (fun i x hx => (h.2 i x hx).1) (fun i x hx => by
    have := (h.2 i x hx).2.2.2
    rwa [show cs.toArray.getD i undef = cs.getD i undef by simp [Array.getD_eq_getD_getElem?]])
theorem Reads.one {x : AV} {v : Value} (h : Reads W [x] [v]) : VSim (gh0 W) x v := (h.2 0 x rfl).2.2.2

theorem trod_float' {w : World} {base : Nat} {sp : Nat → Bool} {held : Bool} {fuel : Nat} {t : TypeId} {k : FloatKind} {cs : List Value} {x : DataW H × List MemPlace} (ht : P.underlying t = some (.float k)) (h : DataW.trod enc P w base sp held fuel t cs = some x) : ∃ b, cs = [.float k b] ∧ x = (.lit (.float k b), []) ∧ (Lit.float k b).wf = true := by
  cases fuel with
  | zero => simp [DataW.trod] at h
  | succ n =>
    unfold DataW.trod at h
    rw [ht] at h
    split at h <;> simp_all
theorem trod_bool' {w : World} {base : Nat} {sp : Nat → Bool} {held : Bool} {fuel : Nat} {t : TypeId} {cs : List Value} {x : DataW H × List MemPlace} (ht : P.underlying t = some .bool) (h : DataW.trod enc P w base sp held fuel t cs = some x) : ∃ b, cs = [.bool b] ∧ x = (.lit (.bool b), []) := by
  cases fuel with
  | zero => simp [DataW.trod] at h
  | succ n =>
    unfold DataW.trod at h
    rw [ht] at h
    split at h <;> simp_all
theorem addr_add (a : Addr) (m k : Nat) : (a.add m).add k = a.add (m + k) := by
  by_cases hm : m = 0
  · subst hm
    simp [Addr.add]
  · by_cases hk : k = 0
    · subst hk
      simp [Addr.add, hm]
    · simp [Addr.add, hm, hk, Nat.add_assoc]
theorem addr_none {a : Addr} (h : a.spot = none) {j : Nat} : (⟨a.block, a.off + j, none⟩ : Addr) = a.add j := by
  unfold Addr.add
  split
  · rename_i h0
    subst h0
    cases a
    cases h
    rfl
  · rfl
/-- A slice that came in: a list of what its elements are. -/
theorem open_slice_gen {α : Type} (E : α → List AV) (Good : α → Prop) {sz : Nat} {t e : TypeId} {n : Nat} {cs : List Value} {y : DataW H × List MemPlace} (ht : P.underlying t = some (.slice e)) (hs : P.cellsOf e = sz) (h0 : 0 < sz) (hby : 0 < P.bytesOf e) (hE : ∀ x, (E x).length = sz)
    (ih : ∀ m cs' y', m < n → DataW.trod enc P W 0 (fun _ => true) true m e cs' = some y' → Light P e y'.1 → ∃ x, Good x ∧ Reads W (E x) cs')
    (h : DataW.trod enc P W 0 (fun _ => true) true n t cs = some y) (hl : Light P t y.1) :
    ∃ l : List α, (∀ x ∈ l, Good x) ∧ l.length * P.bytesOf e ≤ 140737488351232 ∧ l.length ≤ 140737488355328 ∧ Reads W [.sl false .none (l.map E)] cs := by
  rcases DataW.trod_slice ht h with ⟨rfl, rfl⟩ | ⟨a, len, cap, elems, rest, m, hn, rfl, rfl, hb, hlc, hm, hlen, hel, hsp, hns⟩
  · refine ⟨[], by simp, by simp, by simp, rfl, fun i x hx => ?_⟩
    cases i with
    | zero =>
      obtain rfl : AV.sl false .none [] = x := by simpa using hx
      exact ⟨rfl, rfl, rfl, .sl false .none [] none 0 0 (fun _ => undef) (Nat.le_refl _) (Nat.zero_le _) (fun e he => by cases he) (fun j x hx => by simp at hx) (fun h => absurd rfl h) (fun j x hx => by simp at hx) trivial⟩
    | succ i => simp at hx
  · have each : ∀ i, i < len → ∃ x : α, ∃ cs', Good x ∧ W.cells? 0 (a.add (i * sz)) sz = some cs' ∧ Reads W (E x) cs' := by
      intro i hi
      have hx : elems[i]? = some elems[i] := List.getElem?_eq_getElem (by omega)
      have := hel i hi
      rw [hx, hs, Option.bind_eq_some_iff] at this
      obtain ⟨cs', q1, q2⟩ := this
      obtain ⟨x, r1, r2⟩ := ih m cs' _ (by omega) q2 (hl.elem ht (by
        simp only [List.mem_map]
        exact ⟨_, List.getElem_mem (by omega), rfl⟩))
      exact ⟨x, cs', r1, q1, r2⟩
    obtain ⟨l, hll, hlx⟩ : ∃ l : List α, l.length = len ∧ ∀ (i : Nat) x, l[i]? = some x → Good x ∧ ∃ cs', W.cells? 0 (a.add (i * sz)) sz = some cs' ∧ Reads W (E x) cs' := by
      clear hel hl h hsp hns ih hlen hlc
      induction len with
      | zero => exact ⟨[], rfl, fun i x hx => by simp at hx⟩
      | succ k ihk =>
        obtain ⟨l, q1, q2⟩ := ihk (fun i hi => each i (by omega))
        obtain ⟨x, cs', r1, r2, r3⟩ := each k (by omega)
        refine ⟨l ++ [x], by simp [q1], fun i z hz => ?_⟩
        rcases Nat.lt_or_ge i l.length with hi | hi
        · rw [List.getElem?_append_left hi] at hz
          exact q2 i z hz
        · rw [List.getElem?_append_right hi] at hz
          have h0 : i - l.length = 0 := by
            rcases Nat.eq_zero_or_pos (i - l.length) with h | h
            · exact h
            · obtain ⟨j, hj⟩ : ∃ j, i - l.length = j + 1 := ⟨i - l.length - 1, by omega⟩
              rw [hj] at hz; simp at hz
          rw [h0] at hz
          obtain rfl : x = z := by simpa using hz
          obtain rfl : i = k := by omega
          exact ⟨r1, cs', r2, r3⟩
    have hlb := hl.len ht
    rw [List.length_map, hlen] at hlb
    have hlen2 : len ≤ 140737488355328 := by
      have : len * 1 ≤ len * P.bytesOf e := Nat.mul_le_mul_left _ hby
      omega
    refine ⟨l, fun x hx => by obtain ⟨i, hi⟩ := List.getElem?_of_mem hx; exact (hlx i x hi).1, by rw [hll]; exact hlb, by omega, rfl, fun i x hx => ?_⟩
    cases i with
    | succ i => simp at hx
    | zero =>
      obtain rfl : AV.sl false .none (l.map E) = x := by simpa using hx
      have flat : ∀ (j : Nat) (x : AV), (l.map E).flatten[j]? = some x → x.one = true ∧ x.dat0 = true ∧ ∃ v, W.cell? (a.add j) = some v ∧ oneV v = true ∧ VSim (gh0 W) x v := by
        intro j x hj
        have hfl : ∀ (l : List α) (j : Nat), (l.map E).flatten[j]? = (l[j / sz]?).bind fun z => (E z)[j % sz]? := by
          intro l
          induction l with
          | nil => intro j; simp
          | cons z l ih2 =>
            intro j
            simp only [List.map_cons, List.flatten_cons]
            rcases Nat.lt_or_ge j sz with hj | hj
            · rw [List.getElem?_append_left (by rw [hE]; exact hj), Nat.div_eq_of_lt hj, Nat.mod_eq_of_lt hj]
              rfl
            · rw [List.getElem?_append_right (by rw [hE]; exact hj), hE, ih2]
              obtain ⟨k, rfl⟩ : ∃ k, j = k + sz := ⟨j - sz, by omega⟩
              rw [Nat.add_sub_cancel, Nat.add_div_right _ h0, Nat.add_mod_right]
              rfl
        rw [hfl, Option.bind_eq_some_iff] at hj
        obtain ⟨z, hz, hx⟩ := hj
        obtain ⟨_, cs', c1, c2⟩ := hlx _ _ hz
        obtain ⟨d1, d2, d3⟩ := World.cells?_some c1
        have hlt : j % sz < sz := Nat.mod_lt _ h0
        obtain ⟨e1, e2, e3, e4⟩ := c2.2 _ _ hx
        have d4 := d3 _ hlt
        have hlt' : j % sz < cs'.length := by omega
        rw [List.getElem?_eq_getElem hlt'] at d4
        rw [List.getD_eq_getElem?_getD, List.getElem?_eq_getElem hlt'] at e3 e4
        simp only [Option.getD_some] at e3 e4
        refine ⟨e1, e2, _, ?_, e3, e4⟩
        have e0 := Nat.div_add_mod j sz
        rw [Nat.mul_comm] at e0
        rw [← d4, addr_add, e0]
      have hvs : ∃ vs : Nat → Value, ∀ (j : Nat) x, (l.map E).flatten[j]? = some x → W.cell? (a.add j) = some (vs j) ∧ oneV (vs j) = true ∧ VSim (gh0 W) x (vs j) := by
        refine ⟨fun j => (W.cell? (a.add j)).getD undef, fun j x hx => ?_⟩
        obtain ⟨_, _, v, q1, q2, q3⟩ := flat j x hx
        simp only [q1]
        exact ⟨rfl, q2, q3⟩
      obtain ⟨vs, hvs⟩ := hvs
      have hml : len = (l.map E).length := by simp [hll]
      refine ⟨rfl, rfl, rfl, ?_⟩
      show VSim (gh0 W) _ (.slice (some a) len cap)
      rw [hml]
      refine .sl false .none (l.map E) (some a) cap sz vs (by simp [hll, hlc]) (by simp [hll]; omega) (fun e he => by obtain ⟨z, _, rfl⟩ := List.mem_map.1 he; exact hE z) (fun j x hx => ⟨(flat j x hx).1, (flat j x hx).2.1⟩) (fun hne => ?_) (fun j x hx => (hvs j x hx).2.2) trivial
      obtain ⟨x, hx⟩ : ∃ x, (l.map E).flatten[0]? = some x := by
        cases hf : (l.map E).flatten with
        | nil => exact absurd hf hne
        | cons x r => exact ⟨x, rfl⟩
      have hsp : a.spot = none := by
        have := (hvs 0 x hx).1
        unfold World.cell? at this
        split at this
        · cases hq : a.spot with
          | none => rfl
          | some s => simp [Addr.add, hq] at this
        · cases this
      refine ⟨a.block, a.off, by cases a; cases hsp; rfl, fun h => (by cases h), fun j x hx => ?_⟩
      obtain ⟨q1, q2, q3⟩ := hvs j x hx
      rw [gh0_K]
      refine ⟨?_, q2⟩
      rw [← q1]
      congr 1
      exact addr_none hsp
end
end Go.Proofs.YtknpaooloambdaaDoor
/- An argument of type api.Value is a value. -/
set_option linter.unusedVariables false
set_option linter.unusedSimpArgs false
namespace Go.Proofs.YtknpaooloambdaaDoor
open Go.ChangeShapes Go.WideShapes Go.ChangeAt Go.RowKit
section
variable {H : Type} {enc : TypeId × Value → H} {W : World}
set_option maxRecDepth 20000 in
theorem open_V : ∀ (n : Nat) (cs : List Value) (y : DataW H × List MemPlace), DataW.trod enc Tryd.prog W 0 (fun _ => true) true n 25 cs = some y → Light Tryd.prog 25 y.1 → ∃ v : V, v.fits ∧ Reads W (encV false v) cs := by
  intro n
  induction n using Nat.strongRecOn with
  | ind n ih =>
  intro cs y h hl
  have hu := Tryd.underlying25
  obtain ⟨xs, m, rfl, rfl, hlen, hxl, hf⟩ := DataW.trod_struct hu h
  rw [show Tryd.prog.cellsOf 25 = 5 by kernel_rfl] at hlen
  match cs, hlen with
  | [c0, c1, c2, c3, c4], _ =>
  match xs, hxl with
  | [y0, y1, y2, y3, y4], _ =>
  have l1 : Tryd.prog.cellsOf 3 = 1 := by kernel_rfl
  have l2 : Tryd.prog.cellsOf 2 = 1 := by kernel_rfl
  have l3 : Tryd.prog.cellsOf 22 = 1 := by kernel_rfl
  have l4 : Tryd.prog.cellsOf 9 = 1 := by kernel_rfl
  have l5 : Tryd.prog.cellsOf 23 = 1 := by kernel_rfl
  have f0 := hf 0 _ rfl
  have f1 := hf 1 _ rfl
  have f2 := hf 2 _ rfl
  have f3 := hf 3 _ rfl
  have f4 := hf 4 _ rfl
  simp only [l1, l2, l3, l4, l5, List.drop_succ_cons, List.drop_zero, List.take_succ_cons, List.take_zero, List.getElem?_cons_succ, List.getElem?_cons_zero] at f0 f1 f2 f3 f4
  have h3 := hl.field hu (j := 3) rfl (d := y3.1) rfl
  have h4 := hl.field hu (j := 4) rfl (d := y4.1) rfl
  obtain ⟨k, e0, _, w0⟩ := DataW.trod_int Tryd.underlying3 f0
  obtain ⟨i, e1, _, w1⟩ := DataW.trod_int Tryd.underlying2 f1
  obtain ⟨f, e2, _, w2⟩ := trod_float' Tryd.underlying22 f2
  obtain ⟨t, e3, et, _⟩ := DataW.trod_string Tryd.underlying9 f3
  obtain ⟨l, q1, q2, _, q3⟩ := open_slice_gen (encV false) V.fits Tryd.underlying23 (by kernel_rfl : Tryd.prog.cellsOf 25 = 5) (by decide) (by rw [show Tryd.prog.bytesOf 25 = 64 by kernel_rfl]; decide) (encV_len false)
    (fun m' cs' y' hm h' hl' => ih m' (by omega) cs' y' h' hl') f4 h4
  rw [show Tryd.prog.bytesOf 25 = 64 by kernel_rfl] at q2
  have ts : t.size ≤ 140737488351232 := by
    have := h3 t.data.toList.length (by rw [et]; simp [DataW.weights])
    have h9 : reachBytes = 140737488351232 := rfl
    have e : t.data.toList.length = t.size := Array.length_toList
    omega
  have w2' : f < 18446744073709551616 := by
    simp [Lit.wf, FloatKind.format] at w2
    omega
  have k0 := i64_of_wf w0
  have k1 := i64_of_wf w1
  cases e0
  cases e1
  cases e2
  cases e3
  refine ⟨.mk k i f t l, V.fits_of ⟨by omega, k0, k1, w2', ts⟩ q1, ?_⟩
  rw [encV_eq, V.kind_mk, V.int_mk, V.float_mk, V.text_mk, V.items_mk, encL_eq]
  exact ((Reads.s rfl rfl).app (.app (.s rfl rfl) (.app (.s rfl rfl) (.app (.s rfl rfl) q3))))
/-- An argument. -/
theorem open_value {v : Value} {d : DataW H} {p : List MemPlace} (h : DataW.Trod enc Tryd.prog W 0 (fun _ => true) true 25 v d p) (hl : Light Tryd.prog 25 d) : ∃ x : V, x.fits ∧ VSim (gh0 W) (.agg (encV false x)) v := by
  obtain ⟨n, hn⟩ := h
  obtain ⟨x, h1, h2⟩ := open_V n _ _ hn hl
  refine ⟨x, h1, ?_⟩
  have h3 := h2.1
  rw [encV_len] at h3
  cases v with
  | agg a =>
    have := h2.agg
    simpa [Value.cells] using this
  | _ => exact absurd h3 (by simp [Value.cells])
end
end Go.Proofs.YtknpaooloambdaaDoor
/- Types and columns that may lie in a program's memory. No program. -/
set_option linter.unusedVariables false
namespace Go.Proofs.YtknpaooloambdaaDoor
open Go
mutual
def T.fits : T → Prop
  | .mk k l => (inI k ∧ l.length ≤ 4398046510976) ∧ T.fitsL l
def T.fitsL : List T → Prop
  | [] => True
  | x :: l => T.fits x ∧ T.fitsL l
end
theorem T.fitsL_mem : ∀ {l : List T} {x : T}, T.fitsL l → x ∈ l → x.fits
  | y :: l, x, h, hx => by
    rcases List.mem_cons.1 hx with rfl | hx
    · exact h.1
    · exact T.fitsL_mem h.2 hx
  | [], _, _, hx => by cases hx
theorem T.fitsL_of : ∀ {l : List T}, (∀ x ∈ l, x.fits) → T.fitsL l
  | [], _ => trivial
  | y :: l, h => ⟨h y (List.mem_cons_self ..), T.fitsL_of fun x hx => h x (List.mem_cons_of_mem _ hx)⟩
theorem T.fits_len {k : Int} {l : List T} (h : (T.mk k l).fits) : l.length ≤ 4398046510976 := h.1.2
theorem T.fits_mem {k : Int} {l : List T} (h : (T.mk k l).fits) {x : T} (hx : x ∈ l) : x.fits := T.fitsL_mem h.2 hx
theorem T.fits_of {k : Int} {l : List T} (h : inI k ∧ l.length ≤ 4398046510976) (hx : ∀ x ∈ l, x.fits) : (T.mk k l).fits := ⟨h, T.fitsL_of hx⟩
structure C.lies (c : C) : Prop where
  fit : c.fits
  ty : c.ty.fits
structure fitsCL (l : List C) : Prop where
  len : l.length ≤ 1172812402926
  all : ∀ c ∈ l, c.lies
theorem fitsCL.fit {l : List C} (h : fitsCL l) : ∀ c ∈ l, c.fits := fun c hc => (h.all c hc).fit
end Go.Proofs.YtknpaooloambdaaDoor
/- Arguments of types []byte, api.Type, api.Schema. -/
set_option linter.unusedVariables false
set_option linter.unusedSimpArgs false
namespace Go.Proofs.YtknpaooloambdaaDoor
open Go.ChangeShapes Go.WideShapes Go.ChangeAt Go.RowKit
section
variable {H : Type} {enc : TypeId × Value → H} {W : World}
/-- What lies in one cell is a value of its own. -/
theorem reads_agg {l : List AV} {v : Value} (h : Reads W l v.cells.toList) (hv : (∃ a, v = .agg a) ∨ l.length ≠ 1) : VSim (gh0 W) (.agg l) v := by
  have h3 := h.1
  cases v with
  | agg a =>
    have := h.agg
    simpa [Value.cells] using this
  | _ =>
    rcases hv with ⟨a, ha⟩ | hv
    · cases ha
    · exact absurd h3 (by simp [Value.cells]; omega)
theorem open_byte {m : Nat} {cs : List Value} {y : DataW H × List MemPlace} (h : DataW.trod enc Tryd.prog W 0 (fun _ => true) true m 5 cs = some y) : ∃ c : UInt8, True ∧ Reads W [.s (.int .u8 c.toNat)] cs := by
  obtain ⟨k, e0, _, w0⟩ := DataW.trod_int Tryd.underlying5 h
  subst e0
  have hk : 0 ≤ k ∧ k < 256 := by
    simp [Lit.wf, IntKind.min, IntKind.max, IntKind.signed, IntKind.bits] at w0
    omega
  refine ⟨UInt8.ofNat k.toNat, trivial, ?_⟩
  have : ((UInt8.ofNat k.toNat).toNat : Int) = k := by simp; omega
  rw [this]
  exact .s rfl rfl
theorem open_byteS {A : Option Addr} {len cap : Nat} {d : DataW H} {p : List MemPlace} (h : DataW.Trod enc Tryd.prog W 0 (fun _ => true) true 84 (.slice A len cap) d p) (hl : Light Tryd.prog 84 d) : ∃ l : List UInt8, l.length ≤ 140737488351232 ∧ VSim (gh0 W) (.sl false .none (encB l)) (.slice A len cap) := by
  obtain ⟨n, hn⟩ := h
  obtain ⟨l, _, q2, _, q3⟩ := open_slice_gen (fun c : UInt8 => [AV.s (.int .u8 c.toNat)]) (fun _ => True) Tryd.underlying84 (by kernel_rfl : Tryd.prog.cellsOf 5 = 1) (by decide) (by rw [show Tryd.prog.bytesOf 5 = 1 by kernel_rfl]; decide) (fun _ => rfl)
    (fun m' cs' y' hm h' hl' => open_byte h') hn hl
  rw [show Tryd.prog.bytesOf 5 = 1 by kernel_rfl] at q2
  exact ⟨l, by omega, Reads.one q3⟩
set_option maxRecDepth 20000 in
theorem open_T : ∀ (n : Nat) (cs : List Value) (y : DataW H × List MemPlace), DataW.trod enc Tryd.prog W 0 (fun _ => true) true n 31 cs = some y → Light Tryd.prog 31 y.1 → ∃ v : T, v.fits ∧ Reads W (encT false v) cs := by
  intro n
  induction n using Nat.strongRecOn with
  | ind n ih =>
  intro cs y h hl
  have hu := Tryd.underlying31
  obtain ⟨xs, m, rfl, rfl, hlen, hxl, hf⟩ := DataW.trod_struct hu h
  rw [show Tryd.prog.cellsOf 31 = 2 by kernel_rfl] at hlen
  match cs, hlen with
  | [c0, c1], _ =>
  match xs, hxl with
  | [y0, y1], _ =>
  have l1 : Tryd.prog.cellsOf 3 = 1 := by kernel_rfl
  have l2 : Tryd.prog.cellsOf 29 = 1 := by kernel_rfl
  have f0 := hf 0 _ rfl
  have f1 := hf 1 _ rfl
  simp only [l1, l2, List.drop_succ_cons, List.drop_zero, List.take_succ_cons, List.take_zero, List.getElem?_cons_succ, List.getElem?_cons_zero] at f0 f1
  have h1 := hl.field hu (j := 1) rfl (d := y1.1) rfl
  obtain ⟨k, e0, _, w0⟩ := DataW.trod_int Tryd.underlying3 f0
  obtain ⟨l, q1, q2, _, q3⟩ := open_slice_gen (encT false) T.fits Tryd.underlying29 (by kernel_rfl : Tryd.prog.cellsOf 31 = 2) (by decide) (by rw [show Tryd.prog.bytesOf 31 = 32 by kernel_rfl]; decide) (encT_len false)
    (fun m' cs' y' hm h' hl' => ih m' (by omega) cs' y' h' hl') f1 h1
  rw [show Tryd.prog.bytesOf 31 = 32 by kernel_rfl] at q2
  have k0 := i64_of_wf w0
  cases e0
  refine ⟨.mk k l, T.fits_of ⟨k0, by omega⟩ q1, ?_⟩
  rw [encT_eq, T.kind_mk, T.of_mk, encTL_eq]
  exact (Reads.s rfl rfl).app q3
set_option maxRecDepth 20000 in
theorem open_C (n : Nat) (cs : List Value) (y : DataW H × List MemPlace) (h : DataW.trod enc Tryd.prog W 0 (fun _ => true) true n 55 cs = some y) (hl : Light Tryd.prog 55 y.1) : ∃ c : C, c.lies ∧ Reads W (encC false c) cs := by
  have hu := Tryd.underlying55
  obtain ⟨xs, m, rfl, rfl, hlen, hxl, hf⟩ := DataW.trod_struct hu h
  rw [show Tryd.prog.cellsOf 55 = 9 by kernel_rfl] at hlen
  match cs, hlen with
  | [c0, c1, c2, c3, c4, c5, c6, c7, c8], _ =>
  match xs, hxl with
  | [y0, y1, y2, y3], _ =>
  have l1 : Tryd.prog.cellsOf 9 = 1 := by kernel_rfl
  have l2 : Tryd.prog.cellsOf 31 = 2 := by kernel_rfl
  have l3 : Tryd.prog.cellsOf 4 = 1 := by kernel_rfl
  have l4 : Tryd.prog.cellsOf 25 = 5 := by kernel_rfl
  have f0 := hf 0 _ rfl
  have f1 := hf 1 _ rfl
  have f2 := hf 2 _ rfl
  have f3 := hf 3 _ rfl
  simp only [l1, l2, l3, l4, List.drop_succ_cons, List.drop_zero, List.take_succ_cons, List.take_zero, List.getElem?_cons_succ, List.getElem?_cons_zero] at f0 f1 f2 f3
  have h0 := hl.field hu (j := 0) rfl (d := y0.1) rfl
  have h1 := hl.field hu (j := 1) rfl (d := y1.1) rfl
  have h3 := hl.field hu (j := 3) rfl (d := y3.1) rfl
  obtain ⟨t, e0, et, _⟩ := DataW.trod_string Tryd.underlying9 f0
  obtain ⟨b, e2, _⟩ := trod_bool' Tryd.underlying4 f2
  obtain ⟨ty, g1, r1⟩ := open_T _ _ _ f1 h1
  obtain ⟨v, g3, r3⟩ := open_V _ _ _ f3 h3
  have ts : t.size ≤ 140737488351232 := by
    have := h0 t.data.toList.length (by rw [et]; simp [DataW.weights])
    have h9 : reachBytes = 140737488351232 := rfl
    have e : t.data.toList.length = t.size := Array.length_toList
    omega
  cases e0
  cases e2
  refine ⟨⟨t, ty, b, v⟩, ⟨⟨g3, ts, ?_⟩, g1⟩, ?_⟩
  · obtain ⟨k, l⟩ := ty
    exact g1.1.1
  · rw [encT_eq] at r1
    rw [encV_eq] at r3
    exact ((Reads.s rfl rfl).app (r1.app ((Reads.s rfl rfl).app r3)))
/-- An argument of type api.Type. -/
theorem open_type {v : Value} {d : DataW H} {p : List MemPlace} (h : DataW.Trod enc Tryd.prog W 0 (fun _ => true) true 31 v d p) (hl : Light Tryd.prog 31 d) : ∃ x : T, x.fits ∧ VSim (gh0 W) (.agg (encT false x)) v := by
  obtain ⟨n, hn⟩ := h
  obtain ⟨x, h1, h2⟩ := open_T n _ _ hn hl
  exact ⟨x, h1, reads_agg h2 (.inr (by rw [encT_len]; decide))⟩
set_option maxRecDepth 20000 in
/-- An argument of type api.Schema. -/
theorem open_schema {a : Array Value} {d : DataW H} {p : List MemPlace} (h : DataW.Trod enc Tryd.prog W 0 (fun _ => true) true 37 (.agg a) d p) (hl : Light Tryd.prog 37 d) : ∃ l : List C, fitsCL l ∧ VSim (gh0 W) (.agg [.sl false .none (encCL false l)]) (.agg a) := by
  obtain ⟨n, hn⟩ := h
  have hu := Tryd.underlying37
  obtain ⟨xs, m, rfl, hy, hlen, hxl, hf⟩ := DataW.trod_struct hu hn
  injection hy with e1 e2
  subst e1
  rw [show Tryd.prog.cellsOf 37 = 1 by kernel_rfl] at hlen
  match xs, hxl with
  | [y0], _ =>
  have l1 : Tryd.prog.cellsOf 35 = 1 := by kernel_rfl
  have f0 : DataW.trod enc Tryd.prog W 0 (fun _ => true) true m 35 (List.take (Tryd.prog.cellsOf 35) (List.drop 0 (Value.agg a).cells.toList)) = some y0 := hf 0 _ rfl
  rw [l1, List.drop_zero, List.take_of_length_le (by omega)] at f0
  have h0 := hl.field hu (j := 0) rfl (d := y0.1) rfl
  obtain ⟨l, q1, q2, _, q3⟩ := open_slice_gen (encC false) C.lies Tryd.underlying35 (by kernel_rfl : Tryd.prog.cellsOf 55 = 9) (by decide) (by rw [show Tryd.prog.bytesOf 55 = 120 by kernel_rfl]; decide) (encC_len false)
    (fun m' cs' y' hm h' hl' => open_C m' cs' y' h' hl') f0 h0
  rw [show Tryd.prog.bytesOf 55 = 120 by kernel_rfl] at q2
  refine ⟨l, ⟨by omega, q1⟩, ?_⟩
  exact reads_agg q3 (.inl ⟨a, rfl⟩)
end
end Go.Proofs.YtknpaooloambdaaDoor
