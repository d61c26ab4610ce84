/- Merged: ALsP, OpenGen, AOpen, TFit, AOpenS. -/
import Derived.Test.YtakppgpkdjpngaaDoorZ41
import Derived.ProofKit
import Derived.OpenShut
import Derived.SizedLaws
import Derived.Laws.Cover2
/- Laws of layer 08: what was decoded is the caller's own. -/
set_option linter.unusedVariables false
set_option linter.unusedSimpArgs false
namespace Go.Proofs.YtakppgpkdjpngaaDoor
open Go.RowKit
attribute [local go_sem] run_store_fl
theorem rowB8 : RowT Tryd.prog 25 5 1 1 := RowT.of (z := .int .u8 0) Tryd.underlying25 (by kernel_rfl) rfl (by omega)
def rdVs : Rd (List V) → List V
  | .ok vs _ => vs
  | .no _ => []
def rdQ : Rd (List V) → Int
  | .ok _ q => q
  | .no _ => 0
def rdE : Rd (List V) → Int
  | .ok _ _ => 0
  | .no e => e
theorem wk_decRow (r : Rd (List V)) : Wk (.tup (decRowV r)) (.tup [.agg [.sl true .none (encL true (rdVs r))], .s (.int .i64 (rdQ r)), .s (.int .i64 (rdE r))]) := by
  cases r with
  | ok vs q => exact .refl _
  | no e =>
    refine Wks.tup rfl fun i x y hx hy => ?_
    match i, hx, hy with
    | 0, hx, hy =>
      obtain rfl : AV.agg [.s (.slice none 0 0)] = x := Option.some.inj hx
      obtain rfl : AV.agg [.sl true .none (encL true (rdVs (.no e)))] = y := Option.some.inj hy
      refine Wk.agg ⟨⟨?_, rfl, rfl⟩, trivial⟩
      simp only [rdVs, encL]
      exact Wk.nil _
    | 1, hx, hy =>
      obtain rfl : AV.s (.int .i64 0) = x := Option.some.inj hx
      obtain rfl : AV.s (.int .i64 (rdQ (.no e))) = y := Option.some.inj hy
      exact .refl _
    | 2, hx, hy =>
      obtain rfl : AV.s (.int .i64 e) = x := Option.some.inj hx
      obtain rfl : AV.s (.int .i64 (rdE (.no e))) = y := Option.some.inj hy
      exact .refl _
theorem VSim.len_L {g : Gh} {o : Bool} {t : Tag} {l : List V} {x : Value} (h : VSim g (.sl o t (encL o l)) x) : ∃ B d, x = .slice B l.length d := by
  obtain ⟨B, d, e, _⟩ := VSim.elem (n := 5) h (encL_lens o _) (by omega)
  rw [encL_len] at e
  exact ⟨B, d, e⟩
theorem box1 {w : World} {b : Nat} {T : TypeId} {f : Nat × Nat} {x : Value} (h : w.heap[b]? = some (.cells #[x] T f)) : w.cell? ⟨b, 0, none⟩ = some x := cells_cell h 0
theorem u_Dec {s : List C} {l : List UInt8} {i : Int} {W : World} (hT : WorldOk W) (hs : ∀ c ∈ s, c.fits) {vs : List V} {q e0 : Int} (hv : rdVs (rdRow s l i) = vs) (hq : rdQ (rdRow s l i) = q) (he : rdE (rdRow s l i) = e0) {As A : Option Addr} {n1 cs len c : Nat}
    (ms : VSim (gh0 W) (.sl false .none (encCL false s)) (.slice As n1 cs)) (mb : VSim (gh0 W) (.sl false .none (encB l)) (.slice A len c)) :
    Calls Tryd.prog 23 #[.agg #[.slice As n1 cs], .slice A len c, .int .i64 i] W fun e W' => Kept W W' ∧ ∃ B d K, e = .returned (.tuple #[.agg #[.slice B vs.length d], .int .i64 q, .int .i64 e0]) ∧ Ans W W' (.sl true .none (encL true vs)) (.slice B vs.length d) K := by
  subst hv hq he
  refine ((g_DecodeR s l i false false hs).callsA hT (.cons (ms.mk1 rfl) (.cons mb (.cons (.s _ rfl) .nil)))).mono ?_
  rintro e W' ⟨hk, x, K, rfl, ha⟩
  obtain ⟨p, q, r, rfl, h1, h2, h3⟩ := (ha.weak (wk_decRow _)).three
  obtain ⟨y, rfl, h4⟩ := h1.one_
  obtain rfl := h2.lit
  obtain rfl := h3.lit
  obtain ⟨B, d, rfl⟩ := h4.sim.len_L
  exact ⟨hk, B, d, K, rfl, h4⟩
theorem u_rDec {s : List C} {l : List UInt8} {i : Int} {W : World} (hT : WorldOk W) (hs : ∀ c ∈ s, c.fits) {vs : List V} {q e0 : Int} (hv : rdVs (rdRow s l i) = vs) (hq : rdQ (rdRow s l i) = q) (he : rdE (rdRow s l i) = e0) {As A : Option Addr} {n1 cs len c : Nat}
    (ms : VSim (gh0 W) (.sl false .none (encCL false s)) (.slice As n1 cs)) (mb : VSim (gh0 W) (.sl false .none (encB l)) (.slice A len c)) :
    Calls Tryd.prog 24 #[.agg #[.slice As n1 cs], .slice A len c, .int .i64 i] W fun e W' => Kept W W' ∧ ∃ B d K, e = .returned (.tuple #[.agg #[.slice B vs.length d], .int .i64 q, .int .i64 e0]) ∧ Ans W W' (.sl true .none (encL true vs)) (.slice B vs.length d) K := by
  subst hv hq he
  refine ((g_rDecodeR s l i false false hs).callsA hT (.cons (ms.mk1 rfl) (.cons mb (.cons (.s _ rfl) .nil)))).mono ?_
  rintro e W' ⟨hk, x, K, rfl, ha⟩
  obtain ⟨p, q, r, rfl, h1, h2, h3⟩ := (ha.weak (wk_decRow _)).three
  obtain ⟨y, rfl, h4⟩ := h1.one_
  obtain rfl := h2.lit
  obtain rfl := h3.lit
  obtain ⟨B, d, rfl⟩ := h4.sim.len_L
  exact ⟨hk, B, d, K, rfl, h4⟩
theorem u_rows8 {W : World} (hT : WorldOk W) {vs : List V} {A B : Option Addr} {n c m d : Nat} (h1 : VSim (gh0 W) (.sl false .none (encL false vs)) (.slice A n c)) (h2 : VSim (gh0 W) (.sl false .none (encL false vs)) (.slice B m d)) :
    Calls Tryd.prog 25 #[.agg #[.slice A n c], .agg #[.slice B m d]] W fun e W' => e = .returned (.bool true) ∧ Kept W W' := by
  have c0 := g_rows vs vs false false
  rw [exL_refl] at c0
  exact c0.calls hT (.cons (h1.mk1 rfl) (.cons (h2.mk1 rfl) .nil))
theorem u_same8 {W : World} (hT : WorldOk W) {l : List UInt8} {A B : Option Addr} {n c m d : Nat} (h1 : VSim (gh0 W) (.sl false .none (encB l)) (.slice A n c)) (h2 : VSim (gh0 W) (.sl false .none (encB l)) (.slice B m d)) :
    Calls Tryd.prog 15 #[.slice A n c, .slice B m d] W fun e W' => e = .returned (.bool true) ∧ Kept W W' := by
  have c0 := g_sameB l l false false
  rw [decide_eq_true rfl] at c0
  exact c0.calls hT (.cons h1 (.cons h2 .nil))
theorem noOwn_B (l : List UInt8) : NoOwn (.sl false .none (encB l)) := .sl _ _ fun x hx => by
  rw [encB_flat] at hx
  obtain ⟨b, _, rfl⟩ := List.mem_map.1 hx
  exact .s _
set_option maxRecDepth 20000 in
set_option maxHeartbeats 4000000 in
theorem l_RowDecodes {s : List C} {l : List UInt8} {i : Int} {W : World} {x : Value} {A : Option Addr} {len c : Nat} (hT : WorldOk W) (hs : ∀ c ∈ s, c.fits) (hl : l.length ≤ 140737488351232) (m0 : VSim (gh0 W) (.agg [.sl false .none (encCL false s)]) x) (m1 : VSim (gh0 W) (.sl false .none (encB l)) (.slice A len c)) :
    Calls Tryd.prog 6 #[x, .slice A len c, .int .i64 i] W fun e W' => e = .returned (.bool true) ∧ Kept W W' := by
  obtain ⟨y, rfl, ms⟩ := m0.one_
  obtain ⟨As, cs, rfl, _, _, _⟩ := VSim.elem (n := 9) ms (encCL_lens false s) (by omega)
  rw [encCL_len] at ms m0 ⊢
  obtain ⟨rfl, p0, hc⟩ := Bn.from0 m1
  have ns := noOwn_CL s
  have nb := noOwn_B l
  obtain ⟨vs, hv⟩ : ∃ vs, rdVs (rdRow s l i) = vs := ⟨_, rfl⟩
  obtain ⟨q, hq⟩ : ∃ q, rdQ (rdRow s l i) = q := ⟨_, rfl⟩
  obtain ⟨e0, he⟩ : ∃ e0, rdE (rdRow s l i) = e0 := ⟨_, rfl⟩
  have nv := noOwn_L vs
  go_enter Tryd.func6, Tryd.ntmps6
  have gS := heap_alloc_new W (.cells #[.slice As s.length cs] 39)
  have jS := (Kept.refl W).alloc (.cells #[.slice As s.length cs] 39)
  have own1 := own_new (W.alloc (.cells #[.slice As s.length cs] 39)) 5 1 0 #[] rfl (by unfold maxLen; omega)
  rw [World.size_alloc] at own1
  have kj := jS.alloc (.cells #[] 5)
  have szj := kj.size
  have kS := (Kept.refl (W.alloc (.cells #[.slice As s.length cs] 39))).alloc (.cells #[] 5)
  have bsz : W.heap.size + 1 ≤ ((W.alloc (.cells #[.slice As s.length cs] 39)).alloc (.cells #[] 5)).heap.size := by rw [World.size_alloc, World.size_alloc]; omega
  go_wp2_with (at_builtin; refine wpList_app0 rfl _ _ _ rfl rowB8 (W.heap.size + 1) rfl own1 (cellsB l) rfl (Src.bytes (p0.kept kj).bs) (by unfold maxLen; omega) (by omega) bsz ?_; intro A1 c1 w1 hown1 hg1 hat1; have cS := box1 (kept_box gS (kS.app own1 (by rw [World.size_alloc]; exact Nat.le_refl _) hg1)))
  have k1 : Kept W w1 := kj.app own1 (Nat.le_succ _) hg1
  have k1S := kS.app own1 (by rw [World.size_alloc]; exact Nat.le_refl _) hg1
  have p1 : Bn w1 A1 l := Bn.own hown1
  have hc1 := own_cap hown1
  have h01 := k1
  replace gS := kept_box gS k1S
  have gS1 := gS
  have hlm : l.length ≤ 140737488355328 := by omega
  have mi1 := p1.sim hc1 hlm false rfl
  clear hown1 hg1 hat1 own1 kS kj bsz szj k1S jS
  clear cS
  refine (u_Dec (hT.kept k1) hs hv hq he (ms.kept0 ns k1) (m1.kept0 nb k1)).mono ?_
  rintro e w2 ⟨k2, B, d, K2, rfl, a2⟩
  replace gS := kept_box gS k2
  have gR := heap_alloc_new w2 (.cells #[.slice B vs.length d] 41)
  have jR := (Kept.refl w2).alloc (.cells #[.slice B vs.length d] 41)
  replace gS := kept_box gS jR
  have h2 := k2.trans jR
  have cS := box1 gS
  go_wp2_with fail
  clear cS
  refine (u_rDec (hT.kept (k1.trans h2)) hs hv hq he (ms.kept0 ns (k1.trans h2)) (mi1.kept0 nb h2)).mono ?_
  rintro e w3 ⟨k3, B3, d3, K3, rfl, a3⟩
  replace gS := kept_box gS k3
  replace gR := kept_box gR k3
  have gQ := heap_alloc_new w3 (.cells #[.slice B3 vs.length d3] 41)
  have jQ := (Kept.refl w3).alloc (.cells #[.slice B3 vs.length d3] 41)
  replace gS := kept_box gS jQ
  replace gR := kept_box gR jQ
  have h3 := k3.trans jQ
  have cR := box1 gR
  have cQ := box1 gQ
  go_wp2_with fail
  clear cR cQ
  refine (u_rows8 (hT.kept ((k1.trans h2).trans h3)) (a2.kept (wk_freeL _) nv (jR.trans h3)) (a3.kept (wk_freeL _) nv jQ)).mono ?_
  rintro e w4 ⟨rfl, k4⟩
  replace gS := kept_box gS k4
  replace gR := kept_box gR k4
  replace gQ := kept_box gQ k4
  have h4 := (h2.trans h3).trans k4
  go_wp2_with fail
  refine (u_same8 (hT.kept (k1.trans h4)) (m1.kept0 nb (k1.trans h4)) (mi1.kept0 nb h4)).mono ?_
  rintro e w5 ⟨rfl, k5⟩
  replace gS := kept_box gS k5
  replace gR := kept_box gR k5
  replace gQ := kept_box gQ k5
  have z5 := ((jR.trans h3).trans k4).trans k5
  have s5 := (Spo.start a2.hK a2.hN).kept z5
  have u5 := Under.of a2.hK
  have y5 := h4.trans k5
  have cu := Cur.first a2.sim
  have hle := cu.len
  have gR5 := gR; have gS5 := gS; have gQ5 := gQ
  have z35 := (jQ.trans k4).trans k5
  have h23 := (jR.trans k3).size
  clear gR gS gQ
  go_wp2_with fail
  go_loopw [15] (fun u wr => ∃ j : Nat, u = .int .i64 j ∧ j ≤ vs.length ∧ Spo K2 w1.heap.size wr ∧ Beside w1.heap.size w2.heap.size w5 wr) (fun u _ => vs.length - (intOf u).toNat)
  case atStart => exact ⟨0, rfl, Nat.zero_le _, s5, .refl _ _ _⟩
  case round =>
    obtain ⟨j, rfl, hj, r1, r2⟩ := hrel
    have gR := r2.hi_ (Nat.le_refl _) gR5
    have dR := box1 gR
    by_cases hlt : j < vs.length
    · obtain ⟨ad, x, k', i', f', t', B', m', d', rfl, hx, hb, c0, c1, c2, c3, c4, hc', v0, hv0⟩ := cu.at_ r1 hlt
      have i0 : (0 : Int) ≤ (j : Int) := by omega
      have i1 : (j : Int) < (vs.length : Int) := by omega
      clear c0 c1 c2 c3 c4 hc'
      go_wp2_with fail
      go_loopw [16] (fun u wq => ∃ k : Nat, u = .int .i64 k ∧ Spo K2 w1.heap.size wq ∧ Beside w1.heap.size w2.heap.size w5 wq) (fun u _ => x.items.length - (intOf u).toNat)
      case atStart => exact ⟨0, rfl, r1, r2⟩
      case round =>
        obtain ⟨k, rfl, t1, t2⟩ := hrel
        clear gR dR
        have gR := t2.hi_ (Nat.le_refl _) gR5
        have dR := box1 gR
        obtain ⟨ad', x', k2, i2, f2, t2', B2, m2, d2, e2, hx2, hb2, c0, c1, c2, c3, c4, hc2, v2, hv2⟩ := cu.at_ t1 hlt
        obtain rfl := Option.some.inj e2
        obtain rfl := Option.some.inj (hx.symm.trans hx2)
        clear e2 hx2
        have hle2 := hc2.len
        by_cases hk : k < m2
        · obtain ⟨ad3, x3, k3, i3, f3, t3, B3', m3, d3', rfl, hx3, hb3, g0, g1, g2, g3, g4, _, v3, hv3⟩ := hc2.at_ t1 hk
          have i2 : (0 : Int) ≤ (k : Int) := by omega
          have i3 : (k : Int) < (m2 : Int) := by omega
          obtain ⟨z0, z1, z2, z3, z4⟩ := hc2.thaw t1 hk rfl
          obtain ⟨n1, n2, n3, n4⟩ := five_cells g1 g2 g3 g4
          go_wp2_with fail
          go_roundw
          case rel =>
            have hbk : (ad3.add (k * 5)).block = ad3.block := add_block ..
            exact ⟨k + 1, by go_num, hc2.five t1 hk rfl 77 0 0 ⟨#[]⟩, t2.five (by rw [hbk]; exact hb3) (by rw [hbk]; exact u5 _ _ _ hv3) _ _ _ _ _⟩
          case measure => simp [intOf]; omega
        · have i3 : ¬ ((k : Int) < (m2 : Int)) := by omega
          obtain ⟨z0, z1, z2, z3, z4⟩ := cu.thaw t1 hlt rfl
          obtain ⟨n1, n2, n3, n4⟩ := five_cells c1 c2 c3 c4
          go_wp2_with fail
          go_roundw
          case rel =>
            have hbk : (ad.add (j * 5)).block = ad.block := add_block ..
            exact ⟨j + 1, by go_num, by omega, cu.five t1 hlt rfl 78 0 0 ⟨#[]⟩, t2.five (by rw [hbk]; exact hb) (by rw [hbk]; exact u5 _ _ _ hv0) _ _ _ _ _⟩
          case measure => simp [intOf]; omega
    · have i1 : ¬ ((j : Int) < (vs.length : Int)) := by omega
      have K15 := r2.kept w1 (Nat.le_refl _) y5
      have K05 := k1.trans K15
      have gS := r2.lo_ (Nat.le_refl _) y5 gS1
      have gQ := r2.hi_ h23 gQ5
      have m3 := a3.own (allOwn_L _) (wk_freeL _) nv (fun b h1 h2 => (r2.block b (Nat.le_trans jR.size h1) (Nat.lt_of_lt_of_le h2 z35.size)).trans (z35.block b h2))
      have cS := box1 gS
      go_wp2_with fail
      clear cS
      refine (u_Dec (hT.kept K05) hs hv hq he (ms.kept0 ns K05) (m1.kept0 nb K05)).mono ?_
      rintro e w6 ⟨k6, B6, d6, K6, rfl, a6⟩
      have gP := heap_alloc_new w6 (.cells #[.slice B6 vs.length d6] 41)
      have jP := (Kept.refl w6).alloc (.cells #[.slice B6 vs.length d6] 41)
      go_wp2_with fail
      refine (g_live8.calls (hT.kept (K05.trans (k6.trans jP))) .nil).mono ?_
      rintro e w7 ⟨rfl, k7⟩
      have kz := (k6.trans jP).trans k7
      have cP := box1 (kept_box gP k7)
      have cQ := box1 (kept_box gQ kz)
      go_wp2_with fail
      refine (u_rows8 (hT.kept (K05.trans kz)) (a6.kept (wk_freeL _) nv (jP.trans k7)) (m3.kept0 nv kz)).mono ?_
      rintro e w8 ⟨rfl, k8⟩
      go_wp2_with fail
      go_ret
      exact ⟨rfl, (K05.trans kz).trans k8⟩
end Go.Proofs.YtakppgpkdjpngaaDoor
/- From a row's data to plain data: scalars, slices and structs that came in. No program beside the given type facts. -/
set_option linter.unusedVariables false
set_option linter.unusedSimpArgs false
namespace Go.Proofs.YtakppgpkdjpngaaDoor
open Go.ChangeShapes Go.WideShapes Go.ChangeAt Go.RowKit
section
variable {H : Type} {enc : TypeId × Value → H} {W : World} {P : Program}
/-- Every weight in it is within the form's reach. -/
def Light (P : Program) (t : TypeId) (d : DataW H) : Prop := ∀ n ∈ d.weights P t, n ≤ reachBytes
theorem light_at {ts : List TypeId} {ds : List (DataW H)} (h : (DataW.weightsEach P ts ds).all (· ≤ reachBytes) = true) {j : Nat} {t : TypeId} {d : DataW H} (ht : ts[j]? = some t) (hd : ds[j]? = some d) : Light P t d := fun n hn => by
  have := List.all_eq_true.1 h _ (DataW.weights_mem_each ht hd n hn)
  simpa using this
theorem weightsAll_mem {e : TypeId} : ∀ {l : List (DataW H)} {d : DataW H}, d ∈ l → ∀ n ∈ d.weights P e, n ∈ DataW.weightsAll P e l
  | x :: l, d, h, n, hn => by
    simp only [DataW.weightsAll, List.mem_append]
    rcases List.mem_cons.1 h with rfl | h
    · exact .inl hn
    · exact .inr (weightsAll_mem h n hn)
  | [], _, h, _, _ => by cases h
theorem Light.field {t : TypeId} {fs : Array Field} {ds : List (DataW H)} (hu : P.underlying t = some (.struct fs)) (h : Light P t (.agg ds)) {j : Nat} {f : Field} {d : DataW H} (hf : fs[j]? = some f) (hd : ds[j]? = some d) : Light P f.type d := fun n hn => by
  refine h n ?_
  simp only [DataW.weights, hu]
  exact DataW.weights_mem_each (j := j) (by simp [hf]) hd n hn
theorem Light.elem {t e : TypeId} {es sp : List (DataW H)} (hu : P.underlying t = some (.slice e)) (h : Light P t (.slice es sp)) {d : DataW H} (hd : d ∈ es) : Light P e d := fun n hn => by
  refine h n ?_
  simp only [DataW.weights, hu, List.mem_cons, List.mem_append]
  exact .inr (.inl (weightsAll_mem hd n hn))
theorem Light.len {t e : TypeId} {es sp : List (DataW H)} (hu : P.underlying t = some (.slice e)) (h : Light P t (.slice es sp)) : es.length * P.bytesOf e ≤ 140737488351232 := by
  have := h ((es.length + sp.length) * P.bytesOf e) (by simp [DataW.weights, hu])
  have h2 : es.length * P.bytesOf e ≤ (es.length + sp.length) * P.bytesOf e := Nat.mul_le_mul_right _ (by omega)
  have h3 : reachBytes = 140737488351232 := rfl
  omega

/-- Cells that read as plain data, in a world at the beginning. -/
def Reads (W : World) (l : List AV) (cs : List Value) : Prop := cs.length = l.length ∧ ∀ (i : Nat) x, l[i]? = some x → x.one = true ∧ x.dat0 = true ∧ oneV (cs.getD i undef) = true ∧ VSim (gh0 W) x (cs.getD i undef)
theorem Reads.nil : Reads W [] [] := ⟨rfl, fun i x h => by simp at h⟩
theorem Reads.app {l m : List AV} {cs ds : List Value} (h : Reads W l cs) (h' : Reads W m ds) : Reads W (l ++ m) (cs ++ ds) := by
  refine ⟨by simp [h.1, h'.1], fun i x hx => ?_⟩
  rcases Nat.lt_or_ge i l.length with hi | hi
  · rw [List.getElem?_append_left hi] at hx
    have := h.2 i x hx
    rwa [List.getD_eq_getElem?_getD, List.getElem?_append_left (by rw [h.1]; exact hi), ← List.getD_eq_getElem?_getD]
  · rw [List.getElem?_append_right hi] at hx
    have := h'.2 _ x hx
    rwa [List.getD_eq_getElem?_getD, List.getElem?_append_right (by rw [h.1]; exact hi), h.1, ← List.getD_eq_getElem?_getD]
theorem Reads.s {v : Value} (h : oneV v = true) (hd : AV.dat0 (.s v) = true) : Reads W [.s v] [v] := ⟨rfl, fun i x hx => by
  cases i with
  | zero =>
    obtain rfl : AV.s v = x := by simpa using hx
    exact ⟨h, hd, h, .s v h⟩
  | succ i => simp at hx⟩
theorem Reads.agg {l : List AV} {cs : List Value} (h : Reads W l cs) : VSim (gh0 W) (.agg l) (.agg cs.toArray) :=
  .agg l _ (by simp [h.1]) (fun i x hx => (h.2 i x hx).1) (fun i x hx => by
    have := (h.2 i x hx).2.2.2
    rwa [show cs.toArray.getD i undef = cs.getD i undef by simp [Array.getD_eq_getD_getElem?]])
theorem Reads.one {x : AV} {v : Value} (h : Reads W [x] [v]) : VSim (gh0 W) x v := (h.2 0 x rfl).2.2.2

theorem trod_float' {w : World} {base : Nat} {sp : Nat → Bool} {held : Bool} {fuel : Nat} {t : TypeId} {k : FloatKind} {cs : List Value} {x : DataW H × List MemPlace} (ht : P.underlying t = some (.float k)) (h : DataW.trod enc P w base sp held fuel t cs = some x) : ∃ b, cs = [.float k b] ∧ x = (.lit (.float k b), []) ∧ (Lit.float k b).wf = true := by
  cases fuel with
  | zero => simp [DataW.trod] at h
  | succ n =>
    unfold DataW.trod at h
    rw [ht] at h
    split at h <;> simp_all
theorem trod_bool' {w : World} {base : Nat} {sp : Nat → Bool} {held : Bool} {fuel : Nat} {t : TypeId} {cs : List Value} {x : DataW H × List MemPlace} (ht : P.underlying t = some .bool) (h : DataW.trod enc P w base sp held fuel t cs = some x) : ∃ b, cs = [.bool b] ∧ x = (.lit (.bool b), []) := by
  cases fuel with
  | zero => simp [DataW.trod] at h
  | succ n =>
    unfold DataW.trod at h
    rw [ht] at h
    split at h <;> simp_all
theorem addr_add (a : Addr) (m k : Nat) : (a.add m).add k = a.add (m + k) := by
  by_cases hm : m = 0
  · subst hm
    simp [Addr.add]
  · by_cases hk : k = 0
    · subst hk
      simp [Addr.add, hm]
    · simp [Addr.add, hm, hk, Nat.add_assoc]
theorem addr_none {a : Addr} (h : a.spot = none) {j : Nat} : (⟨a.block, a.off + j, none⟩ : Addr) = a.add j := by
  unfold Addr.add
  split
  · rename_i h0
    subst h0
    cases a
    cases h
    rfl
  · rfl
/-- A slice that came in: a list of what its elements are. -/
theorem open_slice_gen {α : Type} (E : α → List AV) (Good : α → Prop) {sz : Nat} {t e : TypeId} {n : Nat} {cs : List Value} {y : DataW H × List MemPlace} (ht : P.underlying t = some (.slice e)) (hs : P.cellsOf e = sz) (h0 : 0 < sz) (hby : 0 < P.bytesOf e) (hE : ∀ x, (E x).length = sz)
    (ih : ∀ m cs' y', m < n → DataW.trod enc P W 0 (fun _ => true) true m e cs' = some y' → Light P e y'.1 → ∃ x, Good x ∧ Reads W (E x) cs')
    (h : DataW.trod enc P W 0 (fun _ => true) true n t cs = some y) (hl : Light P t y.1) :
    ∃ l : List α, (∀ x ∈ l, Good x) ∧ l.length * P.bytesOf e ≤ 140737488351232 ∧ l.length ≤ 140737488355328 ∧ Reads W [.sl false .none (l.map E)] cs := by
  rcases DataW.trod_slice ht h with ⟨rfl, rfl⟩ | ⟨a, len, cap, elems, rest, m, hn, rfl, rfl, hb, hlc, hm, hlen, hel, hsp, hns⟩
  · refine ⟨[], by simp, by simp, by simp, rfl, fun i x hx => ?_⟩
    cases i with
    | zero =>
      obtain rfl : AV.sl false .none [] = x := by simpa using hx
      exact ⟨rfl, rfl, rfl, .sl false .none [] none 0 0 (fun _ => undef) (Nat.le_refl _) (Nat.zero_le _) (fun e he => by cases he) (fun j x hx => by simp at hx) (fun h => absurd rfl h) (fun j x hx => by simp at hx) trivial⟩
    | succ i => simp at hx
  · have each : ∀ i, i < len → ∃ x : α, ∃ cs', Good x ∧ W.cells? 0 (a.add (i * sz)) sz = some cs' ∧ Reads W (E x) cs' := by
      intro i hi
      have hx : elems[i]? = some elems[i] := List.getElem?_eq_getElem (by omega)
      have := hel i hi
      rw [hx, hs, Option.bind_eq_some_iff] at this
      obtain ⟨cs', q1, q2⟩ := this
      obtain ⟨x, r1, r2⟩ := ih m cs' _ (by omega) q2 (hl.elem ht (by
        simp only [List.mem_map]
        exact ⟨_, List.getElem_mem (by omega), rfl⟩))
      exact ⟨x, cs', r1, q1, r2⟩
    obtain ⟨l, hll, hlx⟩ : ∃ l : List α, l.length = len ∧ ∀ (i : Nat) x, l[i]? = some x → Good x ∧ ∃ cs', W.cells? 0 (a.add (i * sz)) sz = some cs' ∧ Reads W (E x) cs' := by
      clear hel hl h hsp hns ih hlen hlc
      induction len with
      | zero => exact ⟨[], rfl, fun i x hx => by simp at hx⟩
      | succ k ihk =>
        obtain ⟨l, q1, q2⟩ := ihk (fun i hi => each i (by omega))
        obtain ⟨x, cs', r1, r2, r3⟩ := each k (by omega)
        refine ⟨l ++ [x], by simp [q1], fun i z hz => ?_⟩
        rcases Nat.lt_or_ge i l.length with hi | hi
        · rw [List.getElem?_append_left hi] at hz
          exact q2 i z hz
        · rw [List.getElem?_append_right hi] at hz
          have h0 : i - l.length = 0 := by
            rcases Nat.eq_zero_or_pos (i - l.length) with h | h
            · exact h
            · obtain ⟨j, hj⟩ : ∃ j, i - l.length = j + 1 := ⟨i - l.length - 1, by omega⟩
              rw [hj] at hz; simp at hz
          rw [h0] at hz
          obtain rfl : x = z := by simpa using hz
          obtain rfl : i = k := by omega
          exact ⟨r1, cs', r2, r3⟩
    have hlb := hl.len ht
    rw [List.length_map, hlen] at hlb
    have hlen2 : len ≤ 140737488355328 := by
      have : len * 1 ≤ len * P.bytesOf e := Nat.mul_le_mul_left _ hby
      omega
    refine ⟨l, fun x hx => by obtain ⟨i, hi⟩ := List.getElem?_of_mem hx; exact (hlx i x hi).1, by rw [hll]; exact hlb, by omega, rfl, fun i x hx => ?_⟩
    cases i with
    | succ i => simp at hx
    | zero =>
      obtain rfl : AV.sl false .none (l.map E) = x := by simpa using hx
      have flat : ∀ (j : Nat) (x : AV), (l.map E).flatten[j]? = some x → x.one = true ∧ x.dat0 = true ∧ ∃ v, W.cell? (a.add j) = some v ∧ oneV v = true ∧ VSim (gh0 W) x v := by
        intro j x hj
        have hfl : ∀ (l : List α) (j : Nat), (l.map E).flatten[j]? = (l[j / sz]?).bind fun z => (E z)[j % sz]? := by
          intro l
          induction l with
          | nil => intro j; simp
          | cons z l ih2 =>
            intro j
            simp only [List.map_cons, List.flatten_cons]
            rcases Nat.lt_or_ge j sz with hj | hj
            · rw [List.getElem?_append_left (by rw [hE]; exact hj), Nat.div_eq_of_lt hj, Nat.mod_eq_of_lt hj]
              rfl
            · rw [List.getElem?_append_right (by rw [hE]; exact hj), hE, ih2]
              obtain ⟨k, rfl⟩ : ∃ k, j = k + sz := ⟨j - sz, by omega⟩
              rw [Nat.add_sub_cancel, Nat.add_div_right _ h0, Nat.add_mod_right]
              rfl
        rw [hfl, Option.bind_eq_some_iff] at hj
        obtain ⟨z, hz, hx⟩ := hj
        obtain ⟨_, cs', c1, c2⟩ := hlx _ _ hz
        obtain ⟨d1, d2, d3⟩ := World.cells?_some c1
        have hlt : j % sz < sz := Nat.mod_lt _ h0
        obtain ⟨e1, e2, e3, e4⟩ := c2.2 _ _ hx
        have d4 := d3 _ hlt
        have hlt' : j % sz < cs'.length := by omega
        rw [List.getElem?_eq_getElem hlt'] at d4
        rw [List.getD_eq_getElem?_getD, List.getElem?_eq_getElem hlt'] at e3 e4
        simp only [Option.getD_some] at e3 e4
        refine ⟨e1, e2, _, ?_, e3, e4⟩
        have e0 := Nat.div_add_mod j sz
        rw [Nat.mul_comm] at e0
        rw [← d4, addr_add, e0]
      have hvs : ∃ vs : Nat → Value, ∀ (j : Nat) x, (l.map E).flatten[j]? = some x → W.cell? (a.add j) = some (vs j) ∧ oneV (vs j) = true ∧ VSim (gh0 W) x (vs j) := by
        refine ⟨fun j => (W.cell? (a.add j)).getD undef, fun j x hx => ?_⟩
        obtain ⟨_, _, v, q1, q2, q3⟩ := flat j x hx
        simp only [q1]
        exact ⟨rfl, q2, q3⟩
      obtain ⟨vs, hvs⟩ := hvs
      have hml : len = (l.map E).length := by simp [hll]
      refine ⟨rfl, rfl, rfl, ?_⟩
      show VSim (gh0 W) _ (.slice (some a) len cap)
      rw [hml]
      refine .sl false .none (l.map E) (some a) cap sz vs (by simp [hll, hlc]) (by simp [hll]; omega) (fun e he => by obtain ⟨z, _, rfl⟩ := List.mem_map.1 he; exact hE z) (fun j x hx => ⟨(flat j x hx).1, (flat j x hx).2.1⟩) (fun hne => ?_) (fun j x hx => (hvs j x hx).2.2) trivial
      obtain ⟨x, hx⟩ : ∃ x, (l.map E).flatten[0]? = some x := by
        cases hf : (l.map E).flatten with
        | nil => exact absurd hf hne
        | cons x r => exact ⟨x, rfl⟩
      have hsp : a.spot = none := by
        have := (hvs 0 x hx).1
        unfold World.cell? at this
        split at this
        · cases hq : a.spot with
          | none => rfl
          | some s => simp [Addr.add, hq] at this
        · cases this
      refine ⟨a.block, a.off, by cases a; cases hsp; rfl, fun h => (by cases h), fun j x hx => ?_⟩
      obtain ⟨q1, q2, q3⟩ := hvs j x hx
      rw [gh0_K]
      refine ⟨?_, q2⟩
      rw [← q1]
      congr 1
      exact addr_none hsp
end
end Go.Proofs.YtakppgpkdjpngaaDoor
/- An argument of type api.Value is a value. -/
set_option linter.unusedVariables false
set_option linter.unusedSimpArgs false
namespace Go.Proofs.YtakppgpkdjpngaaDoor
open Go.ChangeShapes Go.WideShapes Go.ChangeAt Go.RowKit
section
variable {H : Type} {enc : TypeId × Value → H} {W : World}
set_option maxRecDepth 20000 in
theorem open_V : ∀ (n : Nat) (cs : List Value) (y : DataW H × List MemPlace), DataW.trod enc Tryd.prog W 0 (fun _ => true) true n 33 cs = some y → Light Tryd.prog 33 y.1 → ∃ v : V, v.fits ∧ Reads W (encV false v) cs := by
  intro n
  induction n using Nat.strongRecOn with
  | ind n ih =>
  intro cs y h hl
  have hu := Tryd.underlying33
  obtain ⟨xs, m, rfl, rfl, hlen, hxl, hf⟩ := DataW.trod_struct hu h
  rw [show Tryd.prog.cellsOf 33 = 5 by kernel_rfl] at hlen
  match cs, hlen with
  | [c0, c1, c2, c3, c4], _ =>
  match xs, hxl with
  | [y0, y1, y2, y3, y4], _ =>
  have l1 : Tryd.prog.cellsOf 3 = 1 := by kernel_rfl
  have l2 : Tryd.prog.cellsOf 2 = 1 := by kernel_rfl
  have l3 : Tryd.prog.cellsOf 29 = 1 := by kernel_rfl
  have l4 : Tryd.prog.cellsOf 9 = 1 := by kernel_rfl
  have l5 : Tryd.prog.cellsOf 31 = 1 := by kernel_rfl
  have f0 := hf 0 _ rfl
  have f1 := hf 1 _ rfl
  have f2 := hf 2 _ rfl
  have f3 := hf 3 _ rfl
  have f4 := hf 4 _ rfl
  simp only [l1, l2, l3, l4, l5, List.drop_succ_cons, List.drop_zero, List.take_succ_cons, List.take_zero, List.getElem?_cons_succ, List.getElem?_cons_zero] at f0 f1 f2 f3 f4
  have h3 := hl.field hu (j := 3) rfl (d := y3.1) rfl
  have h4 := hl.field hu (j := 4) rfl (d := y4.1) rfl
  obtain ⟨k, e0, _, w0⟩ := DataW.trod_int Tryd.underlying3 f0
  obtain ⟨i, e1, _, w1⟩ := DataW.trod_int Tryd.underlying2 f1
  obtain ⟨f, e2, _, w2⟩ := trod_float' Tryd.underlying29 f2
  obtain ⟨t, e3, et, _⟩ := DataW.trod_string Tryd.underlying9 f3
  obtain ⟨l, q1, q2, _, q3⟩ := open_slice_gen (encV false) V.fits Tryd.underlying31 (by kernel_rfl : Tryd.prog.cellsOf 33 = 5) (by decide) (by rw [show Tryd.prog.bytesOf 33 = 64 by kernel_rfl]; decide) (encV_len false)
    (fun m' cs' y' hm h' hl' => ih m' (by omega) cs' y' h' hl') f4 h4
  rw [show Tryd.prog.bytesOf 33 = 64 by kernel_rfl] at q2
  have ts : t.size ≤ 140737488351232 := by
    have := h3 t.data.toList.length (by rw [et]; simp [DataW.weights])
    have h9 : reachBytes = 140737488351232 := rfl
    have e : t.data.toList.length = t.size := Array.length_toList
    omega
  have w2' : f < 18446744073709551616 := by
    simp [Lit.wf, FloatKind.format] at w2
    omega
  have k0 := i64_of_wf w0
  have k1 := i64_of_wf w1
  cases e0
  cases e1
  cases e2
  cases e3
  refine ⟨.mk k i f t l, V.fits_of ⟨by omega, k0, k1, w2', ts⟩ q1, ?_⟩
  rw [encV_eq, V.kind_mk, V.int_mk, V.float_mk, V.text_mk, V.items_mk, encL_eq]
  exact ((Reads.s rfl rfl).app (.app (.s rfl rfl) (.app (.s rfl rfl) (.app (.s rfl rfl) q3))))
/-- An argument. -/
theorem open_value {v : Value} {d : DataW H} {p : List MemPlace} (h : DataW.Trod enc Tryd.prog W 0 (fun _ => true) true 33 v d p) (hl : Light Tryd.prog 33 d) : ∃ x : V, x.fits ∧ VSim (gh0 W) (.agg (encV false x)) v := by
  obtain ⟨n, hn⟩ := h
  obtain ⟨x, h1, h2⟩ := open_V n _ _ hn hl
  refine ⟨x, h1, ?_⟩
  have h3 := h2.1
  rw [encV_len] at h3
  cases v with
  | agg a =>
    have := h2.agg
    simpa [Value.cells] using this
  | _ => exact absurd h3 (by simp [Value.cells])
end
end Go.Proofs.YtakppgpkdjpngaaDoor
/- Types and columns that may lie in a program's memory. No program. -/
set_option linter.unusedVariables false
namespace Go.Proofs.YtakppgpkdjpngaaDoor
open Go
mutual
def T.fits : T → Prop
  | .mk k l => (inI k ∧ l.length ≤ 4398046510976) ∧ T.fitsL l
def T.fitsL : List T → Prop
  | [] => True
  | x :: l => T.fits x ∧ T.fitsL l
end
theorem T.fitsL_mem : ∀ {l : List T} {x : T}, T.fitsL l → x ∈ l → x.fits
  | y :: l, x, h, hx => by
    rcases List.mem_cons.1 hx with rfl | hx
    · exact h.1
    · exact T.fitsL_mem h.2 hx
  | [], _, _, hx => by cases hx
theorem T.fitsL_of : ∀ {l : List T}, (∀ x ∈ l, x.fits) → T.fitsL l
  | [], _ => trivial
  | y :: l, h => ⟨h y (List.mem_cons_self ..), T.fitsL_of fun x hx => h x (List.mem_cons_of_mem _ hx)⟩
theorem T.fits_len {k : Int} {l : List T} (h : (T.mk k l).fits) : l.length ≤ 4398046510976 := h.1.2
theorem T.fits_mem {k : Int} {l : List T} (h : (T.mk k l).fits) {x : T} (hx : x ∈ l) : x.fits := T.fitsL_mem h.2 hx
theorem T.fits_of {k : Int} {l : List T} (h : inI k ∧ l.length ≤ 4398046510976) (hx : ∀ x ∈ l, x.fits) : (T.mk k l).fits := ⟨h, T.fitsL_of hx⟩
structure C.lies (c : C) : Prop where
  fit : c.fits
  ty : c.ty.fits
structure fitsCL (l : List C) : Prop where
  len : l.length ≤ 1172812402926
  all : ∀ c ∈ l, c.lies
theorem fitsCL.fit {l : List C} (h : fitsCL l) : ∀ c ∈ l, c.fits := fun c hc => (h.all c hc).fit
end Go.Proofs.YtakppgpkdjpngaaDoor
/- Arguments of types []byte, api.Type, api.Schema. -/
set_option linter.unusedVariables false
set_option linter.unusedSimpArgs false
namespace Go.Proofs.YtakppgpkdjpngaaDoor
open Go.ChangeShapes Go.WideShapes Go.ChangeAt Go.RowKit
section
variable {H : Type} {enc : TypeId × Value → H} {W : World}
/-- What lies in one cell is a value of its own. -/
theorem reads_agg {l : List AV} {v : Value} (h : Reads W l v.cells.toList) (hv : (∃ a, v = .agg a) ∨ l.length ≠ 1) : VSim (gh0 W) (.agg l) v := by
  have h3 := h.1
  cases v with
  | agg a =>
    have := h.agg
    simpa [Value.cells] using this
  | _ =>
    rcases hv with ⟨a, ha⟩ | hv
    · cases ha
    · exact absurd h3 (by simp [Value.cells]; omega)
theorem open_byte {m : Nat} {cs : List Value} {y : DataW H × List MemPlace} (h : DataW.trod enc Tryd.prog W 0 (fun _ => true) true m 5 cs = some y) : ∃ c : UInt8, True ∧ Reads W [.s (.int .u8 c.toNat)] cs := by
  obtain ⟨k, e0, _, w0⟩ := DataW.trod_int Tryd.underlying5 h
  subst e0
  have hk : 0 ≤ k ∧ k < 256 := by
    simp [Lit.wf, IntKind.min, IntKind.max, IntKind.signed, IntKind.bits] at w0
    omega
  refine ⟨UInt8.ofNat k.toNat, trivial, ?_⟩
  have : ((UInt8.ofNat k.toNat).toNat : Int) = k := by simp; omega
  rw [this]
  exact .s rfl rfl
theorem open_byteS {A : Option Addr} {len cap : Nat} {d : DataW H} {p : List MemPlace} (h : DataW.Trod enc Tryd.prog W 0 (fun _ => true) true 25 (.slice A len cap) d p) (hl : Light Tryd.prog 25 d) : ∃ l : List UInt8, l.length ≤ 140737488351232 ∧ VSim (gh0 W) (.sl false .none (encB l)) (.slice A len cap) := by
  obtain ⟨n, hn⟩ := h
  obtain ⟨l, _, q2, _, q3⟩ := open_slice_gen (fun c : UInt8 => [AV.s (.int .u8 c.toNat)]) (fun _ => True) Tryd.underlying25 (by kernel_rfl : Tryd.prog.cellsOf 5 = 1) (by decide) (by rw [show Tryd.prog.bytesOf 5 = 1 by kernel_rfl]; decide) (fun _ => rfl)
    (fun m' cs' y' hm h' hl' => open_byte h') hn hl
  rw [show Tryd.prog.bytesOf 5 = 1 by kernel_rfl] at q2
  exact ⟨l, by omega, Reads.one q3⟩
set_option maxRecDepth 20000 in
theorem open_T : ∀ (n : Nat) (cs : List Value) (y : DataW H × List MemPlace), DataW.trod enc Tryd.prog W 0 (fun _ => true) true n 24 cs = some y → Light Tryd.prog 24 y.1 → ∃ v : T, v.fits ∧ Reads W (encT false v) cs := by
  intro n
  induction n using Nat.strongRecOn with
  | ind n ih =>
  intro cs y h hl
  have hu := Tryd.underlying24
  obtain ⟨xs, m, rfl, rfl, hlen, hxl, hf⟩ := DataW.trod_struct hu h
  rw [show Tryd.prog.cellsOf 24 = 2 by kernel_rfl] at hlen
  match cs, hlen with
  | [c0, c1], _ =>
  match xs, hxl with
  | [y0, y1], _ =>
  have l1 : Tryd.prog.cellsOf 3 = 1 := by kernel_rfl
  have l2 : Tryd.prog.cellsOf 22 = 1 := by kernel_rfl
  have f0 := hf 0 _ rfl
  have f1 := hf 1 _ rfl
  simp only [l1, l2, List.drop_succ_cons, List.drop_zero, List.take_succ_cons, List.take_zero, List.getElem?_cons_succ, List.getElem?_cons_zero] at f0 f1
  have h1 := hl.field hu (j := 1) rfl (d := y1.1) rfl
  obtain ⟨k, e0, _, w0⟩ := DataW.trod_int Tryd.underlying3 f0
  obtain ⟨l, q1, q2, _, q3⟩ := open_slice_gen (encT false) T.fits Tryd.underlying22 (by kernel_rfl : Tryd.prog.cellsOf 24 = 2) (by decide) (by rw [show Tryd.prog.bytesOf 24 = 32 by kernel_rfl]; decide) (encT_len false)
    (fun m' cs' y' hm h' hl' => ih m' (by omega) cs' y' h' hl') f1 h1
  rw [show Tryd.prog.bytesOf 24 = 32 by kernel_rfl] at q2
  have k0 := i64_of_wf w0
  cases e0
  refine ⟨.mk k l, T.fits_of ⟨k0, by omega⟩ q1, ?_⟩
  rw [encT_eq, T.kind_mk, T.of_mk, encTL_eq]
  exact (Reads.s rfl rfl).app q3
set_option maxRecDepth 20000 in
theorem open_C (n : Nat) (cs : List Value) (y : DataW H × List MemPlace) (h : DataW.trod enc Tryd.prog W 0 (fun _ => true) true n 69 cs = some y) (hl : Light Tryd.prog 69 y.1) : ∃ c : C, c.lies ∧ Reads W (encC false c) cs := by
  have hu := Tryd.underlying69
  obtain ⟨xs, m, rfl, rfl, hlen, hxl, hf⟩ := DataW.trod_struct hu h
  rw [show Tryd.prog.cellsOf 69 = 9 by kernel_rfl] at hlen
  match cs, hlen with
  | [c0, c1, c2, c3, c4, c5, c6, c7, c8], _ =>
  match xs, hxl with
  | [y0, y1, y2, y3], _ =>
  have l1 : Tryd.prog.cellsOf 9 = 1 := by kernel_rfl
  have l2 : Tryd.prog.cellsOf 24 = 2 := by kernel_rfl
  have l3 : Tryd.prog.cellsOf 4 = 1 := by kernel_rfl
  have l4 : Tryd.prog.cellsOf 33 = 5 := by kernel_rfl
  have f0 := hf 0 _ rfl
  have f1 := hf 1 _ rfl
  have f2 := hf 2 _ rfl
  have f3 := hf 3 _ rfl
  simp only [l1, l2, l3, l4, List.drop_succ_cons, List.drop_zero, List.take_succ_cons, List.take_zero, List.getElem?_cons_succ, List.getElem?_cons_zero] at f0 f1 f2 f3
  have h0 := hl.field hu (j := 0) rfl (d := y0.1) rfl
  have h1 := hl.field hu (j := 1) rfl (d := y1.1) rfl
  have h3 := hl.field hu (j := 3) rfl (d := y3.1) rfl
  obtain ⟨t, e0, et, _⟩ := DataW.trod_string Tryd.underlying9 f0
  obtain ⟨b, e2, _⟩ := trod_bool' Tryd.underlying4 f2
  obtain ⟨ty, g1, r1⟩ := open_T _ _ _ f1 h1
  obtain ⟨v, g3, r3⟩ := open_V _ _ _ f3 h3
  have ts : t.size ≤ 140737488351232 := by
    have := h0 t.data.toList.length (by rw [et]; simp [DataW.weights])
    have h9 : reachBytes = 140737488351232 := rfl
    have e : t.data.toList.length = t.size := Array.length_toList
    omega
  cases e0
  cases e2
  refine ⟨⟨t, ty, b, v⟩, ⟨⟨g3, ts, ?_⟩, g1⟩, ?_⟩
  · obtain ⟨k, l⟩ := ty
    exact g1.1.1
  · rw [encT_eq] at r1
    rw [encV_eq] at r3
    exact ((Reads.s rfl rfl).app (r1.app ((Reads.s rfl rfl).app r3)))
/-- An argument of type api.Type. -/
theorem open_type {v : Value} {d : DataW H} {p : List MemPlace} (h : DataW.Trod enc Tryd.prog W 0 (fun _ => true) true 24 v d p) (hl : Light Tryd.prog 24 d) : ∃ x : T, x.fits ∧ VSim (gh0 W) (.agg (encT false x)) v := by
  obtain ⟨n, hn⟩ := h
  obtain ⟨x, h1, h2⟩ := open_T n _ _ hn hl
  exact ⟨x, h1, reads_agg h2 (.inr (by rw [encT_len]; decide))⟩
set_option maxRecDepth 20000 in
/-- An argument of type api.Schema. -/
theorem open_schema {a : Array Value} {d : DataW H} {p : List MemPlace} (h : DataW.Trod enc Tryd.prog W 0 (fun _ => true) true 39 (.agg a) d p) (hl : Light Tryd.prog 39 d) : ∃ l : List C, fitsCL l ∧ VSim (gh0 W) (.agg [.sl false .none (encCL false l)]) (.agg a) := by
  obtain ⟨n, hn⟩ := h
  have hu := Tryd.underlying39
  obtain ⟨xs, m, rfl, hy, hlen, hxl, hf⟩ := DataW.trod_struct hu hn
  injection hy with e1 e2
  subst e1
  rw [show Tryd.prog.cellsOf 39 = 1 by kernel_rfl] at hlen
  match xs, hxl with
  | [y0], _ =>
  have l1 : Tryd.prog.cellsOf 37 = 1 := by kernel_rfl
  have f0 : DataW.trod enc Tryd.prog W 0 (fun _ => true) true m 37 (List.take (Tryd.prog.cellsOf 37) (List.drop 0 (Value.agg a).cells.toList)) = some y0 := hf 0 _ rfl
  rw [l1, List.drop_zero, List.take_of_length_le (by omega)] at f0
  have h0 := hl.field hu (j := 0) rfl (d := y0.1) rfl
  obtain ⟨l, q1, q2, _, q3⟩ := open_slice_gen (encC false) C.lies Tryd.underlying37 (by kernel_rfl : Tryd.prog.cellsOf 69 = 9) (by decide) (by rw [show Tryd.prog.bytesOf 69 = 120 by kernel_rfl]; decide) (encC_len false)
    (fun m' cs' y' hm h' hl' => open_C m' cs' y' h' hl') f0 h0
  rw [show Tryd.prog.bytesOf 69 = 120 by kernel_rfl] at q2
  refine ⟨l, ⟨by omega, q1⟩, ?_⟩
  exact reads_agg q3 (.inl ⟨a, rfl⟩)
end
end Go.Proofs.YtakppgpkdjpngaaDoor
