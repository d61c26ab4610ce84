/- Merged: ALbu, OpenGen, AOpen, TFit, AOpenS, AOpenR, AOpenB, AOp11. -/
import Derived.Test.YtfheoidnahhnlaaGreatDoorZ46
import Derived.ProofKit
import Derived.OpenShut
import Derived.SizedLaws
import Derived.Laws.Cover2
import Derived.Test.YtfheoidnahhnlaaGreatDoorRows
set_option linter.unusedVariables false
set_option linter.unusedSimpArgs false
namespace Go.Proofs.YtfheoidnahhnlaaGreatDoor
open Go.RowKit
attribute [local go_sem] run_store_fl
theorem rowB11 : RowT Tryz.prog 29 5 1 1 := RowT.of (z := .int .u8 0) Tryz.underlying29 (by kernel_rfl) rfl (by omega)
theorem encRw_flat (o : Bool) (l : List (List V)) : (encRw o l).flatten = l.map fun r => .sl o .none (encL o r) := by
  induction l with
  | nil => rfl
  | cons r l ih => simp only [encRw, List.map_cons, List.flatten_cons] at ih ⊢; rw [ih]; rfl
theorem noOwn_Rw (l : List (List V)) : NoOwn (.sl false .none (encRw false l)) := .sl _ _ fun x hx => by
  rw [encRw_flat] at hx
  obtain ⟨r, _, rfl⟩ := List.mem_map.1 hx
  exact noOwnL r
theorem allOwn_Rw (l : List (List V)) : AllOwn (.sl true .none (encRw true l)) := .sl _ _ fun x hx => by
  rw [encRw_flat] at hx
  obtain ⟨r, _, rfl⟩ := List.mem_map.1 hx
  exact allOwn_L r
theorem wkss_freeRw : ∀ l : List (List V), Wkss (encRw true l) (encRw false l)
  | [] => trivial
  | r :: l => ⟨⟨⟨wk_freeL r, rfl, rfl⟩, trivial⟩, wkss_freeRw l⟩
theorem wk_freeRw (l : List (List V)) : Wk (.sl true .none (encRw true l)) (.sl false .none (encRw false l)) := Wk.sl (fun h => by cases h) (wkss_freeRw l)
theorem VSim.len_Rw {g : Gh} {o : Bool} {t : Tag} {l : List (List V)} {x : Value} (h : VSim g (.sl o t (encRw o l)) x) : ∃ B d, x = .slice B l.length d ∧ l.length ≤ d ∧ l.length ≤ 140737488355328 := by
  obtain ⟨B, d, e, h1, h2, _⟩ := VSim.elem (n := 1) h (encRw_lens o _) (by omega)
  rw [encRw_len] at e h1 h2
  exact ⟨B, d, e, h1, h2⟩
theorem curR_at {g : Gh} {l : List (List V)} {A : Option Addr} {n c : Nat} {W : World} (h : VSim g (.sl true .none (encRw true l)) (.slice A n c)) (hs : Spo g.K g.base W) {j : Nat} (hj : j < l.length) :
    ∃ (ad : Addr) (r : List V) (B : Option Addr) (m d : Nat), A = some ad ∧ l[j]? = some r ∧ g.base ≤ ad.block ∧ W.cell? (ad.add j) = some (.slice B m d) ∧ W.frozen? (ad.add j) = false ∧ Cur g r B m d ∧ (∃ v, g.K ad.block (ad.add j).off = some v) ∧ Spo g.K g.base (W.setCell (ad.add j) (.slice none 0 0)) := by
  have hx : l[j]? = some l[j] := List.getElem?_eq_getElem hj
  obtain ⟨r, hr⟩ : ∃ r, r = l[j] := ⟨_, rfl⟩
  rw [← hr] at hx
  obtain ⟨A', c', e, h1, h2, h3⟩ := VSim.elem (n := 1) h (encRw_lens true _) (by omega)
  obtain ⟨e1, e2, e3⟩ := Value.slice.inj e
  subst e1
  obtain ⟨b, o, rfl, hb, hc⟩ := h3 j _ (encRw_get true hx)
  have hb := hb rfl
  obtain ⟨v0, k0, s0⟩ := hc 0 _ rfl
  obtain ⟨B, d, rfl, _⟩ := VSim.elem (n := 5) s0 (encL_lens true _) (by omega)
  obtain ⟨_, u0, w0, y0⟩ := hs _ _ _ k0 hb
  have : ∃ B m d, u0 = .slice B m d := by rcases y0.sl_ with rfl | rfl <;> exact ⟨_, _, _, rfl⟩
  obtain ⟨B', m', d', rfl⟩ := this
  rw [Nat.mul_one, Nat.add_zero] at k0 w0
  refine ⟨⟨b, o, none⟩, r, B', m', d', rfl, hx, hb, ?_⟩
  rw [add_none]
  exact ⟨w0, hs.free k0 hb, Cur.of s0 y0, ⟨_, k0⟩, hs.store k0 hb (.nil ..)⟩
theorem u_Unp {s : List C} {l : List UInt8} {i : Int} {W : World} (hT : WorldOk W) (hs : ∀ c ∈ s, c.fits) (hi : -9223372036854775808 ≤ i ∧ i ≤ 9223372036854775807) {vs : List (List V)} {e0 : Int} (hv : (unpR s l i).1 = vs) (he : (unpR s l i).2 = e0) {As A : Option Addr} {n1 cs len c : Nat}
    (ms : VSim (gh0 W) (.sl false .none (encCL false s)) (.slice As n1 cs)) (mb : VSim (gh0 W) (.sl false .none (encB l)) (.slice A len c)) :
    Calls Tryz.prog 15 #[.agg #[.slice As n1 cs], .slice A len c, .int .i64 i] W fun e W' => Kept W W' ∧ ∃ B d K, e = .returned (.tuple #[.slice B vs.length d, .int .i64 e0]) ∧ vs.length ≤ d ∧ vs.length ≤ 140737488355328 ∧ Ans W W' (.sl true .none (encRw true vs)) (.slice B vs.length d) K := by
  subst hv he
  refine ((g_BUnpack s l i false hs hi).callsA hT (.cons (ms.mk1 rfl) (.cons mb (.cons (.s _ rfl) .nil)))).mono ?_
  rintro e W' ⟨hk, x, K, rfl, ha⟩
  obtain ⟨p, r, rfl, h1, h3⟩ := ha.two
  obtain rfl := h3.lit
  obtain ⟨B, d, rfl, q1, q2⟩ := h1.sim.len_Rw
  exact ⟨hk, B, d, K, rfl, q1, q2, h1⟩
theorem u_rUnp {s : List C} {l : List UInt8} {i : Int} {W : World} (hT : WorldOk W) (hs : ∀ c ∈ s, c.fits) (hi : -9223372036854775808 ≤ i ∧ i ≤ 9223372036854775807) {vs : List (List V)} {e0 : Int} (hv : (unpR s l i).1 = vs) (he : (unpR s l i).2 = e0) {As A : Option Addr} {n1 cs len c : Nat}
    (ms : VSim (gh0 W) (.sl false .none (encCL false s)) (.slice As n1 cs)) (mb : VSim (gh0 W) (.sl false .none (encB l)) (.slice A len c)) :
    Calls Tryz.prog 10 #[.agg #[.slice As n1 cs], .slice A len c, .int .i64 i] W fun e W' => Kept W W' ∧ ∃ B d K, e = .returned (.tuple #[.slice B vs.length d, .int .i64 e0]) ∧ vs.length ≤ d ∧ vs.length ≤ 140737488355328 ∧ Ans W W' (.sl true .none (encRw true vs)) (.slice B vs.length d) K := by
  subst hv he
  refine ((g_rBUnpack s l i false hs hi).callsA hT (.cons (ms.mk1 rfl) (.cons mb (.cons (.s _ rfl) .nil)))).mono ?_
  rintro e W' ⟨hk, x, K, rfl, ha⟩
  obtain ⟨p, r, rfl, h1, h3⟩ := ha.two
  obtain rfl := h3.lit
  obtain ⟨B, d, rfl, q1, q2⟩ := h1.sim.len_Rw
  exact ⟨hk, B, d, K, rfl, q1, q2, h1⟩
theorem pairs_refl : ∀ l : List (List V), pairs exL l l = true
  | [] => rfl
  | r :: l => by simp only [pairs, exL_refl, pairs_refl l, Bool.and_self]
theorem u_all11 {W : World} (hT : WorldOk W) {vs : List (List V)} {A B : Option Addr} {n c m d : Nat} (h1 : VSim (gh0 W) (.sl false .none (encRw false vs)) (.slice A n c)) (h2 : VSim (gh0 W) (.sl false .none (encRw false vs)) (.slice B m d)) :
    Calls Tryz.prog 16 #[.slice A n c, .slice B m d] W fun e W' => e = .returned (.bool true) ∧ Kept W W' := by
  have c0 := g_allb vs vs false false
  rw [pairs_refl] at c0
  exact c0.calls hT (.cons h1 (.cons h2 .nil))
theorem u_same11 {W : World} (hT : WorldOk W) {l : List UInt8} {A B : Option Addr} {n c m d : Nat} (h1 : VSim (gh0 W) (.sl false .none (encB l)) (.slice A n c)) (h2 : VSim (gh0 W) (.sl false .none (encB l)) (.slice B m d)) :
    Calls Tryz.prog 13 #[.slice A n c, .slice B m d] W fun e W' => e = .returned (.bool true) ∧ Kept W W' := by
  have c0 := g_sameb l l false false
  rw [decide_eq_true rfl] at c0
  exact c0.calls hT (.cons h1 (.cons h2 .nil))
theorem noOwn_B (l : List UInt8) : NoOwn (.sl false .none (encB l)) := .sl _ _ fun x hx => by
  rw [encB_flat] at hx
  obtain ⟨b, _, rfl⟩ := List.mem_map.1 hx
  exact .s _
set_option maxRecDepth 20000 in
set_option maxHeartbeats 4000000 in
theorem l_BatchUnpacks {s : List C} {l : List UInt8} {i : Int} {W : World} {x : Value} {A : Option Addr} {len c : Nat} (hT : WorldOk W) (hs : ∀ c ∈ s, c.fits) (hl : l.length ≤ 140737488351232) (hi : -9223372036854775808 ≤ i ∧ i ≤ 9223372036854775807) (m0 : VSim (gh0 W) (.agg [.sl false .none (encCL false s)]) x) (m1 : VSim (gh0 W) (.sl false .none (encB l)) (.slice A len c)) :
    Calls Tryz.prog 5 #[x, .slice A len c, .int .i64 i] W fun e W' => e = .returned (.bool true) ∧ Kept W W' := by
  obtain ⟨y, rfl, ms⟩ := m0.one_
  obtain ⟨As, cs, rfl, _, _, _⟩ := VSim.elem (n := 9) ms (encCL_lens false s) (by omega)
  rw [encCL_len] at ms m0 ⊢
  obtain ⟨rfl, p0, hc⟩ := Bn.from0 m1
  have ns := noOwnCL s
  have nb := noOwn_B l
  obtain ⟨vs, hv⟩ : ∃ vs, (unpR s l i).1 = vs := ⟨_, rfl⟩
  obtain ⟨e0, he⟩ : ∃ e0, (unpR s l i).2 = e0 := ⟨_, rfl⟩
  have nv := noOwn_Rw vs
  go_enter Tryz.func5, Tryz.ntmps5
  have gS := heap_alloc_new W (.cells #[.slice As s.length cs] 24)
  have jS := (Kept.refl W).alloc (.cells #[.slice As s.length cs] 24)
  have own1 := own_new (W.alloc (.cells #[.slice As s.length cs] 24)) 5 1 0 #[] rfl (by unfold maxLen; omega)
  rw [World.size_alloc] at own1
  have kj := jS.alloc (.cells #[] 5)
  have szj := kj.size
  have kS := (Kept.refl (W.alloc (.cells #[.slice As s.length cs] 24))).alloc (.cells #[] 5)
  have bsz : W.heap.size + 1 ≤ ((W.alloc (.cells #[.slice As s.length cs] 24)).alloc (.cells #[] 5)).heap.size := by rw [World.size_alloc, World.size_alloc]; omega
  go_wp2_with (at_builtin; refine wpList_app0 rfl _ _ _ rfl rowB11 (W.heap.size + 1) rfl own1 (cellsB l) rfl (Src.bytes (p0.kept kj).bs) (by unfold maxLen; omega) (by omega) bsz ?_; intro A1 c1 w1 hown1 hg1 hat1; have cS := box1 (kept_box gS (kS.app own1 (by rw [World.size_alloc]; exact Nat.le_refl _) hg1)))
  have k1 : Kept W w1 := kj.app own1 (Nat.le_succ _) hg1
  have k1S := kS.app own1 (by rw [World.size_alloc]; exact Nat.le_refl _) hg1
  have p1 : Bn w1 A1 l := Bn.own hown1
  have hc1 := own_cap hown1
  have gS1 := kept_box gS k1S
  have hlm : l.length ≤ 140737488355328 := by omega
  have mi1 := p1.sim hc1 hlm false rfl
  clear hown1 hg1 hat1 own1 kS kj bsz szj k1S jS gS cS
  refine (u_Unp (hT.kept k1) hs hi hv he (ms.kept0 ns k1) (m1.kept0 nb k1)).mono ?_
  rintro e w2 ⟨k2, B, d, K2, rfl, le2, lm2, a2⟩
  have cS := box1 (kept_box gS1 k2)
  go_wp2_with fail
  refine (u_rUnp (hT.kept (k1.trans k2)) hs hi hv he (ms.kept0 ns (k1.trans k2)) (mi1.kept0 nb k2)).mono ?_
  rintro e w3 ⟨k3, B3, d3, K3, rfl, le3, lm3, a3⟩
  clear cS
  go_wp2_with fail
  refine (u_all11 (hT.kept ((k1.trans k2).trans k3)) (a2.kept (wk_freeRw _) nv k3) (a3.kept (wk_freeRw _) nv (.refl _))).mono ?_
  rintro e w4 ⟨rfl, k4⟩
  have h4 := (k2.trans k3).trans k4
  go_wp2_with fail
  refine (u_same11 (hT.kept (k1.trans h4)) (m1.kept0 nb (k1.trans h4)) (mi1.kept0 nb h4)).mono ?_
  rintro e w5 ⟨rfl, k5⟩
  have z5 := (k3.trans k4).trans k5
  have s5 := (Spo.start a2.hK a2.hN).kept z5
  have u5 := Under.of a2.hK
  have y5 := h4.trans k5
  have z35 := k4.trans k5
  go_wp2_with fail
  go_loopw [13] (fun u wr => ∃ j : Nat, u = .int .i64 j ∧ j ≤ vs.length ∧ Spo K2 w1.heap.size wr ∧ Beside w1.heap.size w2.heap.size w5 wr) (fun u _ => vs.length - (intOf u).toNat)
  case atStart => exact ⟨0, rfl, Nat.zero_le _, s5, .refl _ _ _⟩
  case round =>
    obtain ⟨j, rfl, hj, r1, r2⟩ := hrel
    by_cases hlt : j < vs.length
    · have i0 : (0 : Int) ≤ (j : Int) := by omega
      have i1 : (j : Int) < (vs.length : Int) := by omega
      obtain ⟨ad, r, Br, mr, dr, rfl, hx, hb, _, _, _, ⟨v0, hv0⟩, _⟩ := curR_at a2.sim r1 hlt
      go_wp2_with fail
      go_loopw [14] (fun u wq => ∃ k : Nat, u = .int .i64 k ∧ Spo K2 w1.heap.size wq ∧ Beside w1.heap.size w2.heap.size w5 wq) (fun u _ => r.length - (intOf u).toNat)
      case atStart => exact ⟨0, rfl, r1, r2⟩
      case round =>
        obtain ⟨k, rfl, t1, t2⟩ := hrel
        obtain ⟨ad', r', B2, m2, d2, e2, hx2, hb2, c0, z0, hc2, ⟨v2, hv2⟩, st⟩ := curR_at a2.sim t1 hlt
        obtain rfl := Option.some.inj e2
        obtain rfl := Option.some.inj (hx.symm.trans hx2)
        clear e2 hx2
        have hle2 := hc2.len
        by_cases hk : k < m2
        · obtain ⟨ad3, x3, k3', i3, f3, t3, B3', m3, d3', rfl, hx3, hb3, g0, g1, g2, g3, g4, _, v3, hv3⟩ := hc2.at_ t1 hk
          have i2 : (0 : Int) ≤ (k : Int) := by omega
          have i3 : (k : Int) < (m2 : Int) := by omega
          obtain ⟨y0, y1, y2, y3, y4⟩ := hc2.thaw t1 hk rfl
          obtain ⟨n1, n2, n3, n4⟩ := five_cells g1 g2 g3 g4
          go_wp2_with fail
          go_roundw
          case rel =>
            have hbk : (ad3.add (k * 5)).block = ad3.block := add_block ..
            exact ⟨k + 1, by go_num, hc2.five t1 hk rfl 77 0 0 ⟨#[]⟩, t2.five (by rw [hbk]; exact hb3) (by rw [hbk]; exact u5 _ _ _ hv3) _ _ _ _ _⟩
          case measure => simp [intOf]; omega
        · have i3 : ¬ ((k : Int) < (m2 : Int)) := by omega
          go_wp2_with fail
          go_roundw
          case rel =>
            have hbk : (ad.add j).block = ad.block := add_block ..
            exact ⟨j + 1, by go_num, by omega, st, t2.setCell (by rw [hbk]; exact hb) (by rw [hbk]; exact u5 _ _ _ hv0) _⟩
          case measure => simp [intOf]; omega
    · have i1 : ¬ ((j : Int) < (vs.length : Int)) := by omega
      have K15 := r2.kept w1 (Nat.le_refl _) y5
      have K05 := k1.trans K15
      have gS := r2.lo_ (Nat.le_refl _) y5 gS1
      have m3 := a3.own (allOwn_Rw _) (wk_freeRw _) nv (fun b h1 h2 => (r2.block b h1 (Nat.lt_of_lt_of_le h2 z35.size)).trans (z35.block b h2))
      have cS := box1 gS
      go_wp2_with fail
      clear cS
      refine (u_Unp (hT.kept K05) hs hi hv he (ms.kept0 ns K05) (m1.kept0 nb K05)).mono ?_
      rintro e w6 ⟨k6, B6, d6, K6, rfl, le6, lm6, a6⟩
      go_wp2_with fail
      refine (g_live11.calls (hT.kept (K05.trans k6)) .nil).mono ?_
      rintro e w7 ⟨rfl, k7⟩
      have kz := k6.trans k7
      go_wp2_with fail
      refine (u_all11 (hT.kept (K05.trans kz)) (a6.kept (wk_freeRw _) nv k7) (m3.kept0 nv kz)).mono ?_
      rintro e w8 ⟨rfl, k8⟩
      go_wp2_with fail
      go_ret
      exact ⟨rfl, (K05.trans kz).trans k8⟩
end Go.Proofs.YtfheoidnahhnlaaGreatDoor
set_option linter.unusedVariables false
set_option linter.unusedSimpArgs false
namespace Go.Proofs.YtfheoidnahhnlaaGreatDoor
open Go.ChangeShapes Go.WideShapes Go.ChangeAt Go.RowKit
section
variable {H : Type} {enc : TypeId × Value → H} {W : World} {P : Program}
def Light (P : Program) (t : TypeId) (d : DataW H) : Prop := ∀ n ∈ d.weights P t, n ≤ reachBytes
theorem light_at {ts : List TypeId} {ds : List (DataW H)} (h : (DataW.weightsEach P ts ds).all (· ≤ reachBytes) = true) {j : Nat} {t : TypeId} {d : DataW H} (ht : ts[j]? = some t) (hd : ds[j]? = some d) : Light P t d := fun n hn => by
  have := List.all_eq_true.1 h _ (DataW.weights_mem_each ht hd n hn)
  simpa using this
theorem weightsAll_mem {e : TypeId} : ∀ {l : List (DataW H)} {d : DataW H}, d ∈ l → ∀ n ∈ d.weights P e, n ∈ DataW.weightsAll P e l
  | x :: l, d, h, n, hn => by
    simp only [DataW.weightsAll, List.mem_append]
    rcases List.mem_cons.1 h with rfl | h
    · exact .inl hn
    · exact .inr (weightsAll_mem h n hn)
  | [], _, h, _, _ => by cases h
theorem Light.field {t : TypeId} {fs : Array Field} {ds : List (DataW H)} (hu : P.underlying t = some (.struct fs)) (h : Light P t (.agg ds)) {j : Nat} {f : Field} {d : DataW H} (hf : fs[j]? = some f) (hd : ds[j]? = some d) : Light P f.type d := fun n hn => by
  refine h n ?_
  simp only [DataW.weights, hu]
  exact DataW.weights_mem_each (j := j) (by simp [hf]) hd n hn
theorem Light.elem {t e : TypeId} {es sp : List (DataW H)} (hu : P.underlying t = some (.slice e)) (h : Light P t (.slice es sp)) {d : DataW H} (hd : d ∈ es) : Light P e d := fun n hn => by
  refine h n ?_
  simp only [DataW.weights, hu, List.mem_cons, List.mem_append]
  exact .inr (.inl (weightsAll_mem hd n hn))
theorem Light.len {t e : TypeId} {es sp : List (DataW H)} (hu : P.underlying t = some (.slice e)) (h : Light P t (.slice es sp)) : es.length * P.bytesOf e ≤ 140737488351232 := by
  have := h ((es.length + sp.length) * P.bytesOf e) (by simp [DataW.weights, hu])
  have h2 : es.length * P.bytesOf e ≤ (es.length + sp.length) * P.bytesOf e := Nat.mul_le_mul_right _ (by omega)
  have h3 : reachBytes = 140737488351232 := rfl
  omega
def Reads (W : World) (l : List AV) (cs : List Value) : Prop := cs.length = l.length ∧ ∀ (i : Nat) x, l[i]? = some x → x.one = true ∧ x.dat0 = true ∧ oneV (cs.getD i undef) = true ∧ VSim (gh0 W) x (cs.getD i undef)
theorem Reads.nil : Reads W [] [] := ⟨rfl, fun i x h => by simp at h⟩
theorem Reads.app {l m : List AV} {cs ds : List Value} (h : Reads W l cs) (h' : Reads W m ds) : Reads W (l ++ m) (cs ++ ds) := by
  refine ⟨by simp [h.1, h'.1], fun i x hx => ?_⟩
  rcases Nat.lt_or_ge i l.length with hi | hi
  · rw [List.getElem?_append_left hi] at hx
    have := h.2 i x hx
    rwa [List.getD_eq_getElem?_getD, List.getElem?_append_left (by rw [h.1]; exact hi), ← List.getD_eq_getElem?_getD]
  · rw [List.getElem?_append_right hi] at hx
    have := h'.2 _ x hx
    rwa [List.getD_eq_getElem?_getD, List.getElem?_append_right (by rw [h.1]; exact hi), h.1, ← List.getD_eq_getElem?_getD]
theorem Reads.s {v : Value} (h : oneV v = true) (hd : AV.dat0 (.s v) = true) : Reads W [.s v] [v] := ⟨rfl, fun i x hx => by
  cases i with
  | zero =>
    obtain rfl : AV.s v = x := by simpa using hx
    exact ⟨h, hd, h, .s v h⟩
  | succ i => simp at hx⟩
theorem Reads.agg {l : List AV} {cs : List Value} (h : Reads W l cs) : VSim (gh0 W) (.agg l) (.agg cs.toArray) :=
  .agg l _ (by simp [h.1]) (fun i x hx => (h.2 i x hx).1) (fun i x hx => by
    have := (h.2 i x hx).2.2.2
    rwa [show cs.toArray.getD i undef = cs.getD i undef by simp [Array.getD_eq_getD_getElem?]])
theorem Reads.one {x : AV} {v : Value} (h : Reads W [x] [v]) : VSim (gh0 W) x v := (h.2 0 x rfl).2.2.2
theorem trod_float' {w : World} {base : Nat} {sp : Nat → Bool} {held : Bool} {fuel : Nat} {t : TypeId} {k : FloatKind} {cs : List Value} {x : DataW H × List MemPlace} (ht : P.underlying t = some (.float k)) (h : DataW.trod enc P w base sp held fuel t cs = some x) : ∃ b, cs = [.float k b] ∧ x = (.lit (.float k b), []) ∧ (Lit.float k b).wf = true := by
  cases fuel with
  | zero => simp [DataW.trod] at h
  | succ n =>
    unfold DataW.trod at h
    rw [ht] at h
    split at h <;> simp_all
theorem trod_bool' {w : World} {base : Nat} {sp : Nat → Bool} {held : Bool} {fuel : Nat} {t : TypeId} {cs : List Value} {x : DataW H × List MemPlace} (ht : P.underlying t = some .bool) (h : DataW.trod enc P w base sp held fuel t cs = some x) : ∃ b, cs = [.bool b] ∧ x = (.lit (.bool b), []) := by
  cases fuel with
  | zero => simp [DataW.trod] at h
  | succ n =>
    unfold DataW.trod at h
    rw [ht] at h
    split at h <;> simp_all
theorem addr_add (a : Addr) (m k : Nat) : (a.add m).add k = a.add (m + k) := by
  by_cases hm : m = 0
  · subst hm
    simp [Addr.add]
  · by_cases hk : k = 0
    · subst hk
      simp [Addr.add, hm]
    · simp [Addr.add, hm, hk, Nat.add_assoc]
theorem addr_none {a : Addr} (h : a.spot = none) {j : Nat} : (⟨a.block, a.off + j, none⟩ : Addr) = a.add j := by
  unfold Addr.add
  split
  · rename_i h0
    subst h0
    cases a
    cases h
    rfl
  · rfl
theorem open_slice_gen {α : Type} (E : α → List AV) (Good : α → Prop) {sz : Nat} {t e : TypeId} {n : Nat} {cs : List Value} {y : DataW H × List MemPlace} (ht : P.underlying t = some (.slice e)) (hs : P.cellsOf e = sz) (h0 : 0 < sz) (hby : 0 < P.bytesOf e) (hE : ∀ x, (E x).length = sz)
    (ih : ∀ m cs' y', m < n → DataW.trod enc P W 0 (fun _ => true) true m e cs' = some y' → Light P e y'.1 → ∃ x, Good x ∧ Reads W (E x) cs')
    (h : DataW.trod enc P W 0 (fun _ => true) true n t cs = some y) (hl : Light P t y.1) :
    ∃ l : List α, (∀ x ∈ l, Good x) ∧ l.length * P.bytesOf e ≤ 140737488351232 ∧ l.length ≤ 140737488355328 ∧ Reads W [.sl false .none (l.map E)] cs := by
  rcases DataW.trod_slice ht h with ⟨rfl, rfl⟩ | ⟨a, len, cap, elems, rest, m, hn, rfl, rfl, hb, hlc, hm, hlen, hel, hsp, hns⟩
  · refine ⟨[], by simp, by simp, by simp, rfl, fun i x hx => ?_⟩
    cases i with
    | zero =>
      obtain rfl : AV.sl false .none [] = x := by simpa using hx
      exact ⟨rfl, rfl, rfl, .sl false .none [] none 0 0 (fun _ => undef) (Nat.le_refl _) (Nat.zero_le _) (fun e he => by cases he) (fun j x hx => by simp at hx) (fun h => absurd rfl h) (fun j x hx => by simp at hx) trivial⟩
    | succ i => simp at hx
  · have each : ∀ i, i < len → ∃ x : α, ∃ cs', Good x ∧ W.cells? 0 (a.add (i * sz)) sz = some cs' ∧ Reads W (E x) cs' := by
      intro i hi
      have hx : elems[i]? = some elems[i] := List.getElem?_eq_getElem (by omega)
      have := hel i hi
      rw [hx, hs, Option.bind_eq_some_iff] at this
      obtain ⟨cs', q1, q2⟩ := this
      obtain ⟨x, r1, r2⟩ := ih m cs' _ (by omega) q2 (hl.elem ht (by
        simp only [List.mem_map]
        exact ⟨_, List.getElem_mem (by omega), rfl⟩))
      exact ⟨x, cs', r1, q1, r2⟩
    obtain ⟨l, hll, hlx⟩ : ∃ l : List α, l.length = len ∧ ∀ (i : Nat) x, l[i]? = some x → Good x ∧ ∃ cs', W.cells? 0 (a.add (i * sz)) sz = some cs' ∧ Reads W (E x) cs' := by
      clear hel hl h hsp hns ih hlen hlc
      induction len with
      | zero => exact ⟨[], rfl, fun i x hx => by simp at hx⟩
      | succ k ihk =>
        obtain ⟨l, q1, q2⟩ := ihk (fun i hi => each i (by omega))
        obtain ⟨x, cs', r1, r2, r3⟩ := each k (by omega)
        refine ⟨l ++ [x], by simp [q1], fun i z hz => ?_⟩
        rcases Nat.lt_or_ge i l.length with hi | hi
        · rw [List.getElem?_append_left hi] at hz
          exact q2 i z hz
        · rw [List.getElem?_append_right hi] at hz
          have h0 : i - l.length = 0 := by
            rcases Nat.eq_zero_or_pos (i - l.length) with h | h
            · exact h
            · obtain ⟨j, hj⟩ : ∃ j, i - l.length = j + 1 := ⟨i - l.length - 1, by omega⟩
              rw [hj] at hz; simp at hz
          rw [h0] at hz
          obtain rfl : x = z := by simpa using hz
          obtain rfl : i = k := by omega
          exact ⟨r1, cs', r2, r3⟩
    have hlb := hl.len ht
    rw [List.length_map, hlen] at hlb
    have hlen2 : len ≤ 140737488355328 := by
      have : len * 1 ≤ len * P.bytesOf e := Nat.mul_le_mul_left _ hby
      omega
    refine ⟨l, fun x hx => by obtain ⟨i, hi⟩ := List.getElem?_of_mem hx; exact (hlx i x hi).1, by rw [hll]; exact hlb, by omega, rfl, fun i x hx => ?_⟩
    cases i with
    | succ i => simp at hx
    | zero =>
      obtain rfl : AV.sl false .none (l.map E) = x := by simpa using hx
      have flat : ∀ (j : Nat) (x : AV), (l.map E).flatten[j]? = some x → x.one = true ∧ x.dat0 = true ∧ ∃ v, W.cell? (a.add j) = some v ∧ oneV v = true ∧ VSim (gh0 W) x v := by
        intro j x hj
        have hfl : ∀ (l : List α) (j : Nat), (l.map E).flatten[j]? = (l[j / sz]?).bind fun z => (E z)[j % sz]? := by
          intro l
          induction l with
          | nil => intro j; simp
          | cons z l ih2 =>
            intro j
            simp only [List.map_cons, List.flatten_cons]
            rcases Nat.lt_or_ge j sz with hj | hj
            · rw [List.getElem?_append_left (by rw [hE]; exact hj), Nat.div_eq_of_lt hj, Nat.mod_eq_of_lt hj]
              rfl
            · rw [List.getElem?_append_right (by rw [hE]; exact hj), hE, ih2]
              obtain ⟨k, rfl⟩ : ∃ k, j = k + sz := ⟨j - sz, by omega⟩
              rw [Nat.add_sub_cancel, Nat.add_div_right _ h0, Nat.add_mod_right]
              rfl
        rw [hfl, Option.bind_eq_some_iff] at hj
        obtain ⟨z, hz, hx⟩ := hj
        obtain ⟨_, cs', c1, c2⟩ := hlx _ _ hz
        obtain ⟨d1, d2, d3⟩ := World.cells?_some c1
        have hlt : j % sz < sz := Nat.mod_lt _ h0
        obtain ⟨e1, e2, e3, e4⟩ := c2.2 _ _ hx
        have d4 := d3 _ hlt
        have hlt' : j % sz < cs'.length := by omega
        rw [List.getElem?_eq_getElem hlt'] at d4
        rw [List.getD_eq_getElem?_getD, List.getElem?_eq_getElem hlt'] at e3 e4
        simp only [Option.getD_some] at e3 e4
        refine ⟨e1, e2, _, ?_, e3, e4⟩
        have e0 := Nat.div_add_mod j sz
        rw [Nat.mul_comm] at e0
        rw [← d4, addr_add, e0]
      have hvs : ∃ vs : Nat → Value, ∀ (j : Nat) x, (l.map E).flatten[j]? = some x → W.cell? (a.add j) = some (vs j) ∧ oneV (vs j) = true ∧ VSim (gh0 W) x (vs j) := by
        refine ⟨fun j => (W.cell? (a.add j)).getD undef, fun j x hx => ?_⟩
        obtain ⟨_, _, v, q1, q2, q3⟩ := flat j x hx
        simp only [q1]
        exact ⟨rfl, q2, q3⟩
      obtain ⟨vs, hvs⟩ := hvs
      have hml : len = (l.map E).length := by simp [hll]
      refine ⟨rfl, rfl, rfl, ?_⟩
      show VSim (gh0 W) _ (.slice (some a) len cap)
      rw [hml]
      refine .sl false .none (l.map E) (some a) cap sz vs (by simp [hll, hlc]) (by simp [hll]; omega) (fun e he => by obtain ⟨z, _, rfl⟩ := List.mem_map.1 he; exact hE z) (fun j x hx => ⟨(flat j x hx).1, (flat j x hx).2.1⟩) (fun hne => ?_) (fun j x hx => (hvs j x hx).2.2) trivial
      obtain ⟨x, hx⟩ : ∃ x, (l.map E).flatten[0]? = some x := by
        cases hf : (l.map E).flatten with
        | nil => exact absurd hf hne
        | cons x r => exact ⟨x, rfl⟩
      have hsp : a.spot = none := by
        have := (hvs 0 x hx).1
        unfold World.cell? at this
        split at this
        · cases hq : a.spot with
          | none => rfl
          | some s => simp [Addr.add, hq] at this
        · cases this
      refine ⟨a.block, a.off, by cases a; cases hsp; rfl, fun h => (by cases h), fun j x hx => ?_⟩
      obtain ⟨q1, q2, q3⟩ := hvs j x hx
      rw [gh0_K]
      refine ⟨?_, q2⟩
      rw [← q1]
      congr 1
      exact addr_none hsp
end
end Go.Proofs.YtfheoidnahhnlaaGreatDoor
set_option linter.unusedVariables false
set_option linter.unusedSimpArgs false
namespace Go.Proofs.YtfheoidnahhnlaaGreatDoor
open Go.ChangeShapes Go.WideShapes Go.ChangeAt Go.RowKit
section
variable {H : Type} {enc : TypeId × Value → H} {W : World}
set_option maxRecDepth 20000 in
theorem open_V : ∀ (n : Nat) (cs : List Value) (y : DataW H × List MemPlace), DataW.trod enc Tryz.prog W 0 (fun _ => true) true n 44 cs = some y → Light Tryz.prog 44 y.1 → ∃ v : V, v.fits ∧ Reads W (encV false v) cs := by
  intro n
  induction n using Nat.strongRecOn with
  | ind n ih =>
  intro cs y h hl
  have hu := Tryz.underlying44
  obtain ⟨xs, m, rfl, rfl, hlen, hxl, hf⟩ := DataW.trod_struct hu h
  rw [show Tryz.prog.cellsOf 44 = 5 by kernel_rfl] at hlen
  match cs, hlen with
  | [c0, c1, c2, c3, c4], _ =>
  match xs, hxl with
  | [y0, y1, y2, y3, y4], _ =>
  have l1 : Tryz.prog.cellsOf 3 = 1 := by kernel_rfl
  have l2 : Tryz.prog.cellsOf 2 = 1 := by kernel_rfl
  have l3 : Tryz.prog.cellsOf 42 = 1 := by kernel_rfl
  have l4 : Tryz.prog.cellsOf 9 = 1 := by kernel_rfl
  have l5 : Tryz.prog.cellsOf 39 = 1 := by kernel_rfl
  have f0 := hf 0 _ rfl
  have f1 := hf 1 _ rfl
  have f2 := hf 2 _ rfl
  have f3 := hf 3 _ rfl
  have f4 := hf 4 _ rfl
  simp only [l1, l2, l3, l4, l5, List.drop_succ_cons, List.drop_zero, List.take_succ_cons, List.take_zero, List.getElem?_cons_succ, List.getElem?_cons_zero] at f0 f1 f2 f3 f4
  have h3 := hl.field hu (j := 3) rfl (d := y3.1) rfl
  have h4 := hl.field hu (j := 4) rfl (d := y4.1) rfl
  obtain ⟨k, e0, _, w0⟩ := DataW.trod_int Tryz.underlying3 f0
  obtain ⟨i, e1, _, w1⟩ := DataW.trod_int Tryz.underlying2 f1
  obtain ⟨f, e2, _, w2⟩ := trod_float' Tryz.underlying42 f2
  obtain ⟨t, e3, et, _⟩ := DataW.trod_string Tryz.underlying9 f3
  obtain ⟨l, q1, q2, _, q3⟩ := open_slice_gen (encV false) V.fits Tryz.underlying39 (by kernel_rfl : Tryz.prog.cellsOf 44 = 5) (by decide) (by rw [show Tryz.prog.bytesOf 44 = 64 by kernel_rfl]; decide) (encV_len false)
    (fun m' cs' y' hm h' hl' => ih m' (by omega) cs' y' h' hl') f4 h4
  rw [show Tryz.prog.bytesOf 44 = 64 by kernel_rfl] at q2
  have ts : t.size ≤ 140737488351232 := by
    have := h3 t.data.toList.length (by rw [et]; simp [DataW.weights])
    have h9 : reachBytes = 140737488351232 := rfl
    have e : t.data.toList.length = t.size := Array.length_toList
    omega
  have w2' : f < 18446744073709551616 := by
    simp [Lit.wf, FloatKind.format] at w2
    omega
  have k0 := i64_of_wf w0
  have k1 := i64_of_wf w1
  cases e0
  cases e1
  cases e2
  cases e3
  refine ⟨.mk k i f t l, V.fits_of ⟨by omega, k0, k1, w2', ts⟩ q1, ?_⟩
  rw [encV_eq, V.kind_mk, V.int_mk, V.float_mk, V.text_mk, V.items_mk, encL_eq]
  exact ((Reads.s rfl rfl).app (.app (.s rfl rfl) (.app (.s rfl rfl) (.app (.s rfl rfl) q3))))
end
end Go.Proofs.YtfheoidnahhnlaaGreatDoor
set_option linter.unusedVariables false
namespace Go.Proofs.YtfheoidnahhnlaaGreatDoor
open Go
mutual
def T.fits : T → Prop
  | .mk k l => (inI k ∧ l.length ≤ 4398046510976) ∧ T.fitsL l
def T.fitsL : List T → Prop
  | [] => True
  | x :: l => T.fits x ∧ T.fitsL l
end
theorem T.fitsL_mem : ∀ {l : List T} {x : T}, T.fitsL l → x ∈ l → x.fits
  | y :: l, x, h, hx => by
    rcases List.mem_cons.1 hx with rfl | hx
    · exact h.1
    · exact T.fitsL_mem h.2 hx
  | [], _, _, hx => by cases hx
theorem T.fitsL_of : ∀ {l : List T}, (∀ x ∈ l, x.fits) → T.fitsL l
  | [], _ => trivial
  | y :: l, h => ⟨h y (List.mem_cons_self ..), T.fitsL_of fun x hx => h x (List.mem_cons_of_mem _ hx)⟩
theorem T.fits_mem {k : Int} {l : List T} (h : (T.mk k l).fits) {x : T} (hx : x ∈ l) : x.fits := T.fitsL_mem h.2 hx
theorem T.fits_of {k : Int} {l : List T} (h : inI k ∧ l.length ≤ 4398046510976) (hx : ∀ x ∈ l, x.fits) : (T.mk k l).fits := ⟨h, T.fitsL_of hx⟩
structure C.lies (c : C) : Prop where
  fit : c.fits
  ty : c.ty.fits
structure fitsCL (l : List C) : Prop where
  len : l.length ≤ 1172812402926
  all : ∀ c ∈ l, c.lies
theorem fitsCL.fit {l : List C} (h : fitsCL l) : ∀ c ∈ l, c.fits := fun c hc => (h.all c hc).fit
end Go.Proofs.YtfheoidnahhnlaaGreatDoor
set_option linter.unusedVariables false
set_option linter.unusedSimpArgs false
namespace Go.Proofs.YtfheoidnahhnlaaGreatDoor
open Go.ChangeShapes Go.WideShapes Go.ChangeAt Go.RowKit
section
variable {H : Type} {enc : TypeId × Value → H} {W : World}
theorem reads_agg {l : List AV} {v : Value} (h : Reads W l v.cells.toList) (hv : (∃ a, v = .agg a) ∨ l.length ≠ 1) : VSim (gh0 W) (.agg l) v := by
  have h3 := h.1
  cases v with
  | agg a =>
    have := h.agg
    simpa [Value.cells] using this
  | _ =>
    rcases hv with ⟨a, ha⟩ | hv
    · cases ha
    · exact absurd h3 (by simp [Value.cells]; omega)
theorem open_byte {m : Nat} {cs : List Value} {y : DataW H × List MemPlace} (h : DataW.trod enc Tryz.prog W 0 (fun _ => true) true m 5 cs = some y) : ∃ c : UInt8, True ∧ Reads W [.s (.int .u8 c.toNat)] cs := by
  obtain ⟨k, e0, _, w0⟩ := DataW.trod_int Tryz.underlying5 h
  subst e0
  have hk : 0 ≤ k ∧ k < 256 := by
    simp [Lit.wf, IntKind.min, IntKind.max, IntKind.signed, IntKind.bits] at w0
    omega
  refine ⟨UInt8.ofNat k.toNat, trivial, ?_⟩
  have : ((UInt8.ofNat k.toNat).toNat : Int) = k := by simp; omega
  rw [this]
  exact .s rfl rfl
theorem open_byteS {A : Option Addr} {len cap : Nat} {d : DataW H} {p : List MemPlace} (h : DataW.Trod enc Tryz.prog W 0 (fun _ => true) true 29 (.slice A len cap) d p) (hl : Light Tryz.prog 29 d) : ∃ l : List UInt8, l.length ≤ 140737488351232 ∧ VSim (gh0 W) (.sl false .none (encB l)) (.slice A len cap) := by
  obtain ⟨n, hn⟩ := h
  obtain ⟨l, _, q2, _, q3⟩ := open_slice_gen (fun c : UInt8 => [AV.s (.int .u8 c.toNat)]) (fun _ => True) Tryz.underlying29 (by kernel_rfl : Tryz.prog.cellsOf 5 = 1) (by decide) (by rw [show Tryz.prog.bytesOf 5 = 1 by kernel_rfl]; decide) (fun _ => rfl)
    (fun m' cs' y' hm h' hl' => open_byte h') hn hl
  rw [show Tryz.prog.bytesOf 5 = 1 by kernel_rfl] at q2
  exact ⟨l, by omega, Reads.one q3⟩
set_option maxRecDepth 20000 in
theorem open_T : ∀ (n : Nat) (cs : List Value) (y : DataW H × List MemPlace), DataW.trod enc Tryz.prog W 0 (fun _ => true) true n 72 cs = some y → Light Tryz.prog 72 y.1 → ∃ v : T, v.fits ∧ Reads W (encT false v) cs := by
  intro n
  induction n using Nat.strongRecOn with
  | ind n ih =>
  intro cs y h hl
  have hu := Tryz.underlying72
  obtain ⟨xs, m, rfl, rfl, hlen, hxl, hf⟩ := DataW.trod_struct hu h
  rw [show Tryz.prog.cellsOf 72 = 2 by kernel_rfl] at hlen
  match cs, hlen with
  | [c0, c1], _ =>
  match xs, hxl with
  | [y0, y1], _ =>
  have l1 : Tryz.prog.cellsOf 3 = 1 := by kernel_rfl
  have l2 : Tryz.prog.cellsOf 70 = 1 := by kernel_rfl
  have f0 := hf 0 _ rfl
  have f1 := hf 1 _ rfl
  simp only [l1, l2, List.drop_succ_cons, List.drop_zero, List.take_succ_cons, List.take_zero, List.getElem?_cons_succ, List.getElem?_cons_zero] at f0 f1
  have h1 := hl.field hu (j := 1) rfl (d := y1.1) rfl
  obtain ⟨k, e0, _, w0⟩ := DataW.trod_int Tryz.underlying3 f0
  obtain ⟨l, q1, q2, _, q3⟩ := open_slice_gen (encT false) T.fits Tryz.underlying70 (by kernel_rfl : Tryz.prog.cellsOf 72 = 2) (by decide) (by rw [show Tryz.prog.bytesOf 72 = 32 by kernel_rfl]; decide) (encT_len false)
    (fun m' cs' y' hm h' hl' => ih m' (by omega) cs' y' h' hl') f1 h1
  rw [show Tryz.prog.bytesOf 72 = 32 by kernel_rfl] at q2
  have k0 := i64_of_wf w0
  cases e0
  refine ⟨.mk k l, T.fits_of ⟨k0, by omega⟩ q1, ?_⟩
  rw [encT_eq, T.kind_mk, T.of_mk, encTL_eq]
  exact (Reads.s rfl rfl).app q3
set_option maxRecDepth 20000 in
theorem open_C (n : Nat) (cs : List Value) (y : DataW H × List MemPlace) (h : DataW.trod enc Tryz.prog W 0 (fun _ => true) true n 74 cs = some y) (hl : Light Tryz.prog 74 y.1) : ∃ c : C, c.lies ∧ Reads W (encC false c) cs := by
  have hu := Tryz.underlying74
  obtain ⟨xs, m, rfl, rfl, hlen, hxl, hf⟩ := DataW.trod_struct hu h
  rw [show Tryz.prog.cellsOf 74 = 9 by kernel_rfl] at hlen
  match cs, hlen with
  | [c0, c1, c2, c3, c4, c5, c6, c7, c8], _ =>
  match xs, hxl with
  | [y0, y1, y2, y3], _ =>
  have l1 : Tryz.prog.cellsOf 9 = 1 := by kernel_rfl
  have l2 : Tryz.prog.cellsOf 72 = 2 := by kernel_rfl
  have l3 : Tryz.prog.cellsOf 4 = 1 := by kernel_rfl
  have l4 : Tryz.prog.cellsOf 44 = 5 := by kernel_rfl
  have f0 := hf 0 _ rfl
  have f1 := hf 1 _ rfl
  have f2 := hf 2 _ rfl
  have f3 := hf 3 _ rfl
  simp only [l1, l2, l3, l4, List.drop_succ_cons, List.drop_zero, List.take_succ_cons, List.take_zero, List.getElem?_cons_succ, List.getElem?_cons_zero] at f0 f1 f2 f3
  have h0 := hl.field hu (j := 0) rfl (d := y0.1) rfl
  have h1 := hl.field hu (j := 1) rfl (d := y1.1) rfl
  have h3 := hl.field hu (j := 3) rfl (d := y3.1) rfl
  obtain ⟨t, e0, et, _⟩ := DataW.trod_string Tryz.underlying9 f0
  obtain ⟨b, e2, _⟩ := trod_bool' Tryz.underlying4 f2
  obtain ⟨ty, g1, r1⟩ := open_T _ _ _ f1 h1
  obtain ⟨v, g3, r3⟩ := open_V _ _ _ f3 h3
  have ts : t.size ≤ 140737488351232 := by
    have := h0 t.data.toList.length (by rw [et]; simp [DataW.weights])
    have h9 : reachBytes = 140737488351232 := rfl
    have e : t.data.toList.length = t.size := Array.length_toList
    omega
  cases e0
  cases e2
  refine ⟨⟨t, ty, b, v⟩, ⟨⟨g3, ts, ?_⟩, g1⟩, ?_⟩
  · obtain ⟨k, l⟩ := ty
    exact g1.1.1
  · rw [encT_eq] at r1
    rw [encV_eq] at r3
    exact ((Reads.s rfl rfl).app (r1.app ((Reads.s rfl rfl).app r3)))
set_option maxRecDepth 20000 in
theorem open_schema {a : Array Value} {d : DataW H} {p : List MemPlace} (h : DataW.Trod enc Tryz.prog W 0 (fun _ => true) true 24 (.agg a) d p) (hl : Light Tryz.prog 24 d) : ∃ l : List C, fitsCL l ∧ VSim (gh0 W) (.agg [.sl false .none (encCL false l)]) (.agg a) := by
  obtain ⟨n, hn⟩ := h
  have hu := Tryz.underlying24
  obtain ⟨xs, m, rfl, hy, hlen, hxl, hf⟩ := DataW.trod_struct hu hn
  injection hy with e1 e2
  subst e1
  rw [show Tryz.prog.cellsOf 24 = 1 by kernel_rfl] at hlen
  match xs, hxl with
  | [y0], _ =>
  have l1 : Tryz.prog.cellsOf 22 = 1 := by kernel_rfl
  have f0 : DataW.trod enc Tryz.prog W 0 (fun _ => true) true m 22 (List.take (Tryz.prog.cellsOf 22) (List.drop 0 (Value.agg a).cells.toList)) = some y0 := hf 0 _ rfl
  rw [l1, List.drop_zero, List.take_of_length_le (by omega)] at f0
  have h0 := hl.field hu (j := 0) rfl (d := y0.1) rfl
  obtain ⟨l, q1, q2, _, q3⟩ := open_slice_gen (encC false) C.lies Tryz.underlying22 (by kernel_rfl : Tryz.prog.cellsOf 74 = 9) (by decide) (by rw [show Tryz.prog.bytesOf 74 = 120 by kernel_rfl]; decide) (encC_len false)
    (fun m' cs' y' hm h' hl' => open_C m' cs' y' h' hl') f0 h0
  rw [show Tryz.prog.bytesOf 74 = 120 by kernel_rfl] at q2
  refine ⟨l, ⟨by omega, q1⟩, ?_⟩
  exact reads_agg q3 (.inl ⟨a, rfl⟩)
end
end Go.Proofs.YtfheoidnahhnlaaGreatDoor
