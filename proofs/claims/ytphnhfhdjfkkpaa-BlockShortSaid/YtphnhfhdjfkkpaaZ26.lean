/- Merged: ALsU, OpenGen, AOp10, ALsV. -/
import Derived.Test.YtphnhfhdjfkkpaaZ25
import Derived.ProofKit
import Derived.OpenShut
import Derived.SizedLaws
import Derived.Laws.Cover2
/- Laws of layer 10: what is unpacked is the caller's own. -/
set_option linter.unusedVariables false
set_option linter.unusedSimpArgs false
namespace Go.Proofs.Ytphnhfhdjfkkpaa
open Go.RowKit
theorem rowBu : RowT Try.prog 22 5 1 1 := RowT.of (z := .int .u8 0) Try.underlying22 (by kernel_rfl) rfl (by omega)
/-- Unpack, from a world to a world. -/
theorem u_Unpack {W : World} {A : Option Addr} {p : List UInt8} {c : Nat} (h : Bn W A p) (hc : p.length ≤ c) (hm : p.length ≤ 140737488355328) : Calls Try.prog 14 #[.slice A p.length c] W fun e W' => Kept W W' ∧ ∃ B d, e = .returned (.tuple #[.slice B (unp p).1.length d, .int .i64 (unp p).2]) ∧ On W W' B (unp p).1 d := by
  refine ((g_Unpack p false).callsN trivial (.cons (h.sim hc hm _ rfl) .nil)).mono ?_
  rintro e W' ⟨hk, x, K', rfl, h1, h2, h3⟩
  obtain ⟨u, v, rfl, h4, h5⟩ := vsim_two h3
  obtain ⟨B, d, rfl, h6⟩ := On.of h1 h2 h4
  cases h5
  exact ⟨hk, B, d, rfl, h6⟩
theorem u_rUnpack {W : World} {A : Option Addr} {p : List UInt8} {c : Nat} (h : Bn W A p) (hc : p.length ≤ c) (hm : p.length ≤ 140737488355328) : Calls Try.prog 11 #[.slice A p.length c] W fun e W' => Kept W W' ∧ ∃ B d, e = .returned (.tuple #[.slice B (unp p).1.length d, .int .i64 (unp p).2]) ∧ On W W' B (unp p).1 d := by
  refine ((g_rUnpack p false).callsN trivial (.cons (h.sim hc hm _ rfl) .nil)).mono ?_
  rintro e W' ⟨hk, x, K', rfl, h1, h2, h3⟩
  obtain ⟨u, v, rfl, h4, h5⟩ := vsim_two h3
  obtain ⟨B, d, rfl, h6⟩ := On.of h1 h2 h4
  cases h5
  exact ⟨hk, B, d, rfl, h6⟩
theorem u_same {W : World} {A B : Option Addr} {p : List UInt8} {c d : Nat} (h : Bn W A p) (hc : p.length ≤ c) (h' : Bn W B p) (hd : p.length ≤ d) (hm : p.length ≤ 140737488355328) : Calls Try.prog 12 #[.slice A p.length c, .slice B p.length d] W fun e W' => e = .returned (.bool true) ∧ Kept W W' := by
  have c1 := g_same10 p p false false
  rw [decide_eq_true rfl] at c1
  exact c1.calls trivial (.cons (h.sim hc hm _ rfl) (.cons (h'.sim hd hm _ rfl) .nil))
theorem u_live {W : World} : Calls Try.prog 10 #[] W fun e W' => e = .returned (.bool true) ∧ Kept W W' := g_live10.calls trivial .nil
theorem Bn.of0 {W : World} {o : Bool} {t : Tag} {A : Option Addr} {n c : Nat} {l : List UInt8} (h : VSim (gh0 W) (.sl o t (encB l)) (.slice A n c)) : n = l.length ∧ Bn W A l ∧ l.length ≤ c := by
  have hle : (encB l).length = l.length := by simp [encB]
  cases h with
  | sl own tag es A cap sz vs hl hc hsz h1 hA hh htag =>
    rw [hle] at hl
    refine ⟨hle, fun hn => ?_, hl⟩
    obtain ⟨b, o', rfl, _, hKK⟩ := hA (fun h0 => by
      have := congrArg List.length h0
      rw [encB_flat] at this
      simp at this
      rw [this] at hn; simp at hn)
    refine ⟨b, o', rfl, fun i hi => ?_⟩
    have hx : (encB l).flatten[i]? = some (.s (.int .u8 ((l.getD i 0).toNat : Int))) := by
      rw [encB_flat]
      simp [List.getD_eq_getElem?_getD, hi]
    have h2 := (gh0_K.1 (hKK i _ hx)).1
    rw [(hh i _ hx).lit0 rfl] at h2
    exact h2
/-- Bytes that may be written over. -/
def SpB (w : World) (B : Option Addr) (n : Nat) : Prop := 0 < n → ∃ ad : Addr, B = some ad ∧ Loose (w.heap[ad.block]?) ∧ ∀ i, i < n → (∃ v, w.cell? (ad.add i) = some v) ∧ w.frozen? (ad.add i) = false
theorem loose_free {w : World} {a : Addr} {v : Value} (hs : a.spot = none) (h : Loose (w.heap[a.block]?)) (hc : w.cell? a = some v) : w.frozen? a = false := by
  obtain ⟨b, o, s⟩ := a
  cases hs
  exact h.cell hc
theorem SpB.of {W0 W : World} {B : Option Addr} {l : List UInt8} {d : Nat} (h : On W0 W B l d) : SpB W B l.length := fun hn => by
  obtain ⟨b, o, e, h1, h2, h3⟩ := h.at_ hn
  refine ⟨_, e, h2, fun i hi => ?_⟩
  rw [add_none]
  exact ⟨⟨_, h3 i hi⟩, h2.cell (h3 i hi)⟩
theorem SpB.kept {W W' : World} {B : Option Addr} {n : Nat} (h : SpB W B n) (hk : Kept W W') : SpB W' B n := fun hn => by
  obtain ⟨ad, e, h2, h3⟩ := h hn
  obtain ⟨⟨v, hv⟩, _⟩ := h3 0 hn
  have hlt := World.block_lt_of_cell? W _ hv
  rw [add_block] at hlt
  refine ⟨ad, e, by rw [hk.block _ hlt]; exact h2, fun i hi => ?_⟩
  obtain ⟨⟨u, hu⟩, hz⟩ := h3 i hi
  exact ⟨⟨u, hk.cell hu⟩, (World.frozen?_of_block (hk.block _ (by rw [add_block]; exact hlt))).trans hz⟩
theorem setCell_frozen {w : World} {a c : Addr} {v : Value} : (w.setCell a v).frozen? c = w.frozen? c := by
  unfold World.frozen? World.setCell
  by_cases h : c.block = a.block
  · simp only [h, Array.getElem?_modify, if_pos]
    cases w.heap[a.block]? with
    | none => rfl
    | some x => cases x <;> rfl
  · simp [Array.getElem?_modify, Ne.symm h]
theorem SpB.store {W : World} {B : Option Addr} {n j : Nat} {ad : Addr} (h : SpB W B n) (e : B = some ad) (hj : j < n) (u : Value) : SpB (W.setCell (ad.add j) u) B n := fun hn => by
  obtain ⟨ad', e', h2, h3⟩ := h hn
  rw [e] at e'
  obtain rfl := Option.some.inj e'
  have hb : (ad.add j).block = ad.block := add_block ..
  refine ⟨ad, e, ?_, fun i hi => ?_⟩
  · rw [← hb]
    exact setCell_loose (by rw [hb]; exact h2)
  · obtain ⟨⟨x, hx⟩, hz⟩ := h3 i hi
    refine ⟨?_, setCell_frozen.trans hz⟩
    by_cases he : ad.add i = ad.add j
    · rw [he] at hx ⊢
      exact ⟨u, World.cell?_setCell_same _ _ _ hx⟩
    · exact ⟨x, (World.cell?_setCell_other _ _ _ _ (fun e => he e.symm)).trans hx⟩
theorem Bn.lt {W : World} {A : Option Addr} {l : List UInt8} (h : Bn W A l) {b o : Nat} (e : A = some ⟨b, o, none⟩) (hn : 0 < l.length) : b < W.heap.size := by
  obtain ⟨b', o', e', hc⟩ := h hn
  rw [e] at e'
  cases e'
  exact World.block_lt_of_cell? W _ (hc 0 hn)
set_option maxRecDepth 20000 in
set_option maxHeartbeats 4000000 in
theorem l_BlockUnpacks {A : Option Addr} {c : Nat} {p : List UInt8} {w : World} (h : Bn w A p) (hc : p.length ≤ c) (hm : p.length ≤ 140737488351232) : Calls Try.prog 6 #[.slice A p.length c] w fun e w' => e = .returned (.bool true) ∧ Kept w w' := by
  obtain ⟨hu1, hu2⟩ := unp_out p
  have hm2 : p.length ≤ 140737488355328 := by omega
  go_enter Try.func6, Try.ntmps6
  have k0 := (Kept.refl w).alloc (.cells #[] 5)
  go_wp2_with (at_builtin; refine wpList_app0 rfl _ _ _ rfl rowBu w.heap.size rfl (own_new w _ 1 0 _ rfl (by unfold maxLen; omega)) (cellsB p) rfl (Src.bytes (h.bs.kept k0)) (by unfold maxLen; omega) (by omega) k0.size ?_; intro A1 c1 w1 hown1 hg1 hat1)
  have k1 : Kept w w1 := k0.app (own_new w _ 1 0 _ rfl (by unfold maxLen; omega)) (Nat.le_refl _) hg1
  have p1 : Bn w1 A p := h.kept k1
  have p2 : Bn w1 A1 p := Bn.own hown1
  have hc1 := own_cap hown1
  refine (u_Unpack p1 hc hm2).mono ?_
  rintro e w2 ⟨k2, B, d, rfl, hB⟩
  go_wp2_with fail
  refine (u_rUnpack (p2.kept k2) hc1 hm2).mono ?_
  rintro e w3 ⟨k3, B', d', rfl, hB'⟩
  go_wp2_with fail
  refine (u_same (hB.bn.kept k3) hB.cap hB'.bn hB'.cap (by omega)).mono ?_
  rintro e w4 ⟨rfl, k4⟩
  go_wp2_with fail
  have p14 := p1.kept ((k2.trans k3).trans k4)
  have p24 := p2.kept ((k2.trans k3).trans k4)
  refine (u_same p14 hc p24 hc1 hm2).mono ?_
  rintro e w5 ⟨rfl, k5⟩
  have p15 := p14.kept k5
  have p25 := p24.kept k5
  have p35 := (hB'.bn.kept k4).kept k5
  have q5 := (((SpB.of hB).kept k3).kept k4).kept k5
  have k05 := (((k1.trans k2).trans k3).trans k4).trans k5
  have apart : ∀ ad : Addr, B = some ad → 0 < (unp p).1.length → w.heap.size ≤ ad.block ∧ (∀ b o, A = some ⟨b, o, none⟩ → 0 < p.length → b ≠ ad.block) ∧ (∀ b o, A1 = some ⟨b, o, none⟩ → 0 < p.length → b ≠ ad.block) ∧ (∀ b o, B' = some ⟨b, o, none⟩ → 0 < (unp p).1.length → b ≠ ad.block) := by
    intro ad e hn
    obtain ⟨b, o, e', h1, _, h3⟩ := hB.at_ hn
    rw [e] at e'
    cases e'
    have hlt := World.block_lt_of_cell? w2 _ (h3 0 hn)
    refine ⟨Nat.le_trans k1.size h1, fun b' o' ea h0 => ?_, fun b' o' ea h0 => ?_, fun b' o' ea h0 => ?_⟩
    · have := p1.lt ea h0
      show b' ≠ b
      omega
    · have := p2.lt ea h0
      show b' ≠ b
      omega
    · obtain ⟨b2, o2, e2, g1, _⟩ := hB'.at_ h0
      rw [ea] at e2
      cases e2
      have hlt' : b < w2.heap.size := hlt
      show b' ≠ b
      omega
  clear p1 p2 p14 p24 hB k2 k3 k4 k5 k1 k0 hown1 hg1 hat1 h
  have hb'c := hB'.cap
  clear hB'
  go_wp2_with fail
  go_loopw [9] (fun u wr => ∃ j : Nat, u = .int .i64 j ∧ j ≤ (unp p).1.length ∧ Bn wr A p ∧ Bn wr A1 p ∧ Bn wr B' (unp p).1 ∧ Kept w wr ∧ SpB wr B (unp p).1.length) (fun u _ => (unp p).1.length - (intOf u).toNat)
  case atStart => exact ⟨0, rfl, Nat.zero_le _, p15, p25, p35, k05, q5⟩
  case round =>
    clear p15 p25 p35 k05 q5
    obtain ⟨j, rfl, hj, r1, r2, r3, r4, r5⟩ := hrel
    by_cases hlt : j < (unp p).1.length
    · obtain ⟨ad, rfl, s1, s2⟩ := r5 (by omega)
      obtain ⟨a1, a2, a3, a4⟩ := apart ad rfl (by omega)
      obtain ⟨⟨v, hv⟩, hz⟩ := s2 j hlt
      have i0 : (0 : Int) ≤ (j : Int) := by omega
      have i1 : (j : Int) < ((unp p).1.length : Int) := by omega
      have hbk : (ad.add j).block = ad.block := add_block ..
      have t1 := r1.setCell (a := ad.add j) (v := .int .u8 77) (by rw [hbk]; exact a2)
      have t2 := r2.setCell (a := ad.add j) (v := .int .u8 77) (by rw [hbk]; exact a3)
      have t3 := r3.setCell (a := ad.add j) (v := .int .u8 77) (by rw [hbk]; exact a4)
      have t4 := r4.setCell (p := ad.add j) (by rw [hbk]; exact a1) (.int .u8 77)
      have t5 := r5.store rfl hlt (.int .u8 77)
      go_wp2_with fail
      go_roundw
      case rel => exact ⟨j + 1, by go_num, by omega, t1, t2, t3, t4, t5⟩
      case measure => simp [intOf]; omega
    · go_wp2_with fail
      refine (u_Unpack r1 hc hm2).mono ?_
      rintro e w6 ⟨k6, C, f, rfl, hC⟩
      go_wp2_with fail
      refine u_live.mono ?_
      rintro e w7 ⟨rfl, k7⟩
      go_wp2_with fail
      have r16 := (r1.kept k6).kept k7
      have r26 := (r2.kept k6).kept k7
      refine (u_same r16 hc r26 hc1 hm2).mono ?_
      rintro e w8 ⟨rfl, k8⟩
      go_wp2_with fail
      refine (u_same ((hC.bn.kept k7).kept k8) hC.cap (((r3.kept k6).kept k7).kept k8) hb'c (by omega)).mono ?_
      rintro e w9 ⟨rfl, k9⟩
      go_wp2_with fail
      go_ret
      exact ⟨rfl, (((r4.trans k6).trans k7).trans k8).trans k9⟩
end Go.Proofs.Ytphnhfhdjfkkpaa
/- From a row's data to plain data: scalars, slices and structs that came in. No program beside the given type facts. -/
set_option linter.unusedVariables false
set_option linter.unusedSimpArgs false
namespace Go.Proofs.Ytphnhfhdjfkkpaa
open Go.ChangeShapes Go.WideShapes Go.ChangeAt Go.RowKit
section
variable {H : Type} {enc : TypeId × Value → H} {W : World} {P : Program}
/-- Every weight in it is within the form's reach. -/
def Light (P : Program) (t : TypeId) (d : DataW H) : Prop := ∀ n ∈ d.weights P t, n ≤ reachBytes
theorem light_at {ts : List TypeId} {ds : List (DataW H)} (h : (DataW.weightsEach P ts ds).all (· ≤ reachBytes) = true) {j : Nat} {t : TypeId} {d : DataW H} (ht : ts[j]? = some t) (hd : ds[j]? = some d) : Light P t d := fun n hn => by
  have := List.all_eq_true.1 h _ (DataW.weights_mem_each ht hd n hn)
  simpa using this
theorem weightsAll_mem {e : TypeId} : ∀ {l : List (DataW H)} {d : DataW H}, d ∈ l → ∀ n ∈ d.weights P e, n ∈ DataW.weightsAll P e l
  | x :: l, d, h, n, hn => by
    simp only [DataW.weightsAll, List.mem_append]
    rcases List.mem_cons.1 h with rfl | h
    · exact .inl hn
    · exact .inr (weightsAll_mem h n hn)
  | [], _, h, _, _ => by cases h
theorem Light.field {t : TypeId} {fs : Array Field} {ds : List (DataW H)} (hu : P.underlying t = some (.struct fs)) (h : Light P t (.agg ds)) {j : Nat} {f : Field} {d : DataW H} (hf : fs[j]? = some f) (hd : ds[j]? = some d) : Light P f.type d := fun n hn => by
  refine h n ?_
  simp only [DataW.weights, hu]
  exact DataW.weights_mem_each (j := j) (by simp [hf]) hd n hn
theorem Light.elem {t e : TypeId} {es sp : List (DataW H)} (hu : P.underlying t = some (.slice e)) (h : Light P t (.slice es sp)) {d : DataW H} (hd : d ∈ es) : Light P e d := fun n hn => by
  refine h n ?_
  simp only [DataW.weights, hu, List.mem_cons, List.mem_append]
  exact .inr (.inl (weightsAll_mem hd n hn))
theorem Light.len {t e : TypeId} {es sp : List (DataW H)} (hu : P.underlying t = some (.slice e)) (h : Light P t (.slice es sp)) : es.length * P.bytesOf e ≤ 140737488351232 := by
  have := h ((es.length + sp.length) * P.bytesOf e) (by simp [DataW.weights, hu])
  have h2 : es.length * P.bytesOf e ≤ (es.length + sp.length) * P.bytesOf e := Nat.mul_le_mul_right _ (by omega)
  have h3 : reachBytes = 140737488351232 := rfl
  omega

/-- Cells that read as plain data, in a world at the beginning. -/
def Reads (W : World) (l : List AV) (cs : List Value) : Prop := cs.length = l.length ∧ ∀ (i : Nat) x, l[i]? = some x → x.one = true ∧ x.dat0 = true ∧ oneV (cs.getD i undef) = true ∧ VSim (gh0 W) x (cs.getD i undef)
theorem Reads.nil : Reads W [] [] := ⟨rfl, fun i x h => by simp at h⟩
theorem Reads.app {l m : List AV} {cs ds : List Value} (h : Reads W l cs) (h' : Reads W m ds) : Reads W (l ++ m) (cs ++ ds) := by
  refine ⟨by simp [h.1, h'.1], fun i x hx => ?_⟩
  rcases Nat.lt_or_ge i l.length with hi | hi
  · rw [List.getElem?_append_left hi] at hx
    have := h.2 i x hx
    rwa [List.getD_eq_getElem?_getD, List.getElem?_append_left (by rw [h.1]; exact hi), ← List.getD_eq_getElem?_getD]
  · rw [List.getElem?_append_right hi] at hx
    have := h'.2 _ x hx
    rwa [List.getD_eq_getElem?_getD, List.getElem?_append_right (by rw [h.1]; exact hi), h.1, ← List.getD_eq_getElem?_getD]
theorem Reads.s {v : Value} (h : oneV v = true) (hd : AV.dat0 (.s v) = true) : Reads W [.s v] [v] := ⟨rfl, fun i x hx => by
  cases i with
  | zero =>
    obtain rfl : AV.s v = x := by simpa using hx
    exact ⟨h, hd, h, .s v h⟩
  | succ i => simp at hx⟩
theorem Reads.agg {l : List AV} {cs : List Value} (h : Reads W l cs) : VSim (gh0 W) (.agg l) (.agg cs.toArray) :=
  .agg l _ (by simp [h.1]) (fun i x hx => (h.2 i x hx).1) (fun i x hx => by
    have := (h.2 i x hx).2.2.2
    rwa [show cs.toArray.getD i undef = cs.getD i undef by simp [Array.getD_eq_getD_getElem?]])
theorem Reads.one {x : AV} {v : Value} (h : Reads W [x] [v]) : VSim (gh0 W) x v := (h.2 0 x rfl).2.2.2

theorem trod_float' {w : World} {base : Nat} {sp : Nat → Bool} {held : Bool} {fuel : Nat} {t : TypeId} {k : FloatKind} {cs : List Value} {x : DataW H × List MemPlace} (ht : P.underlying t = some (.float k)) (h : DataW.trod enc P w base sp held fuel t cs = some x) : ∃ b, cs = [.float k b] ∧ x = (.lit (.float k b), []) ∧ (Lit.float k b).wf = true := by
  cases fuel with
  | zero => simp [DataW.trod] at h
  | succ n =>
    unfold DataW.trod at h
    rw [ht] at h
    split at h <;> simp_all
theorem trod_bool' {w : World} {base : Nat} {sp : Nat → Bool} {held : Bool} {fuel : Nat} {t : TypeId} {cs : List Value} {x : DataW H × List MemPlace} (ht : P.underlying t = some .bool) (h : DataW.trod enc P w base sp held fuel t cs = some x) : ∃ b, cs = [.bool b] ∧ x = (.lit (.bool b), []) := by
  cases fuel with
  | zero => simp [DataW.trod] at h
  | succ n =>
    unfold DataW.trod at h
    rw [ht] at h
    split at h <;> simp_all
theorem addr_add (a : Addr) (m k : Nat) : (a.add m).add k = a.add (m + k) := by
  by_cases hm : m = 0
  · subst hm
    simp [Addr.add]
  · by_cases hk : k = 0
    · subst hk
      simp [Addr.add, hm]
    · simp [Addr.add, hm, hk, Nat.add_assoc]
theorem addr_none {a : Addr} (h : a.spot = none) {j : Nat} : (⟨a.block, a.off + j, none⟩ : Addr) = a.add j := by
  unfold Addr.add
  split
  · rename_i h0
    subst h0
    cases a
    cases h
    rfl
  · rfl
/-- A slice that came in: a list of what its elements are. -/
theorem open_slice_gen {α : Type} (E : α → List AV) (Good : α → Prop) {sz : Nat} {t e : TypeId} {n : Nat} {cs : List Value} {y : DataW H × List MemPlace} (ht : P.underlying t = some (.slice e)) (hs : P.cellsOf e = sz) (h0 : 0 < sz) (hby : 0 < P.bytesOf e) (hE : ∀ x, (E x).length = sz)
    (ih : ∀ m cs' y', m < n → DataW.trod enc P W 0 (fun _ => true) true m e cs' = some y' → Light P e y'.1 → ∃ x, Good x ∧ Reads W (E x) cs')
    (h : DataW.trod enc P W 0 (fun _ => true) true n t cs = some y) (hl : Light P t y.1) :
    ∃ l : List α, (∀ x ∈ l, Good x) ∧ l.length * P.bytesOf e ≤ 140737488351232 ∧ l.length ≤ 140737488355328 ∧ Reads W [.sl false .none (l.map E)] cs := by
  rcases DataW.trod_slice ht h with ⟨rfl, rfl⟩ | ⟨a, len, cap, elems, rest, m, hn, rfl, rfl, hb, hlc, hm, hlen, hel, hsp, hns⟩
  · refine ⟨[], by simp, by simp, by simp, rfl, fun i x hx => ?_⟩
    cases i with
    | zero =>
      obtain rfl : AV.sl false .none [] = x := by simpa using hx
      exact ⟨rfl, rfl, rfl, .sl false .none [] none 0 0 (fun _ => undef) (Nat.le_refl _) (Nat.zero_le _) (fun e he => by cases he) (fun j x hx => by simp at hx) (fun h => absurd rfl h) (fun j x hx => by simp at hx) trivial⟩
    | succ i => simp at hx
  · have each : ∀ i, i < len → ∃ x : α, ∃ cs', Good x ∧ W.cells? 0 (a.add (i * sz)) sz = some cs' ∧ Reads W (E x) cs' := by
      intro i hi
      have hx : elems[i]? = some elems[i] := List.getElem?_eq_getElem (by omega)
      have := hel i hi
      rw [hx, hs, Option.bind_eq_some_iff] at this
      obtain ⟨cs', q1, q2⟩ := this
      obtain ⟨x, r1, r2⟩ := ih m cs' _ (by omega) q2 (hl.elem ht (by
        simp only [List.mem_map]
        exact ⟨_, List.getElem_mem (by omega), rfl⟩))
      exact ⟨x, cs', r1, q1, r2⟩
    obtain ⟨l, hll, hlx⟩ : ∃ l : List α, l.length = len ∧ ∀ (i : Nat) x, l[i]? = some x → Good x ∧ ∃ cs', W.cells? 0 (a.add (i * sz)) sz = some cs' ∧ Reads W (E x) cs' := by
      clear hel hl h hsp hns ih hlen hlc
      induction len with
      | zero => exact ⟨[], rfl, fun i x hx => by simp at hx⟩
      | succ k ihk =>
        obtain ⟨l, q1, q2⟩ := ihk (fun i hi => each i (by omega))
        obtain ⟨x, cs', r1, r2, r3⟩ := each k (by omega)
        refine ⟨l ++ [x], by simp [q1], fun i z hz => ?_⟩
        rcases Nat.lt_or_ge i l.length with hi | hi
        · rw [List.getElem?_append_left hi] at hz
          exact q2 i z hz
        · rw [List.getElem?_append_right hi] at hz
          have h0 : i - l.length = 0 := by
            rcases Nat.eq_zero_or_pos (i - l.length) with h | h
            · exact h
            · obtain ⟨j, hj⟩ : ∃ j, i - l.length = j + 1 := ⟨i - l.length - 1, by omega⟩
              rw [hj] at hz; simp at hz
          rw [h0] at hz
          obtain rfl : x = z := by simpa using hz
          obtain rfl : i = k := by omega
          exact ⟨r1, cs', r2, r3⟩
    have hlb := hl.len ht
    rw [List.length_map, hlen] at hlb
    have hlen2 : len ≤ 140737488355328 := by
      have : len * 1 ≤ len * P.bytesOf e := Nat.mul_le_mul_left _ hby
      omega
    refine ⟨l, fun x hx => by obtain ⟨i, hi⟩ := List.getElem?_of_mem hx; exact (hlx i x hi).1, by rw [hll]; exact hlb, by omega, rfl, fun i x hx => ?_⟩
    cases i with
    | succ i => simp at hx
    | zero =>
      obtain rfl : AV.sl false .none (l.map E) = x := by simpa using hx
      have flat : ∀ (j : Nat) (x : AV), (l.map E).flatten[j]? = some x → x.one = true ∧ x.dat0 = true ∧ ∃ v, W.cell? (a.add j) = some v ∧ oneV v = true ∧ VSim (gh0 W) x v := by
        intro j x hj
        have hfl : ∀ (l : List α) (j : Nat), (l.map E).flatten[j]? = (l[j / sz]?).bind fun z => (E z)[j % sz]? := by
          intro l
          induction l with
          | nil => intro j; simp
          | cons z l ih2 =>
            intro j
            simp only [List.map_cons, List.flatten_cons]
            rcases Nat.lt_or_ge j sz with hj | hj
            · rw [List.getElem?_append_left (by rw [hE]; exact hj), Nat.div_eq_of_lt hj, Nat.mod_eq_of_lt hj]
              rfl
            · rw [List.getElem?_append_right (by rw [hE]; exact hj), hE, ih2]
              obtain ⟨k, rfl⟩ : ∃ k, j = k + sz := ⟨j - sz, by omega⟩
              rw [Nat.add_sub_cancel, Nat.add_div_right _ h0, Nat.add_mod_right]
              rfl
        rw [hfl, Option.bind_eq_some_iff] at hj
        obtain ⟨z, hz, hx⟩ := hj
        obtain ⟨_, cs', c1, c2⟩ := hlx _ _ hz
        obtain ⟨d1, d2, d3⟩ := World.cells?_some c1
        have hlt : j % sz < sz := Nat.mod_lt _ h0
        obtain ⟨e1, e2, e3, e4⟩ := c2.2 _ _ hx
        have d4 := d3 _ hlt
        have hlt' : j % sz < cs'.length := by omega
        rw [List.getElem?_eq_getElem hlt'] at d4
        rw [List.getD_eq_getElem?_getD, List.getElem?_eq_getElem hlt'] at e3 e4
        simp only [Option.getD_some] at e3 e4
        refine ⟨e1, e2, _, ?_, e3, e4⟩
        have e0 := Nat.div_add_mod j sz
        rw [Nat.mul_comm] at e0
        rw [← d4, addr_add, e0]
      have hvs : ∃ vs : Nat → Value, ∀ (j : Nat) x, (l.map E).flatten[j]? = some x → W.cell? (a.add j) = some (vs j) ∧ oneV (vs j) = true ∧ VSim (gh0 W) x (vs j) := by
        refine ⟨fun j => (W.cell? (a.add j)).getD undef, fun j x hx => ?_⟩
        obtain ⟨_, _, v, q1, q2, q3⟩ := flat j x hx
        simp only [q1]
        exact ⟨rfl, q2, q3⟩
      obtain ⟨vs, hvs⟩ := hvs
      have hml : len = (l.map E).length := by simp [hll]
      refine ⟨rfl, rfl, rfl, ?_⟩
      show VSim (gh0 W) _ (.slice (some a) len cap)
      rw [hml]
      refine .sl false .none (l.map E) (some a) cap sz vs (by simp [hll, hlc]) (by simp [hll]; omega) (fun e he => by obtain ⟨z, _, rfl⟩ := List.mem_map.1 he; exact hE z) (fun j x hx => ⟨(flat j x hx).1, (flat j x hx).2.1⟩) (fun hne => ?_) (fun j x hx => (hvs j x hx).2.2) trivial
      obtain ⟨x, hx⟩ : ∃ x, (l.map E).flatten[0]? = some x := by
        cases hf : (l.map E).flatten with
        | nil => exact absurd hf hne
        | cons x r => exact ⟨x, rfl⟩
      have hsp : a.spot = none := by
        have := (hvs 0 x hx).1
        unfold World.cell? at this
        split at this
        · cases hq : a.spot with
          | none => rfl
          | some s => simp [Addr.add, hq] at this
        · cases this
      refine ⟨a.block, a.off, by cases a; cases hsp; rfl, fun h => (by cases h), fun j x hx => ?_⟩
      obtain ⟨q1, q2, q3⟩ := hvs j x hx
      rw [gh0_K]
      refine ⟨?_, q2⟩
      rw [← q1]
      congr 1
      exact addr_none hsp
end
end Go.Proofs.Ytphnhfhdjfkkpaa
/- The arguments of layer 10's laws, in plain data. -/
set_option linter.unusedVariables false
set_option linter.unusedSimpArgs false
namespace Go.Proofs.Ytphnhfhdjfkkpaa
open Go.ChangeShapes Go.WideShapes Go.ChangeAt Go.RowKit
section
variable {H : Type} {enc : TypeId × Value → H} {W : World}
theorem open_byte10 {m : Nat} {cs : List Value} {y : DataW H × List MemPlace} (h : DataW.trod enc Try.prog W 0 (fun _ => true) true m 5 cs = some y) : ∃ c : UInt8, True ∧ Reads W [.s (.int .u8 c.toNat)] cs := by
  obtain ⟨k, e0, _, w0⟩ := DataW.trod_int Try.underlying5 h
  subst e0
  have hk : 0 ≤ k ∧ k < 256 := by
    simp [Lit.wf, IntKind.min, IntKind.max, IntKind.signed, IntKind.bits] at w0
    omega
  refine ⟨UInt8.ofNat k.toNat, trivial, ?_⟩
  have : ((UInt8.ofNat k.toNat).toNat : Int) = k := by simp; omega
  rw [this]
  exact .s rfl rfl
theorem open_byteS10 {A : Option Addr} {len cap : Nat} {d : DataW H} {p : List MemPlace} (h : DataW.Trod enc Try.prog W 0 (fun _ => true) true 22 (.slice A len cap) d p) (hl : Light Try.prog 22 d) : ∃ l : List UInt8, l.length ≤ 140737488351232 ∧ VSim (gh0 W) (.sl false .none (encB l)) (.slice A len cap) := by
  obtain ⟨n, hn⟩ := h
  obtain ⟨l, _, q2, _, q3⟩ := open_slice_gen (fun c : UInt8 => [AV.s (.int .u8 c.toNat)]) (fun _ => True) Try.underlying22 (by kernel_rfl : Try.prog.cellsOf 5 = 1) (by decide) (by rw [show Try.prog.bytesOf 5 = 1 by kernel_rfl]; decide) (fun _ => rfl)
    (fun m' cs' y' hm h' hl' => open_byte10 h') hn hl
  rw [show Try.prog.bytesOf 5 = 1 by kernel_rfl] at q2
  exact ⟨l, by omega, Reads.one q3⟩
end
end Go.Proofs.Ytphnhfhdjfkkpaa
/- Laws of layer 10: bytes that come again and again. -/
set_option linter.unusedVariables false
set_option linter.unusedSimpArgs false
namespace Go.Proofs.Ytphnhfhdjfkkpaa
open Go.RowKit
attribute [local go_sem] normK_app aopsK_app atSt_app ofK_app stK_app extK_val panicK_app thenA_normal thenA_exit thenA_ret thenA_panic blockK_normal blockK_exit blockK_ret blockK_panic callK_ret callK_panic awp_skip awp_region awp_draw awp_seq awp_cond acond_true acond_false dstAt_zero dstAt_succ guardV_some aops_guard_eq aguard_true aguard_true' aguard_false aguard_false' aguard_und ogF_und ogS_und ord_guard ogF_tt ogF_ft ogF_tf ogF_ff ogS_tt ogS_ff ogS_ft ogS_tf awp_block awp_loop awp_exit awp_ret awp_label awp_scope aops_nil aops_plain exec_move exec_assign exec_pick exec_alloc pick_true pick_false free_pick fpick_true fpick_false exec_box exec_build exec_buildSlice exec_load exec_store exec_nilCheck exec_binOp abinK_some exec_unOp aunK_some exec_convert conv_s exec_makeInterface exec_makeFunc exec_slice exec_fieldAddr exec_field exec_indexAddr exec_index exec_extract exec_call exec_panic call_value call_builtin alitsK_some acallB_true acallB_false callF_fn bi_len eval_tmp eval_const eval_func look_cons look_nil put_some put_none ofV_int ofV_bool ofV_float ofV_string ofV_slice ofV_ptr ofV_map ofV_agg ofV_tup lit_s box_eq box_var get_here get_here0 set_here set_here0 number_nil number_cons retK_ret retK_normal retK_panic ends1 ends2 ends3 ends0 retOne_app endsC TRun AV.lits AV.lit0 aordF_app aordS_not aordS_late ord_nil ord_free ord_solo freeK_app free_move free_assign free_build free_buildSlice free_load free_nilCheck free_binOp free_unOp free_convert free_makeInterface free_makeFunc free_slice free_fieldAddr free_field free_indexAddr free_index free_extract free_len free_call freeF_fn agives_false roundK_normal roundK_exit roundK_ret roundK_panic roundC_normal roundC_exit roundC_ret roundC_panic sub_nil sub_cons aalloc abox aiface afield aindex aextract alen abuild abuildSlice afill afillS splice Tag.calm oneV AV.forget AV.forget1 one_any dat0_any known_any cells_any forget0_any one_s dat0_s known_s cells_s forget0_s one_agg dat0_agg known_agg cells_agg forget0_agg one_tup dat0_tup known_tup cells_tup forget0_tup one_bp dat0_bp known_bp cells_bp forget0_bp one_rp dat0_rp known_rp cells_rp forget0_rp one_sl dat0_sl known_sl cells_sl forget0_sl one_fn dat0_fn known_fn cells_fn forget0_fn one_ifc dat0_ifc known_ifc cells_ifc forget0_ifc okCells_nil okCells_cons load_rpA load_rp1 loadB_some load_bpA load1_some at1_some load_bp1 storeB_some store_bp fieldAddr_bp fieldAddr_rp idxE_some index_sl index_arr nil_bp nil_rp nil_fn bi_append appB_sl appB_str aappend one_mp dat0_mp known_mp cells_mp forget0_mp exec_makeMap exec_lookup exec_mapUpdate withOk_true withOk_false exec_mapEntry exec_entryStore exec_arrAt exec_makeSlice arrAt_sl ty2 ty3 ty4 ty5 ty6 ty7 ty8 ty9 ty10 ty11 ty12 ty13 ty14 ty15 ty16 ty17 ty18 ty19 ty20 ty21 ty22 ty23 ty31 ty32 ty33 ty35 ty37 ty38 ty41 ty53 ty56 ty57 ty62 ty63 ty64 ty66 ty67 ty68 ty69 ty70 ty71 hb0 hb1 hb2 hb3 hb4 hb5 hb6 hb7 hb8 hb9 hb10 hb11 hb12 hb13 hb14 hb15 hb16 hb17 hb18 hb19 hb20 hb21 hb22 hb23 hb24 hb25 hb26 hb27 hb28 hb29 hb30 hb31 hb32 hb33 hb34 hb35 hb36 hb37 hb38 hb39 hb40 hb41 hb42 hb43 hb44
set_option maxRecDepth 20000
theorem g_Few (n p : Nat) (hn : n ≤ 2048) (hp : p ≤ n) : Gives Try.prog 13 [.s (.int .i64 (n : Int)), .s (.int .i64 (p : Int))] (.s (.int .i64 ((p + p / 8 + (n - p) / 32 + 16 : Nat) : Int))) := by
  intro st
  refine enter Try.func13 rfl Try.ntmps13 Try.results13 (by simp) ?_
  go_simp
  have E : IntKind.i64.wrap (IntKind.i64.wrap (IntKind.i64.wrap ((p : Int) + IntKind.i64.wrap ((p : Int) / 8)) + IntKind.i64.wrap ((IntKind.i64.wrap ((n : Int) - (p : Int))).tdiv 32)) + 16) = ((p + p / 8 + (n - p) / 32 + 16 : Nat) : Int) := by
    rw [IntWalk.i64_in ((p : Int) / 8) (by omega), IntWalk.i64_in ((n : Int) - (p : Int)) (by omega), Int.tdiv_eq_ediv_of_nonneg (by omega), IntWalk.i64_in (((n : Int) - (p : Int)) / 32) (by omega), IntWalk.i64_in ((p : Int) + (p : Int) / 8) (by omega), IntWalk.i64_in ((p : Int) + (p : Int) / 8 + ((n : Int) - (p : Int)) / 32) (by omega), IntWalk.i64_in ((p : Int) + (p : Int) / 8 + ((n : Int) - (p : Int)) / 32 + 16) (by omega)]
    omega
  rw [E]
  exact end_pure0 rfl (.s _)
/-- A piece, again and again. -/
def reps (l : List UInt8) (n : Nat) : List UInt8 := (List.range n).map fun i => l.getD (i % l.length) 0
theorem reps_len (l : List UInt8) (n : Nat) : (reps l n).length = n := by simp [reps]
theorem reps_at (l : List UInt8) (n i : Nat) (h : i < n) : (reps l n)[i]? = some (l.getD (i % l.length) 0) := by simp [reps, h]
theorem reps_per (l : List UInt8) (n : Nat) : Per (reps l n) l.length := fun i h1 h2 => by
  rw [reps_len] at h2
  rw [reps_at _ _ _ h2, reps_at _ _ _ (by omega)]
  have : i % l.length = (i - l.length) % l.length := Nat.mod_eq_sub_mod h1
  rw [this]
theorem u_Pack {W : World} {A : Option Addr} {p : List UInt8} {n c : Nat} (h : Bn W A p) (hn : p.length = n) (hc : n ≤ c) (hm : n ≤ 140737488355328) : Calls Try.prog 9 #[.slice A n c] W fun e W' => Kept W W' ∧ ∃ B d, e = .returned (.tuple #[.slice B (pack p).1.length d, .int .i64 (pack p).2]) ∧ On W W' B (pack p).1 d := by
  subst hn
  refine ((g_Pack p false).callsN trivial (.cons (h.sim hc hm _ rfl) .nil)).mono ?_
  rintro e W' ⟨hk, x, K', rfl, h1, h2, h3⟩
  obtain ⟨u, v, rfl, h4, h5⟩ := vsim_two h3
  obtain ⟨B, d, rfl, h6⟩ := On.of h1 h2 h4
  cases h5
  exact ⟨hk, B, d, rfl, h6⟩
theorem u_same2 {W : World} {A B : Option Addr} {p : List UInt8} {n c d : Nat} (h : Bn W A p) (hc : n ≤ c) (h' : Bn W B p) (hd : n ≤ d) (hn : p.length = n) (hm : n ≤ 140737488355328) : Calls Try.prog 12 #[.slice A n c, .slice B n d] W fun e W' => e = .returned (.bool true) ∧ Kept W W' := by
  subst hn
  exact u_same h hc h' hd hm
set_option maxHeartbeats 4000000 in
theorem l_BlockShort {A : Option Addr} {c : Nat} {l : List UInt8} {n : Int} {w : World} (h : Bn w A l) (hc : l.length ≤ c) (hm : l.length ≤ 140737488351232) (hn : -9223372036854775808 ≤ n ∧ n ≤ 9223372036854775807) : Calls Try.prog 5 #[.slice A l.length c, .int .i64 n] w fun e w' => e = .returned (.bool true) ∧ Kept w w' := by
  by_cases h0 : l.length = 0
  · have b0 : ((l.length : Int) == 0) = true := by simpa using h0
    go_enter Try.func5, Try.ntmps5
    go_wp2_with fail
    refine u_live.mono ?_
    rintro e w1 ⟨rfl, k1⟩
    go_wp2_with fail
    go_ret
    exact ⟨rfl, k1⟩
  have b0 : ((l.length : Int) == 0) = false := by simpa using h0
  by_cases h1 : 1024 < l.length
  · have b1 : decide ((1024 : Int) < (l.length : Int)) = true := by rw [decide_eq_true_eq]; omega
    go_enter Try.func5, Try.ntmps5
    go_wp2_with fail
    refine u_live.mono ?_
    rintro e w1 ⟨rfl, k1⟩
    go_wp2_with fail
    go_ret
    exact ⟨rfl, k1⟩
  have b1 : decide ((1024 : Int) < (l.length : Int)) = false := by rw [decide_eq_false_iff_not]; omega
  by_cases h2 : n < l.length
  · have b2 : decide (n < (l.length : Int)) = true := by rw [decide_eq_true_eq]; omega
    go_enter Try.func5, Try.ntmps5
    go_wp2_with fail
    refine u_live.mono ?_
    rintro e w1 ⟨rfl, k1⟩
    go_wp2_with fail
    go_ret
    exact ⟨rfl, k1⟩
  have b2 : decide (n < (l.length : Int)) = false := by rw [decide_eq_false_iff_not]; omega
  by_cases h3 : 2048 < n
  · have b3 : decide ((2048 : Int) < n) = true := by rw [decide_eq_true_eq]; omega
    go_enter Try.func5, Try.ntmps5
    go_wp2_with fail
    refine u_live.mono ?_
    rintro e w1 ⟨rfl, k1⟩
    go_wp2_with fail
    go_ret
    exact ⟨rfl, k1⟩
  have b3 : decide ((2048 : Int) < n) = false := by rw [decide_eq_false_iff_not]; omega
  obtain ⟨m, rfl⟩ : ∃ m : Nat, n = m := ⟨n.toNat, by omega⟩
  obtain ⟨ii, hi, hz0, hz1, hz2⟩ := info_parts (by kernel_rfl : (Try.prog.info? 5).map (fun i => (i.zero, i.size, i.bytes)) = some (some (.int .u8 0), 1, 1))
  go_enter Try.func5, Try.ntmps5
  go_wp2_with (at_make; refine wpList_make_full _ rfl _ _ _ rfl w.heap.size 5 ii (.int .u8 0) 1 Try.underlying22 hi hz0 hz1 _ _ _ _ m rfl rfl rfl rfl (by rw [hz2]; omega) (by unfold maxLen; omega) (Nat.le_refl _) ?_; intro w1 hown1 hg1)
  have k1 : Kept w w1 := (Kept.refl w).grown hg1 (fun k e => by cases e)
  go_loopw [6] (fun u wr => ∃ (j : Nat) (xs : List Value), u = .int .i64 j ∧ j ≤ m ∧ wr.ownsRow w.heap.size 5 1 (.slice (some ⟨w.heap.size, 0, none⟩) m m) m xs ∧ Hid (∀ i, i < j → xs[i]? = (cellsB (reps l m))[i]?) ∧ Bn wr A l ∧ Kept w wr) (fun u _ => m - (intOf u).toNat)
  case atStart => exact ⟨0, _, rfl, Nat.zero_le _, hown1, Lib.hid (fun i h => absurd h (by omega)), h.kept k1, k1⟩
  case round =>
    obtain ⟨j, xs, rfl, hj, hown, HE, hA, hk⟩ := hrel
    by_cases hlt : j < m
    · have hxl : xs.length = m := by simpa using hown.1
      have hl0 : 0 < l.length := by omega
      obtain ⟨b, o, rfl, hcell⟩ := hA hl0
      have hmod : j % l.length < l.length := Nat.mod_lt _ hl0
      have hcm := hcell _ hmod
      have hc1 : wr.cell? ⟨w.heap.size, j, none⟩ = some (xs[j]'(by omega)) := by rw [hown.cellAt j (by omega)]; exact List.getElem?_eq_getElem (by omega)
      have hf1 := hown.frozenAt j
      have i0 : (0 : Int) ≤ (j : Int) := by omega
      have i1 : (j : Int) < (m : Int) := by omega
      have em : Int.tmod (j : Int) (l.length : Int) = ((j % l.length : Nat) : Int) := by rw [Int.tmod_eq_emod_of_nonneg (by omega)]; rfl
      have em0 : (0 : Int) ≤ ((j % l.length : Nat) : Int) := by omega
      have em1 : ((j % l.length : Nat) : Int) < (l.length : Int) := by omega
      have hlt0 := h.lt rfl hl0
      have hs1 := (hown.stored j (.int .u8 ((l[j % l.length]'hmod).toNat : Int))).1
      have hA2 := hA.setCell (a := ⟨w.heap.size, j, none⟩) (v := .int .u8 ((l[j % l.length]'hmod).toNat : Int)) (fun b' o' e _ => by cases e; show b ≠ w.heap.size; omega)
      have hk2 := hk.setCell (p := ⟨w.heap.size, j, none⟩) (Nat.le_refl _) (.int .u8 ((l[j % l.length]'hmod).toNat : Int))
      have HE2 : Hid (∀ i, i < j + 1 → (xs.set j (.int .u8 ((l[j % l.length]'hmod).toNat : Int)))[i]? = (cellsB (reps l m))[i]?) := Lib.hid fun i hi' => by
        by_cases e : i = j
        · subst e
          rw [List.getElem?_set_self (by omega), cellsB_get _ _ (by rw [reps_len]; exact hlt)]
          have := reps_at l m i hlt
          rw [List.getD_eq_getElem?_getD, this]
          simp [List.getD_eq_getElem?_getD, hmod]
        · rw [List.getElem?_set_ne (Ne.symm e)]
          exact HE.out i (by omega)
      go_wp2_with fail
      go_roundw
      case rel => exact ⟨j + 1, _, by go_num, by omega, hs1, HE2, hA2, hk2⟩
      case measure => simp [intOf]; omega
    · obtain rfl : j = m := by omega
      have hxl : xs.length = j := by simpa using hown.1
      have hxs : xs = cellsB (reps l j) := List.ext_getElem? fun i => by
        by_cases hi' : i < j
        · exact HE.out i hi'
        · rw [List.getElem?_eq_none (by omega), List.getElem?_eq_none (by rw [cellsB]; simp [reps_len]; omega)]
      subst hxs
      have hB : Bn wr (some ⟨w.heap.size, 0, none⟩) (reps l j) := Bn.own hown
      obtain ⟨q1, q2, q3⟩ := pack_back (b := reps l j) (by rw [reps_len]; omega)
      have q4 := pack_short (reps_per l j) (by omega) (by omega) (by rw [reps_len]; omega) (by rw [reps_len]; omega)
      rw [reps_len] at q3 q4
      have cP := fun {W : World} (hb : Bn W (some ⟨w.heap.size, 0, none⟩) (reps l j)) => u_Pack hb (reps_len l j) (Nat.le_refl _) (by omega)
      generalize pack (reps l j) = q at *
      obtain ⟨qb, qe⟩ := q
      dsimp only at q1 q2 q3 q4 cP
      subst q1
      have hqm : qb.length ≤ 140737488355328 := by omega
      have b9 : decide ((qb.length : Int) ≤ (l.length : Int) + (l.length : Int) / 8 + ((j - l.length : Nat) : Int) / 32 + 16) = true := by rw [decide_eq_true_eq]; omega
      clear q3 q4 HE
      go_wp2_with fail
      refine (cP hB).mono ?_
      rintro e w2 ⟨k2, C, d, rfl, hC⟩
      go_wp2_with fail
      refine ((g_Few j l.length (by omega) (by omega)).calls trivial (.cons (.s _ rfl) (.cons (.s _ rfl) .nil))).mono ?_
      rintro e w3 ⟨rfl, k3⟩
      go_wp2_with fail
      have cU := u_Unpack (hC.bn.kept k3) hC.cap hqm
      rw [q2] at cU
      dsimp only at cU
      rw [reps_len] at cU
      refine cU.mono ?_
      rintro e w4 ⟨k4, D, f, rfl, hD⟩
      have hDc := hD.cap
      rw [reps_len] at hDc
      go_wp2_with fail
      refine u_live.mono ?_
      rintro e w5 ⟨rfl, k5⟩
      go_wp2_with fail
      refine (u_same2 (hD.bn.kept k5) hDc ((((hB.kept k2).kept k3).kept k4).kept k5) (Nat.le_refl _) (reps_len l j) (by omega)).mono ?_
      rintro e w6 ⟨rfl, k6⟩
      go_wp2_with fail
      go_ret
      exact ⟨rfl, ((((hk.trans k2).trans k3).trans k4).trans k5).trans k6⟩
end Go.Proofs.Ytphnhfhdjfkkpaa
