/- Merged: OpenGen, AOpen, TFit, AOpenS, AOpenR, AOpenB, AOp11. -/
import Derived.Test.YtfheoidnahhnlaaGreatDoorZ46
import Derived.ProofKit
import Derived.OpenShut
import Derived.SizedLaws
import Derived.Laws.Cover2
import Derived.Test.YtfheoidnahhnlaaGreatDoorRows
set_option linter.unusedVariables false
set_option linter.unusedSimpArgs false
namespace Go.Proofs.YtfheoidnahhnlaaGreatDoor
open Go.ChangeShapes Go.WideShapes Go.ChangeAt Go.RowKit
section
variable {H : Type} {enc : TypeId × Value → H} {W : World} {P : Program}
def Light (P : Program) (t : TypeId) (d : DataW H) : Prop := ∀ n ∈ d.weights P t, n ≤ reachBytes
theorem light_at {ts : List TypeId} {ds : List (DataW H)} (h : (DataW.weightsEach P ts ds).all (· ≤ reachBytes) = true) {j : Nat} {t : TypeId} {d : DataW H} (ht : ts[j]? = some t) (hd : ds[j]? = some d) : Light P t d := fun n hn => by
  have := List.all_eq_true.1 h _ (DataW.weights_mem_each ht hd n hn)
  simpa using this
theorem weightsAll_mem {e : TypeId} : ∀ {l : List (DataW H)} {d : DataW H}, d ∈ l → ∀ n ∈ d.weights P e, n ∈ DataW.weightsAll P e l
  | x :: l, d, h, n, hn => by
    simp only [DataW.weightsAll, List.mem_append]
    rcases List.mem_cons.1 h with rfl | h
    · exact .inl hn
    · exact .inr (weightsAll_mem h n hn)
  | [], _, h, _, _ => by cases h
theorem Light.field {t : TypeId} {fs : Array Field} {ds : List (DataW H)} (hu : P.underlying t = some (.struct fs)) (h : Light P t (.agg ds)) {j : Nat} {f : Field} {d : DataW H} (hf : fs[j]? = some f) (hd : ds[j]? = some d) : Light P f.type d := fun n hn => by
  refine h n ?_
  simp only [DataW.weights, hu]
  exact DataW.weights_mem_each (j := j) (by simp [hf]) hd n hn
theorem Light.elem {t e : TypeId} {es sp : List (DataW H)} (hu : P.underlying t = some (.slice e)) (h : Light P t (.slice es sp)) {d : DataW H} (hd : d ∈ es) : Light P e d := fun n hn => by
  refine h n ?_
  simp only [DataW.weights, hu, List.mem_cons, List.mem_append]
  exact .inr (.inl (weightsAll_mem hd n hn))
theorem Light.len {t e : TypeId} {es sp : List (DataW H)} (hu : P.underlying t = some (.slice e)) (h : Light P t (.slice es sp)) : es.length * P.bytesOf e ≤ 140737488351232 := by
  have := h ((es.length + sp.length) * P.bytesOf e) (by simp [DataW.weights, hu])
  have h2 : es.length * P.bytesOf e ≤ (es.length + sp.length) * P.bytesOf e := Nat.mul_le_mul_right _ (by omega)
  have h3 : reachBytes = 140737488351232 := rfl
  omega
def Reads (W : World) (l : List AV) (cs : List Value) : Prop := cs.length = l.length ∧ ∀ (i : Nat) x, l[i]? = some x → x.one = true ∧ x.dat0 = true ∧ oneV (cs.getD i undef) = true ∧ VSim (gh0 W) x (cs.getD i undef)
theorem Reads.nil : Reads W [] [] := ⟨rfl, fun i x h => by simp at h⟩
theorem Reads.app {l m : List AV} {cs ds : List Value} (h : Reads W l cs) (h' : Reads W m ds) : Reads W (l ++ m) (cs ++ ds) := by
  refine ⟨by simp [h.1, h'.1], fun i x hx => ?_⟩
  rcases Nat.lt_or_ge i l.length with hi | hi
  · rw [List.getElem?_append_left hi] at hx
    have := h.2 i x hx
    rwa [List.getD_eq_getElem?_getD, List.getElem?_append_left (by rw [h.1]; exact hi), ← List.getD_eq_getElem?_getD]
  · rw [List.getElem?_append_right hi] at hx
    have := h'.2 _ x hx
    rwa [List.getD_eq_getElem?_getD, List.getElem?_append_right (by rw [h.1]; exact hi), h.1, ← List.getD_eq_getElem?_getD]
theorem Reads.s {v : Value} (h : oneV v = true) (hd : AV.dat0 (.s v) = true) : Reads W [.s v] [v] := ⟨rfl, fun i x hx => by
  cases i with
  | zero =>
    obtain rfl : AV.s v = x := by simpa using hx
    exact ⟨h, hd, h, .s v h⟩
  | succ i => simp at hx⟩
theorem Reads.agg {l : List AV} {cs : List Value} (h : Reads W l cs) : VSim (gh0 W) (.agg l) (.agg cs.toArray) :=
  .agg l _ (by simp [h.1]) (fun i x hx => (h.2 i x hx).1) (fun i x hx => by
    have := (h.2 i x hx).2.2.2
    rwa [show cs.toArray.getD i undef = cs.getD i undef by simp [Array.getD_eq_getD_getElem?]])
theorem Reads.one {x : AV} {v : Value} (h : Reads W [x] [v]) : VSim (gh0 W) x v := (h.2 0 x rfl).2.2.2
theorem trod_float' {w : World} {base : Nat} {sp : Nat → Bool} {held : Bool} {fuel : Nat} {t : TypeId} {k : FloatKind} {cs : List Value} {x : DataW H × List MemPlace} (ht : P.underlying t = some (.float k)) (h : DataW.trod enc P w base sp held fuel t cs = some x) : ∃ b, cs = [.float k b] ∧ x = (.lit (.float k b), []) ∧ (Lit.float k b).wf = true := by
  cases fuel with
  | zero => simp [DataW.trod] at h
  | succ n =>
    unfold DataW.trod at h
    rw [ht] at h
    split at h <;> simp_all
theorem trod_bool' {w : World} {base : Nat} {sp : Nat → Bool} {held : Bool} {fuel : Nat} {t : TypeId} {cs : List Value} {x : DataW H × List MemPlace} (ht : P.underlying t = some .bool) (h : DataW.trod enc P w base sp held fuel t cs = some x) : ∃ b, cs = [.bool b] ∧ x = (.lit (.bool b), []) := by
  cases fuel with
  | zero => simp [DataW.trod] at h
  | succ n =>
    unfold DataW.trod at h
    rw [ht] at h
    split at h <;> simp_all
theorem addr_add (a : Addr) (m k : Nat) : (a.add m).add k = a.add (m + k) := by
  by_cases hm : m = 0
  · subst hm
    simp [Addr.add]
  · by_cases hk : k = 0
    · subst hk
      simp [Addr.add, hm]
    · simp [Addr.add, hm, hk, Nat.add_assoc]
theorem addr_none {a : Addr} (h : a.spot = none) {j : Nat} : (⟨a.block, a.off + j, none⟩ : Addr) = a.add j := by
  unfold Addr.add
  split
  · rename_i h0
    subst h0
    cases a
    cases h
    rfl
  · rfl
theorem open_slice_gen {α : Type} (E : α → List AV) (Good : α → Prop) {sz : Nat} {t e : TypeId} {n : Nat} {cs : List Value} {y : DataW H × List MemPlace} (ht : P.underlying t = some (.slice e)) (hs : P.cellsOf e = sz) (h0 : 0 < sz) (hby : 0 < P.bytesOf e) (hE : ∀ x, (E x).length = sz)
    (ih : ∀ m cs' y', m < n → DataW.trod enc P W 0 (fun _ => true) true m e cs' = some y' → Light P e y'.1 → ∃ x, Good x ∧ Reads W (E x) cs')
    (h : DataW.trod enc P W 0 (fun _ => true) true n t cs = some y) (hl : Light P t y.1) :
    ∃ l : List α, (∀ x ∈ l, Good x) ∧ l.length * P.bytesOf e ≤ 140737488351232 ∧ l.length ≤ 140737488355328 ∧ Reads W [.sl false .none (l.map E)] cs := by
  rcases DataW.trod_slice ht h with ⟨rfl, rfl⟩ | ⟨a, len, cap, elems, rest, m, hn, rfl, rfl, hb, hlc, hm, hlen, hel, hsp, hns⟩
  · refine ⟨[], by simp, by simp, by simp, rfl, fun i x hx => ?_⟩
    cases i with
    | zero =>
      obtain rfl : AV.sl false .none [] = x := by simpa using hx
      exact ⟨rfl, rfl, rfl, .sl false .none [] none 0 0 (fun _ => undef) (Nat.le_refl _) (Nat.zero_le _) (fun e he => by cases he) (fun j x hx => by simp at hx) (fun h => absurd rfl h) (fun j x hx => by simp at hx) trivial⟩
    | succ i => simp at hx
  · have each : ∀ i, i < len → ∃ x : α, ∃ cs', Good x ∧ W.cells? 0 (a.add (i * sz)) sz = some cs' ∧ Reads W (E x) cs' := by
      intro i hi
      have hx : elems[i]? = some elems[i] := List.getElem?_eq_getElem (by omega)
      have := hel i hi
      rw [hx, hs, Option.bind_eq_some_iff] at this
      obtain ⟨cs', q1, q2⟩ := this
      obtain ⟨x, r1, r2⟩ := ih m cs' _ (by omega) q2 (hl.elem ht (by
        simp only [List.mem_map]
        exact ⟨_, List.getElem_mem (by omega), rfl⟩))
      exact ⟨x, cs', r1, q1, r2⟩
    obtain ⟨l, hll, hlx⟩ : ∃ l : List α, l.length = len ∧ ∀ (i : Nat) x, l[i]? = some x → Good x ∧ ∃ cs', W.cells? 0 (a.add (i * sz)) sz = some cs' ∧ Reads W (E x) cs' := by
      clear hel hl h hsp hns ih hlen hlc
      induction len with
      | zero => exact ⟨[], rfl, fun i x hx => by simp at hx⟩
      | succ k ihk =>
        obtain ⟨l, q1, q2⟩ := ihk (fun i hi => each i (by omega))
        obtain ⟨x, cs', r1, r2, r3⟩ := each k (by omega)
        refine ⟨l ++ [x], by simp [q1], fun i z hz => ?_⟩
        rcases Nat.lt_or_ge i l.length with hi | hi
        · rw [List.getElem?_append_left hi] at hz
          exact q2 i z hz
        · rw [List.getElem?_append_right hi] at hz
          have h0 : i - l.length = 0 := by
            rcases Nat.eq_zero_or_pos (i - l.length) with h | h
            · exact h
            · obtain ⟨j, hj⟩ : ∃ j, i - l.length = j + 1 := ⟨i - l.length - 1, by omega⟩
              rw [hj] at hz; simp at hz
          rw [h0] at hz
          obtain rfl : x = z := by simpa using hz
          obtain rfl : i = k := by omega
          exact ⟨r1, cs', r2, r3⟩
    have hlb := hl.len ht
    rw [List.length_map, hlen] at hlb
    have hlen2 : len ≤ 140737488355328 := by
      have : len * 1 ≤ len * P.bytesOf e := Nat.mul_le_mul_left _ hby
      omega
    refine ⟨l, fun x hx => by obtain ⟨i, hi⟩ := List.getElem?_of_mem hx; exact (hlx i x hi).1, by rw [hll]; exact hlb, by omega, rfl, fun i x hx => ?_⟩
    cases i with
    | succ i => simp at hx
    | zero =>
      obtain rfl : AV.sl false .none (l.map E) = x := by simpa using hx
      have flat : ∀ (j : Nat) (x : AV), (l.map E).flatten[j]? = some x → x.one = true ∧ x.dat0 = true ∧ ∃ v, W.cell? (a.add j) = some v ∧ oneV v = true ∧ VSim (gh0 W) x v := by
        intro j x hj
        have hfl : ∀ (l : List α) (j : Nat), (l.map E).flatten[j]? = (l[j / sz]?).bind fun z => (E z)[j % sz]? := by
          intro l
          induction l with
          | nil => intro j; simp
          | cons z l ih2 =>
            intro j
            simp only [List.map_cons, List.flatten_cons]
            rcases Nat.lt_or_ge j sz with hj | hj
            · rw [List.getElem?_append_left (by rw [hE]; exact hj), Nat.div_eq_of_lt hj, Nat.mod_eq_of_lt hj]
              rfl
            · rw [List.getElem?_append_right (by rw [hE]; exact hj), hE, ih2]
              obtain ⟨k, rfl⟩ : ∃ k, j = k + sz := ⟨j - sz, by omega⟩
              rw [Nat.add_sub_cancel, Nat.add_div_right _ h0, Nat.add_mod_right]
              rfl
        rw [hfl, Option.bind_eq_some_iff] at hj
        obtain ⟨z, hz, hx⟩ := hj
        obtain ⟨_, cs', c1, c2⟩ := hlx _ _ hz
        obtain ⟨d1, d2, d3⟩ := World.cells?_some c1
        have hlt : j % sz < sz := Nat.mod_lt _ h0
        obtain ⟨e1, e2, e3, e4⟩ := c2.2 _ _ hx
        have d4 := d3 _ hlt
        have hlt' : j % sz < cs'.length := by omega
        rw [List.getElem?_eq_getElem hlt'] at d4
        rw [List.getD_eq_getElem?_getD, List.getElem?_eq_getElem hlt'] at e3 e4
        simp only [Option.getD_some] at e3 e4
        refine ⟨e1, e2, _, ?_, e3, e4⟩
        have e0 := Nat.div_add_mod j sz
        rw [Nat.mul_comm] at e0
        rw [← d4, addr_add, e0]
      have hvs : ∃ vs : Nat → Value, ∀ (j : Nat) x, (l.map E).flatten[j]? = some x → W.cell? (a.add j) = some (vs j) ∧ oneV (vs j) = true ∧ VSim (gh0 W) x (vs j) := by
        refine ⟨fun j => (W.cell? (a.add j)).getD undef, fun j x hx => ?_⟩
        obtain ⟨_, _, v, q1, q2, q3⟩ := flat j x hx
        simp only [q1]
        exact ⟨rfl, q2, q3⟩
      obtain ⟨vs, hvs⟩ := hvs
      have hml : len = (l.map E).length := by simp [hll]
      refine ⟨rfl, rfl, rfl, ?_⟩
      show VSim (gh0 W) _ (.slice (some a) len cap)
      rw [hml]
      refine .sl false .none (l.map E) (some a) cap sz vs (by simp [hll, hlc]) (by simp [hll]; omega) (fun e he => by obtain ⟨z, _, rfl⟩ := List.mem_map.1 he; exact hE z) (fun j x hx => ⟨(flat j x hx).1, (flat j x hx).2.1⟩) (fun hne => ?_) (fun j x hx => (hvs j x hx).2.2) trivial
      obtain ⟨x, hx⟩ : ∃ x, (l.map E).flatten[0]? = some x := by
        cases hf : (l.map E).flatten with
        | nil => exact absurd hf hne
        | cons x r => exact ⟨x, rfl⟩
      have hsp : a.spot = none := by
        have := (hvs 0 x hx).1
        unfold World.cell? at this
        split at this
        · cases hq : a.spot with
          | none => rfl
          | some s => simp [Addr.add, hq] at this
        · cases this
      refine ⟨a.block, a.off, by cases a; cases hsp; rfl, fun h => (by cases h), fun j x hx => ?_⟩
      obtain ⟨q1, q2, q3⟩ := hvs j x hx
      rw [gh0_K]
      refine ⟨?_, q2⟩
      rw [← q1]
      congr 1
      exact addr_none hsp
end
end Go.Proofs.YtfheoidnahhnlaaGreatDoor
set_option linter.unusedVariables false
set_option linter.unusedSimpArgs false
namespace Go.Proofs.YtfheoidnahhnlaaGreatDoor
open Go.ChangeShapes Go.WideShapes Go.ChangeAt Go.RowKit
section
variable {H : Type} {enc : TypeId × Value → H} {W : World}
set_option maxRecDepth 20000 in
theorem open_V : ∀ (n : Nat) (cs : List Value) (y : DataW H × List MemPlace), DataW.trod enc Tryz.prog W 0 (fun _ => true) true n 44 cs = some y → Light Tryz.prog 44 y.1 → ∃ v : V, v.fits ∧ Reads W (encV false v) cs := by
  intro n
  induction n using Nat.strongRecOn with
  | ind n ih =>
  intro cs y h hl
  have hu := Tryz.underlying44
  obtain ⟨xs, m, rfl, rfl, hlen, hxl, hf⟩ := DataW.trod_struct hu h
  rw [show Tryz.prog.cellsOf 44 = 5 by kernel_rfl] at hlen
  match cs, hlen with
  | [c0, c1, c2, c3, c4], _ =>
  match xs, hxl with
  | [y0, y1, y2, y3, y4], _ =>
  have l1 : Tryz.prog.cellsOf 3 = 1 := by kernel_rfl
  have l2 : Tryz.prog.cellsOf 2 = 1 := by kernel_rfl
  have l3 : Tryz.prog.cellsOf 42 = 1 := by kernel_rfl
  have l4 : Tryz.prog.cellsOf 9 = 1 := by kernel_rfl
  have l5 : Tryz.prog.cellsOf 39 = 1 := by kernel_rfl
  have f0 := hf 0 _ rfl
  have f1 := hf 1 _ rfl
  have f2 := hf 2 _ rfl
  have f3 := hf 3 _ rfl
  have f4 := hf 4 _ rfl
  simp only [l1, l2, l3, l4, l5, List.drop_succ_cons, List.drop_zero, List.take_succ_cons, List.take_zero, List.getElem?_cons_succ, List.getElem?_cons_zero] at f0 f1 f2 f3 f4
  have h3 := hl.field hu (j := 3) rfl (d := y3.1) rfl
  have h4 := hl.field hu (j := 4) rfl (d := y4.1) rfl
  obtain ⟨k, e0, _, w0⟩ := DataW.trod_int Tryz.underlying3 f0
  obtain ⟨i, e1, _, w1⟩ := DataW.trod_int Tryz.underlying2 f1
  obtain ⟨f, e2, _, w2⟩ := trod_float' Tryz.underlying42 f2
  obtain ⟨t, e3, et, _⟩ := DataW.trod_string Tryz.underlying9 f3
  obtain ⟨l, q1, q2, _, q3⟩ := open_slice_gen (encV false) V.fits Tryz.underlying39 (by kernel_rfl : Tryz.prog.cellsOf 44 = 5) (by decide) (by rw [show Tryz.prog.bytesOf 44 = 64 by kernel_rfl]; decide) (encV_len false)
    (fun m' cs' y' hm h' hl' => ih m' (by omega) cs' y' h' hl') f4 h4
  rw [show Tryz.prog.bytesOf 44 = 64 by kernel_rfl] at q2
  have ts : t.size ≤ 140737488351232 := by
    have := h3 t.data.toList.length (by rw [et]; simp [DataW.weights])
    have h9 : reachBytes = 140737488351232 := rfl
    have e : t.data.toList.length = t.size := Array.length_toList
    omega
  have w2' : f < 18446744073709551616 := by
    simp [Lit.wf, FloatKind.format] at w2
    omega
  have k0 := i64_of_wf w0
  have k1 := i64_of_wf w1
  cases e0
  cases e1
  cases e2
  cases e3
  refine ⟨.mk k i f t l, V.fits_of ⟨by omega, k0, k1, w2', ts⟩ q1, ?_⟩
  rw [encV_eq, V.kind_mk, V.int_mk, V.float_mk, V.text_mk, V.items_mk, encL_eq]
  exact ((Reads.s rfl rfl).app (.app (.s rfl rfl) (.app (.s rfl rfl) (.app (.s rfl rfl) q3))))
end
end Go.Proofs.YtfheoidnahhnlaaGreatDoor
set_option linter.unusedVariables false
namespace Go.Proofs.YtfheoidnahhnlaaGreatDoor
open Go
mutual
def T.fits : T → Prop
  | .mk k l => (inI k ∧ l.length ≤ 4398046510976) ∧ T.fitsL l
def T.fitsL : List T → Prop
  | [] => True
  | x :: l => T.fits x ∧ T.fitsL l
end
theorem T.fitsL_mem : ∀ {l : List T} {x : T}, T.fitsL l → x ∈ l → x.fits
  | y :: l, x, h, hx => by
    rcases List.mem_cons.1 hx with rfl | hx
    · exact h.1
    · exact T.fitsL_mem h.2 hx
  | [], _, _, hx => by cases hx
theorem T.fitsL_of : ∀ {l : List T}, (∀ x ∈ l, x.fits) → T.fitsL l
  | [], _ => trivial
  | y :: l, h => ⟨h y (List.mem_cons_self ..), T.fitsL_of fun x hx => h x (List.mem_cons_of_mem _ hx)⟩
theorem T.fits_mem {k : Int} {l : List T} (h : (T.mk k l).fits) {x : T} (hx : x ∈ l) : x.fits := T.fitsL_mem h.2 hx
theorem T.fits_of {k : Int} {l : List T} (h : inI k ∧ l.length ≤ 4398046510976) (hx : ∀ x ∈ l, x.fits) : (T.mk k l).fits := ⟨h, T.fitsL_of hx⟩
structure C.lies (c : C) : Prop where
  fit : c.fits
  ty : c.ty.fits
structure fitsCL (l : List C) : Prop where
  len : l.length ≤ 1172812402926
  all : ∀ c ∈ l, c.lies
theorem fitsCL.fit {l : List C} (h : fitsCL l) : ∀ c ∈ l, c.fits := fun c hc => (h.all c hc).fit
end Go.Proofs.YtfheoidnahhnlaaGreatDoor
set_option linter.unusedVariables false
set_option linter.unusedSimpArgs false
namespace Go.Proofs.YtfheoidnahhnlaaGreatDoor
open Go.ChangeShapes Go.WideShapes Go.ChangeAt Go.RowKit
section
variable {H : Type} {enc : TypeId × Value → H} {W : World}
theorem reads_agg {l : List AV} {v : Value} (h : Reads W l v.cells.toList) (hv : (∃ a, v = .agg a) ∨ l.length ≠ 1) : VSim (gh0 W) (.agg l) v := by
  have h3 := h.1
  cases v with
  | agg a =>
    have := h.agg
    simpa [Value.cells] using this
  | _ =>
    rcases hv with ⟨a, ha⟩ | hv
    · cases ha
    · exact absurd h3 (by simp [Value.cells]; omega)
set_option maxRecDepth 20000 in
theorem open_T : ∀ (n : Nat) (cs : List Value) (y : DataW H × List MemPlace), DataW.trod enc Tryz.prog W 0 (fun _ => true) true n 72 cs = some y → Light Tryz.prog 72 y.1 → ∃ v : T, v.fits ∧ Reads W (encT false v) cs := by
  intro n
  induction n using Nat.strongRecOn with
  | ind n ih =>
  intro cs y h hl
  have hu := Tryz.underlying72
  obtain ⟨xs, m, rfl, rfl, hlen, hxl, hf⟩ := DataW.trod_struct hu h
  rw [show Tryz.prog.cellsOf 72 = 2 by kernel_rfl] at hlen
  match cs, hlen with
  | [c0, c1], _ =>
  match xs, hxl with
  | [y0, y1], _ =>
  have l1 : Tryz.prog.cellsOf 3 = 1 := by kernel_rfl
  have l2 : Tryz.prog.cellsOf 70 = 1 := by kernel_rfl
  have f0 := hf 0 _ rfl
  have f1 := hf 1 _ rfl
  simp only [l1, l2, List.drop_succ_cons, List.drop_zero, List.take_succ_cons, List.take_zero, List.getElem?_cons_succ, List.getElem?_cons_zero] at f0 f1
  have h1 := hl.field hu (j := 1) rfl (d := y1.1) rfl
  obtain ⟨k, e0, _, w0⟩ := DataW.trod_int Tryz.underlying3 f0
  obtain ⟨l, q1, q2, _, q3⟩ := open_slice_gen (encT false) T.fits Tryz.underlying70 (by kernel_rfl : Tryz.prog.cellsOf 72 = 2) (by decide) (by rw [show Tryz.prog.bytesOf 72 = 32 by kernel_rfl]; decide) (encT_len false)
    (fun m' cs' y' hm h' hl' => ih m' (by omega) cs' y' h' hl') f1 h1
  rw [show Tryz.prog.bytesOf 72 = 32 by kernel_rfl] at q2
  have k0 := i64_of_wf w0
  cases e0
  refine ⟨.mk k l, T.fits_of ⟨k0, by omega⟩ q1, ?_⟩
  rw [encT_eq, T.kind_mk, T.of_mk, encTL_eq]
  exact (Reads.s rfl rfl).app q3
set_option maxRecDepth 20000 in
theorem open_C (n : Nat) (cs : List Value) (y : DataW H × List MemPlace) (h : DataW.trod enc Tryz.prog W 0 (fun _ => true) true n 74 cs = some y) (hl : Light Tryz.prog 74 y.1) : ∃ c : C, c.lies ∧ Reads W (encC false c) cs := by
  have hu := Tryz.underlying74
  obtain ⟨xs, m, rfl, rfl, hlen, hxl, hf⟩ := DataW.trod_struct hu h
  rw [show Tryz.prog.cellsOf 74 = 9 by kernel_rfl] at hlen
  match cs, hlen with
  | [c0, c1, c2, c3, c4, c5, c6, c7, c8], _ =>
  match xs, hxl with
  | [y0, y1, y2, y3], _ =>
  have l1 : Tryz.prog.cellsOf 9 = 1 := by kernel_rfl
  have l2 : Tryz.prog.cellsOf 72 = 2 := by kernel_rfl
  have l3 : Tryz.prog.cellsOf 4 = 1 := by kernel_rfl
  have l4 : Tryz.prog.cellsOf 44 = 5 := by kernel_rfl
  have f0 := hf 0 _ rfl
  have f1 := hf 1 _ rfl
  have f2 := hf 2 _ rfl
  have f3 := hf 3 _ rfl
  simp only [l1, l2, l3, l4, List.drop_succ_cons, List.drop_zero, List.take_succ_cons, List.take_zero, List.getElem?_cons_succ, List.getElem?_cons_zero] at f0 f1 f2 f3
  have h0 := hl.field hu (j := 0) rfl (d := y0.1) rfl
  have h1 := hl.field hu (j := 1) rfl (d := y1.1) rfl
  have h3 := hl.field hu (j := 3) rfl (d := y3.1) rfl
  obtain ⟨t, e0, et, _⟩ := DataW.trod_string Tryz.underlying9 f0
  obtain ⟨b, e2, _⟩ := trod_bool' Tryz.underlying4 f2
  obtain ⟨ty, g1, r1⟩ := open_T _ _ _ f1 h1
  obtain ⟨v, g3, r3⟩ := open_V _ _ _ f3 h3
  have ts : t.size ≤ 140737488351232 := by
    have := h0 t.data.toList.length (by rw [et]; simp [DataW.weights])
    have h9 : reachBytes = 140737488351232 := rfl
    have e : t.data.toList.length = t.size := Array.length_toList
    omega
  cases e0
  cases e2
  refine ⟨⟨t, ty, b, v⟩, ⟨⟨g3, ts, ?_⟩, g1⟩, ?_⟩
  · obtain ⟨k, l⟩ := ty
    exact g1.1.1
  · rw [encT_eq] at r1
    rw [encV_eq] at r3
    exact ((Reads.s rfl rfl).app (r1.app ((Reads.s rfl rfl).app r3)))
set_option maxRecDepth 20000 in
theorem open_schema {a : Array Value} {d : DataW H} {p : List MemPlace} (h : DataW.Trod enc Tryz.prog W 0 (fun _ => true) true 24 (.agg a) d p) (hl : Light Tryz.prog 24 d) : ∃ l : List C, fitsCL l ∧ VSim (gh0 W) (.agg [.sl false .none (encCL false l)]) (.agg a) := by
  obtain ⟨n, hn⟩ := h
  have hu := Tryz.underlying24
  obtain ⟨xs, m, rfl, hy, hlen, hxl, hf⟩ := DataW.trod_struct hu hn
  injection hy with e1 e2
  subst e1
  rw [show Tryz.prog.cellsOf 24 = 1 by kernel_rfl] at hlen
  match xs, hxl with
  | [y0], _ =>
  have l1 : Tryz.prog.cellsOf 22 = 1 := by kernel_rfl
  have f0 : DataW.trod enc Tryz.prog W 0 (fun _ => true) true m 22 (List.take (Tryz.prog.cellsOf 22) (List.drop 0 (Value.agg a).cells.toList)) = some y0 := hf 0 _ rfl
  rw [l1, List.drop_zero, List.take_of_length_le (by omega)] at f0
  have h0 := hl.field hu (j := 0) rfl (d := y0.1) rfl
  obtain ⟨l, q1, q2, _, q3⟩ := open_slice_gen (encC false) C.lies Tryz.underlying22 (by kernel_rfl : Tryz.prog.cellsOf 74 = 9) (by decide) (by rw [show Tryz.prog.bytesOf 74 = 120 by kernel_rfl]; decide) (encC_len false)
    (fun m' cs' y' hm h' hl' => open_C m' cs' y' h' hl') f0 h0
  rw [show Tryz.prog.bytesOf 74 = 120 by kernel_rfl] at q2
  refine ⟨l, ⟨by omega, q1⟩, ?_⟩
  exact reads_agg q3 (.inl ⟨a, rfl⟩)
end
end Go.Proofs.YtfheoidnahhnlaaGreatDoor
set_option linter.unusedVariables false
set_option linter.unusedSimpArgs false
namespace Go.Proofs.YtfheoidnahhnlaaGreatDoor
open Go.ChangeShapes Go.WideShapes Go.ChangeAt Go.RowKit
section
variable {H : Type} {enc : TypeId × Value → H} {W : World}
theorem rowV_fits {l : List V} (h : ∀ v ∈ l, v.fits) (hl : l.length ≤ 2199023255488) : (rowV l).fits := V.fits_of ⟨hl, by unfold inI; decide, by unfold inI; decide, by decide, by decide⟩ h
theorem open_vals {m : Nat} {cs : List Value} {y : DataW H × List MemPlace} (h : DataW.trod enc Tryz.prog W 0 (fun _ => true) true m 39 cs = some y) (hl : Light Tryz.prog 39 y.1) : ∃ l : List V, (rowV l).fits ∧ Reads W [.sl false .none (encL false l)] cs := by
  obtain ⟨l, q1, q2, _, q3⟩ := open_slice_gen (encV false) V.fits Tryz.underlying39 (by kernel_rfl : Tryz.prog.cellsOf 44 = 5) (by decide) (by rw [show Tryz.prog.bytesOf 44 = 64 by kernel_rfl]; decide) (encV_len false)
    (fun m' cs' y' hm h' hl' => open_V m' cs' y' h' hl') h hl
  rw [show Tryz.prog.bytesOf 44 = 64 by kernel_rfl] at q2
  rw [← encL_eq] at q3
  exact ⟨l, rowV_fits q1 (by omega), q3⟩
set_option maxRecDepth 20000 in
theorem open_R {n : Nat} {cs : List Value} {y : DataW H × List MemPlace} (h : DataW.trod enc Tryz.prog W 0 (fun _ => true) true n 41 cs = some y) (hl : Light Tryz.prog 41 y.1) : ∃ l : List V, (rowV l).fits ∧ Reads W [.sl false .none (encL false l)] cs := by
  have hu := Tryz.underlying41
  obtain ⟨xs, m, rfl, rfl, hlen, hxl, hf⟩ := DataW.trod_struct hu h
  rw [show Tryz.prog.cellsOf 41 = 1 by kernel_rfl] at hlen
  match xs, hxl with
  | [y0], _ =>
  have l1 : Tryz.prog.cellsOf 39 = 1 := by kernel_rfl
  have f0 : DataW.trod enc Tryz.prog W 0 (fun _ => true) true m 39 (List.take (Tryz.prog.cellsOf 39) (List.drop 0 cs)) = some y0 := hf 0 _ rfl
  rw [l1, List.drop_zero, List.take_of_length_le (by omega)] at f0
  exact open_vals f0 (hl.field hu (j := 0) rfl (d := y0.1) rfl)
end
end Go.Proofs.YtfheoidnahhnlaaGreatDoor
set_option linter.unusedVariables false
set_option linter.unusedSimpArgs false
namespace Go.Proofs.YtfheoidnahhnlaaGreatDoor
open Go.ChangeShapes Go.WideShapes Go.ChangeAt Go.RowKit
section
variable {H : Type} {enc : TypeId × Value → H} {W : World}
theorem open_rowS {n : Nat} {cs : List Value} {y : DataW H × List MemPlace} (h : DataW.trod enc Tryz.prog W 0 (fun _ => true) true n 25 cs = some y) (hl : Light Tryz.prog 25 y.1) : ∃ l : List (List V), (∀ r ∈ l, ∀ v ∈ r, v.fits) ∧ Reads W [.sl false .none (encRw false l)] cs := by
  obtain ⟨l, q1, _, _, q3⟩ := open_slice_gen (fun r : List V => [AV.sl false .none (encL false r)]) (fun r => (rowV r).fits) Tryz.underlying25 (by kernel_rfl : Tryz.prog.cellsOf 41 = 1) (by decide) (by rw [show Tryz.prog.bytesOf 41 = 24 by kernel_rfl]; decide) (fun _ => rfl)
    (fun m' cs' y' hm h' hl' => open_R h' hl') h hl
  exact ⟨l, fun r hr v hv => V.fits_mem (q1 r hr) hv, q3⟩
theorem open_rowsb {A : Option Addr} {len cap : Nat} {d : DataW H} {p : List MemPlace} (h : DataW.Trod enc Tryz.prog W 0 (fun _ => true) true 25 (.slice A len cap) d p) (hl : Light Tryz.prog 25 d) : ∃ l : List (List V), (∀ r ∈ l, ∀ v ∈ r, v.fits) ∧ VSim (gh0 W) (.sl false .none (encRw false l)) (.slice A len cap) := by
  obtain ⟨n, hn⟩ := h
  obtain ⟨l, q1, q3⟩ := open_rowS hn hl
  exact ⟨l, q1, Reads.one q3⟩
end
end Go.Proofs.YtfheoidnahhnlaaGreatDoor
