/- Merged: OpenGen, AOp01. -/
import Derived.Test.YtjodibncpbjegaaDoorZ25
import Derived.ProofKit
import Derived.OpenShut
import Derived.SizedLaws
import Derived.Laws.Cover2
/- From a row's data to plain data: scalars, slices and structs that came in. No program beside the given type facts. -/
set_option linter.unusedVariables false
set_option linter.unusedSimpArgs false
namespace Go.Proofs.YtjodibncpbjegaaDoor
open Go.ChangeShapes Go.WideShapes Go.ChangeAt Go.RowKit
section
variable {H : Type} {enc : TypeId × Value → H} {W : World} {P : Program}
/-- Every weight in it is within the form's reach. -/
def Light (P : Program) (t : TypeId) (d : DataW H) : Prop := ∀ n ∈ d.weights P t, n ≤ reachBytes
theorem light_at {ts : List TypeId} {ds : List (DataW H)} (h : (DataW.weightsEach P ts ds).all (· ≤ reachBytes) = true) {j : Nat} {t : TypeId} {d : DataW H} (ht : ts[j]? = some t) (hd : ds[j]? = some d) : Light P t d := fun n hn => by
  have := List.all_eq_true.1 h _ (DataW.weights_mem_each ht hd n hn)
  simpa using this
theorem weightsAll_mem {e : TypeId} : ∀ {l : List (DataW H)} {d : DataW H}, d ∈ l → ∀ n ∈ d.weights P e, n ∈ DataW.weightsAll P e l
  | x :: l, d, h, n, hn => by
    simp only [DataW.weightsAll, List.mem_append]
    rcases List.mem_cons.1 h with rfl | h
    · exact .inl hn
    · exact .inr (weightsAll_mem h n hn)
  | [], _, h, _, _ => by cases h
theorem Light.field {t : TypeId} {fs : Array Field} {ds : List (DataW H)} (hu : P.underlying t = some (.struct fs)) (h : Light P t (.agg ds)) {j : Nat} {f : Field} {d : DataW H} (hf : fs[j]? = some f) (hd : ds[j]? = some d) : Light P f.type d := fun n hn => by
  refine h n ?_
  simp only [DataW.weights, hu]
  exact DataW.weights_mem_each (j := j) (by simp [hf]) hd n hn
theorem Light.elem {t e : TypeId} {es sp : List (DataW H)} (hu : P.underlying t = some (.slice e)) (h : Light P t (.slice es sp)) {d : DataW H} (hd : d ∈ es) : Light P e d := fun n hn => by
  refine h n ?_
  simp only [DataW.weights, hu, List.mem_cons, List.mem_append]
  exact .inr (.inl (weightsAll_mem hd n hn))
theorem Light.len {t e : TypeId} {es sp : List (DataW H)} (hu : P.underlying t = some (.slice e)) (h : Light P t (.slice es sp)) : es.length * P.bytesOf e ≤ 140737488351232 := by
  have := h ((es.length + sp.length) * P.bytesOf e) (by simp [DataW.weights, hu])
  have h2 : es.length * P.bytesOf e ≤ (es.length + sp.length) * P.bytesOf e := Nat.mul_le_mul_right _ (by omega)
  have h3 : reachBytes = 140737488351232 := rfl
  omega

/-- Cells that read as plain data, in a world at the beginning. -/
def Reads (W : World) (l : List AV) (cs : List Value) : Prop := cs.length = l.length ∧ ∀ (i : Nat) x, l[i]? = some x → x.one = true ∧ x.dat0 = true ∧ oneV (cs.getD i undef) = true ∧ VSim (gh0 W) x (cs.getD i undef)
theorem Reads.nil : Reads W [] [] := ⟨rfl, fun i x h => by simp at h⟩
theorem Reads.app {l m : List AV} {cs ds : List Value} (h : Reads W l cs) (h' : Reads W m ds) : Reads W (l ++ m) (cs ++ ds) := by
  refine ⟨by simp [h.1, h'.1], fun i x hx => ?_⟩
  rcases Nat.lt_or_ge i l.length with hi | hi
  · rw [List.getElem?_append_left hi] at hx
    have := h.2 i x hx
    rwa [List.getD_eq_getElem?_getD, List.getElem?_append_left (by rw [h.1]; exact hi), ← List.getD_eq_getElem?_getD]
  · rw [List.getElem?_append_right hi] at hx
    have := h'.2 _ x hx
    rwa [List.getD_eq_getElem?_getD, List.getElem?_append_right (by rw [h.1]; exact hi), h.1, ← List.getD_eq_getElem?_getD]
theorem Reads.s {v : Value} (h : oneV v = true) (hd : AV.dat0 (.s v) = true) : Reads W [.s v] [v] := ⟨rfl, fun i x hx => by
  cases i with
  | zero =>
    obtain rfl : AV.s v = x := by simpa using hx
    exact ⟨h, hd, h, .s v h⟩
  | succ i => simp at hx⟩
theorem Reads.agg {l : List AV} {cs : List Value} (h : Reads W l cs) : VSim (gh0 W) (.agg l) (.agg cs.toArray) :=
  .agg l _ (by simp [h.1]) (fun i x hx => (h.2 i x hx).1) (fun i x hx => by
    have := (h.2 i x hx).2.2.2
    rwa [show cs.toArray.getD i undef = cs.getD i undef by simp [Array.getD_eq_getD_getElem?]])
theorem Reads.one {x : AV} {v : Value} (h : Reads W [x] [v]) : VSim (gh0 W) x v := (h.2 0 x rfl).2.2.2

theorem trod_float' {w : World} {base : Nat} {sp : Nat → Bool} {held : Bool} {fuel : Nat} {t : TypeId} {k : FloatKind} {cs : List Value} {x : DataW H × List MemPlace} (ht : P.underlying t = some (.float k)) (h : DataW.trod enc P w base sp held fuel t cs = some x) : ∃ b, cs = [.float k b] ∧ x = (.lit (.float k b), []) ∧ (Lit.float k b).wf = true := by
  cases fuel with
  | zero => simp [DataW.trod] at h
  | succ n =>
    unfold DataW.trod at h
    rw [ht] at h
    split at h <;> simp_all
theorem trod_bool' {w : World} {base : Nat} {sp : Nat → Bool} {held : Bool} {fuel : Nat} {t : TypeId} {cs : List Value} {x : DataW H × List MemPlace} (ht : P.underlying t = some .bool) (h : DataW.trod enc P w base sp held fuel t cs = some x) : ∃ b, cs = [.bool b] ∧ x = (.lit (.bool b), []) := by
  cases fuel with
  | zero => simp [DataW.trod] at h
  | succ n =>
    unfold DataW.trod at h
    rw [ht] at h
    split at h <;> simp_all
theorem addr_add (a : Addr) (m k : Nat) : (a.add m).add k = a.add (m + k) := by
  by_cases hm : m = 0
  · subst hm
    simp [Addr.add]
  · by_cases hk : k = 0
    · subst hk
      simp [Addr.add, hm]
    · simp [Addr.add, hm, hk, Nat.add_assoc]
theorem addr_none {a : Addr} (h : a.spot = none) {j : Nat} : (⟨a.block, a.off + j, none⟩ : Addr) = a.add j := by
  unfold Addr.add
  split
  · rename_i h0
    subst h0
    cases a
    cases h
    rfl
  · rfl
/-- A slice that came in: a list of what its elements are. -/
theorem open_slice_gen {α : Type} (E : α → List AV) (Good : α → Prop) {sz : Nat} {t e : TypeId} {n : Nat} {cs : List Value} {y : DataW H × List MemPlace} (ht : P.underlying t = some (.slice e)) (hs : P.cellsOf e = sz) (h0 : 0 < sz) (hby : 0 < P.bytesOf e) (hE : ∀ x, (E x).length = sz)
    (ih : ∀ m cs' y', m < n → DataW.trod enc P W 0 (fun _ => true) true m e cs' = some y' → Light P e y'.1 → ∃ x, Good x ∧ Reads W (E x) cs')
    (h : DataW.trod enc P W 0 (fun _ => true) true n t cs = some y) (hl : Light P t y.1) :
    ∃ l : List α, (∀ x ∈ l, Good x) ∧ l.length * P.bytesOf e ≤ 140737488351232 ∧ l.length ≤ 140737488355328 ∧ Reads W [.sl false .none (l.map E)] cs := by
  rcases DataW.trod_slice ht h with ⟨rfl, rfl⟩ | ⟨a, len, cap, elems, rest, m, hn, rfl, rfl, hb, hlc, hm, hlen, hel, hsp, hns⟩
  · refine ⟨[], by simp, by simp, by simp, rfl, fun i x hx => ?_⟩
    cases i with
    | zero =>
      obtain rfl : AV.sl false .none [] = x := by simpa using hx
      exact ⟨rfl, rfl, rfl, .sl false .none [] none 0 0 (fun _ => undef) (Nat.le_refl _) (Nat.zero_le _) (fun e he => by cases he) (fun j x hx => by simp at hx) (fun h => absurd rfl h) (fun j x hx => by simp at hx) trivial⟩
    | succ i => simp at hx
  · have each : ∀ i, i < len → ∃ x : α, ∃ cs', Good x ∧ W.cells? 0 (a.add (i * sz)) sz = some cs' ∧ Reads W (E x) cs' := by
      intro i hi
      have hx : elems[i]? = some elems[i] := List.getElem?_eq_getElem (by omega)
      have := hel i hi
      rw [hx, hs, Option.bind_eq_some_iff] at this
      obtain ⟨cs', q1, q2⟩ := this
      obtain ⟨x, r1, r2⟩ := ih m cs' _ (by omega) q2 (hl.elem ht (by
        simp only [List.mem_map]
        exact ⟨_, List.getElem_mem (by omega), rfl⟩))
      exact ⟨x, cs', r1, q1, r2⟩
    obtain ⟨l, hll, hlx⟩ : ∃ l : List α, l.length = len ∧ ∀ (i : Nat) x, l[i]? = some x → Good x ∧ ∃ cs', W.cells? 0 (a.add (i * sz)) sz = some cs' ∧ Reads W (E x) cs' := by
      clear hel hl h hsp hns ih hlen hlc
      induction len with
      | zero => exact ⟨[], rfl, fun i x hx => by simp at hx⟩
      | succ k ihk =>
        obtain ⟨l, q1, q2⟩ := ihk (fun i hi => each i (by omega))
        obtain ⟨x, cs', r1, r2, r3⟩ := each k (by omega)
        refine ⟨l ++ [x], by simp [q1], fun i z hz => ?_⟩
        rcases Nat.lt_or_ge i l.length with hi | hi
        · rw [List.getElem?_append_left hi] at hz
          exact q2 i z hz
        · rw [List.getElem?_append_right hi] at hz
          have h0 : i - l.length = 0 := by
            rcases Nat.eq_zero_or_pos (i - l.length) with h | h
            · exact h
            · obtain ⟨j, hj⟩ : ∃ j, i - l.length = j + 1 := ⟨i - l.length - 1, by omega⟩
              rw [hj] at hz; simp at hz
          rw [h0] at hz
          obtain rfl : x = z := by simpa using hz
          obtain rfl : i = k := by omega
          exact ⟨r1, cs', r2, r3⟩
    have hlb := hl.len ht
    rw [List.length_map, hlen] at hlb
    have hlen2 : len ≤ 140737488355328 := by
      have : len * 1 ≤ len * P.bytesOf e := Nat.mul_le_mul_left _ hby
      omega
    refine ⟨l, fun x hx => by obtain ⟨i, hi⟩ := List.getElem?_of_mem hx; exact (hlx i x hi).1, by rw [hll]; exact hlb, by omega, rfl, fun i x hx => ?_⟩
    cases i with
    | succ i => simp at hx
    | zero =>
      obtain rfl : AV.sl false .none (l.map E) = x := by simpa using hx
      have flat : ∀ (j : Nat) (x : AV), (l.map E).flatten[j]? = some x → x.one = true ∧ x.dat0 = true ∧ ∃ v, W.cell? (a.add j) = some v ∧ oneV v = true ∧ VSim (gh0 W) x v := by
        intro j x hj
        have hfl : ∀ (l : List α) (j : Nat), (l.map E).flatten[j]? = (l[j / sz]?).bind fun z => (E z)[j % sz]? := by
          intro l
          induction l with
          | nil => intro j; simp
          | cons z l ih2 =>
            intro j
            simp only [List.map_cons, List.flatten_cons]
            rcases Nat.lt_or_ge j sz with hj | hj
            · rw [List.getElem?_append_left (by rw [hE]; exact hj), Nat.div_eq_of_lt hj, Nat.mod_eq_of_lt hj]
              rfl
            · rw [List.getElem?_append_right (by rw [hE]; exact hj), hE, ih2]
              obtain ⟨k, rfl⟩ : ∃ k, j = k + sz := ⟨j - sz, by omega⟩
              rw [Nat.add_sub_cancel, Nat.add_div_right _ h0, Nat.add_mod_right]
              rfl
        rw [hfl, Option.bind_eq_some_iff] at hj
        obtain ⟨z, hz, hx⟩ := hj
        obtain ⟨_, cs', c1, c2⟩ := hlx _ _ hz
        obtain ⟨d1, d2, d3⟩ := World.cells?_some c1
        have hlt : j % sz < sz := Nat.mod_lt _ h0
        obtain ⟨e1, e2, e3, e4⟩ := c2.2 _ _ hx
        have d4 := d3 _ hlt
        have hlt' : j % sz < cs'.length := by omega
        rw [List.getElem?_eq_getElem hlt'] at d4
        rw [List.getD_eq_getElem?_getD, List.getElem?_eq_getElem hlt'] at e3 e4
        simp only [Option.getD_some] at e3 e4
        refine ⟨e1, e2, _, ?_, e3, e4⟩
        have e0 := Nat.div_add_mod j sz
        rw [Nat.mul_comm] at e0
        rw [← d4, addr_add, e0]
      have hvs : ∃ vs : Nat → Value, ∀ (j : Nat) x, (l.map E).flatten[j]? = some x → W.cell? (a.add j) = some (vs j) ∧ oneV (vs j) = true ∧ VSim (gh0 W) x (vs j) := by
        refine ⟨fun j => (W.cell? (a.add j)).getD undef, fun j x hx => ?_⟩
        obtain ⟨_, _, v, q1, q2, q3⟩ := flat j x hx
        simp only [q1]
        exact ⟨rfl, q2, q3⟩
      obtain ⟨vs, hvs⟩ := hvs
      have hml : len = (l.map E).length := by simp [hll]
      refine ⟨rfl, rfl, rfl, ?_⟩
      show VSim (gh0 W) _ (.slice (some a) len cap)
      rw [hml]
      refine .sl false .none (l.map E) (some a) cap sz vs (by simp [hll, hlc]) (by simp [hll]; omega) (fun e he => by obtain ⟨z, _, rfl⟩ := List.mem_map.1 he; exact hE z) (fun j x hx => ⟨(flat j x hx).1, (flat j x hx).2.1⟩) (fun hne => ?_) (fun j x hx => (hvs j x hx).2.2) trivial
      obtain ⟨x, hx⟩ : ∃ x, (l.map E).flatten[0]? = some x := by
        cases hf : (l.map E).flatten with
        | nil => exact absurd hf hne
        | cons x r => exact ⟨x, rfl⟩
      have hsp : a.spot = none := by
        have := (hvs 0 x hx).1
        unfold World.cell? at this
        split at this
        · cases hq : a.spot with
          | none => rfl
          | some s => simp [Addr.add, hq] at this
        · cases this
      refine ⟨a.block, a.off, by cases a; cases hsp; rfl, fun h => (by cases h), fun j x hx => ?_⟩
      obtain ⟨q1, q2, q3⟩ := hvs j x hx
      rw [gh0_K]
      refine ⟨?_, q2⟩
      rw [← q1]
      congr 1
      exact addr_none hsp
end
end Go.Proofs.YtjodibncpbjegaaDoor
/- From the row's list to the table of powers of ten. -/
set_option linter.unusedVariables false
set_option linter.unusedSimpArgs false
namespace Go.Proofs.YtjodibncpbjegaaDoor
open Go.RowKit
theorem tabs_of_reads {W : World} (h : Lib.VarReads Tryd.prog W "internal/strconv.uint64pow10" (Lib.tabData .u64 Lib.pow10Tab)) (h2 : Lib.VarReads Tryd.prog W "math/bits.deBruijn64tab" (Lib.tabData .u8 db64)) : Tabs W := by
  constructor
  · obtain ⟨g, t, cs, fuel, p, hg, ht, hv, hd⟩ := h
    have hg' : Tryd.prog.globalNamed "internal/strconv.uint64pow10" = some 1 := by kernel_rfl
    obtain rfl := Option.some.inj (hg'.symm.trans hg)
    have ht' : (Tryd.prog.globals[1]?).map (·.type) = some 89 := by kernel_rfl
    obtain rfl := Option.some.inj (ht'.symm.trans ht)
    unfold Lib.TabIs
    rw [hv, ← Lib.cells_of_tab Tryd.underlying89 Tryd.underlying29 (by kernel_rfl) (by kernel_rfl) hd]
  · obtain ⟨g, t, cs, fuel, p, hg, ht, hv, hd⟩ := h2
    have hg' : Tryd.prog.globalNamed "math/bits.deBruijn64tab" = some 6 := by kernel_rfl
    obtain rfl := Option.some.inj (hg'.symm.trans hg)
    have ht' : (Tryd.prog.globals[6]?).map (·.type) = some 107 := by kernel_rfl
    obtain rfl := Option.some.inj (ht'.symm.trans ht)
    have hT : Lib.TabIs Tryd.prog W "math/bits.deBruijn64tab" .u8 db64 := by
      unfold Lib.TabIs
      rw [hv, ← Lib.cells_of_tab Tryd.underlying107 Tryd.underlying5 (by kernel_rfl) (by kernel_rfl) hd]
    exact hT.cell hg' 15 (by decide)
end Go.Proofs.YtjodibncpbjegaaDoor
