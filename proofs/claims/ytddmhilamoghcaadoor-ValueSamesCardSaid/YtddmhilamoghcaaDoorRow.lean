/- From a law's walk to its row: arguments opened. -/
import Derived.Test.YtddmhilamoghcaaDoorBase2
import Derived.ProofKit
import Derived.OpenShut
import Derived.ShutString
import Derived.ChangeOld
import Derived.SizedLaws
set_option linter.unusedVariables false
set_option linter.unusedSimpArgs false
namespace Go.Proofs.YtddmhilamoghcaaDoor
open Go.ChangeShapes Go.WideShapes Go.ChangeAt Go.RowKit
open Go.ChangeMaps (open_string shut_string)

section
variable {H : Type} {enc : TypeId × Value → H} {P : Program} {W : World}

theorem getD_bytes (zs : List Int) (hw : ∀ n ∈ zs, (Lit.int .u8 n).wf = true) (len i : Nat) (hi : i < len) (hl : len ≤ zs.length) :
    ((((zs.take len).map fun z => UInt8.ofNat z.toNat).getD i 0).toNat : Int) = zs.getD i 0 := by
  have h1 : i < zs.length := by omega
  have h2 := hw _ (List.getElem_mem h1)
  have h3 : 0 ≤ zs[i] ∧ zs[i] < 256 := by
    simp [Lit.wf, IntKind.min, IntKind.max, IntKind.bits, IntKind.signed] at h2
    omega
  simp [List.getD_eq_getElem?_getD, List.getElem?_take, hi, h1]
  omega

/-- A slice of bytes that came in: a list of bytes, at most so many as the form lets in. -/
theorem open_bytes {t e : TypeId} {a : Option Addr} {len cap : Nat} {d : DataW H} {p : List MemPlace} (ht : P.underlying t = some (.slice e)) (he : P.underlying e = some (.int .u8)) (hc : P.cellsOf e = 1)
    (h : DataW.Trod enc P W 0 (fun _ => true) true t (.slice a len cap) d p) :
    ∃ l : List UInt8, l.length = len ∧ len ≤ cap ∧ Bs W a l ∧ (cap = 0 ∨ ∃ elems spare : List (DataW H), d = .slice elems spare ∧ elems.length + spare.length = cap) := by
  obtain ⟨fuel, hf⟩ := h
  rcases open_ints ht he hc hf with ⟨hcs, _⟩ | ⟨x, l, c, zs, hcs, _, hl, hm, hz, hx, hcell, hwz⟩
  · simp [Value.cells] at hcs
    obtain ⟨rfl, rfl, rfl⟩ := hcs
    exact ⟨[], rfl, Nat.le_refl _, Bs.nil _ _, .inl rfl⟩
  · simp [Value.cells] at hcs
    obtain ⟨rfl, rfl, rfl⟩ := hcs
    simp only [if_true] at hz
    simp only [Prod.mk.injEq] at hx
    refine ⟨(zs.take len).map fun z => UInt8.ofNat z.toNat, by simp; omega, hl, ⟨fun _ => ⟨x, rfl, fun i hi => ?_⟩⟩, .inr ⟨_, _, hx.1, by simp [lits]; omega⟩⟩
    have hi' : i < len := by simp at hi; omega
    rw [getD_bytes zs hwz len i hi' (by omega)]
    exact hcell i (by omega)
/-- The same of a cell. -/
theorem open_bytes_cell {t e : TypeId} {fuel : Nat} {v : Value} {y : DataW H × List MemPlace} (ht : P.underlying t = some (.slice e)) (he : P.underlying e = some (.int .u8)) (hc : P.cellsOf e = 1)
    (hf : DataW.trod enc P W 0 (fun _ => true) true fuel t [v] = some y) :
    ∃ (a : Option Addr) (cap : Nat) (l : List UInt8), v = .slice a l.length cap ∧ l.length ≤ cap ∧ Bs W a l ∧ (cap = 0 ∨ ∃ elems spare : List (DataW H), y.1 = .slice elems spare ∧ elems.length + spare.length = cap) := by
  rcases open_ints ht he hc hf with ⟨hcs, _⟩ | ⟨x, len, c, zs, hcs, _, hl, hm, hz, hx, hcell, hwz⟩
  · simp at hcs
    subst hcs
    exact ⟨none, 0, [], rfl, Nat.le_refl _, Bs.nil _ _, .inl rfl⟩
  · simp at hcs
    subst hcs
    simp only [if_true] at hz
    have hll : ((zs.take len).map fun z => UInt8.ofNat z.toNat).length = len := by simp; omega
    refine ⟨some x, c, (zs.take len).map fun z => UInt8.ofNat z.toNat, by rw [hll], by omega, ⟨fun _ => ⟨x, rfl, fun i hi => ?_⟩⟩, .inr ⟨lits .u8 (zs.take len), lits .u8 (zs.drop len), by rw [hx], by simp [lits]; omega⟩⟩
    rw [getD_bytes zs hwz len i (by omega) (by omega)]
    exact hcell i (by omega)
theorem cap_le {j : Nat} {ts : List TypeId} {ds : List (DataW H)} {t e : TypeId} {d : DataW H} {cap : Nat} (hs : (DataW.weightsEach P ts ds).all (· ≤ reachBytes) = true) (ht : ts[j]? = some t) (hd : ds[j]? = some d)
    (hu : P.underlying t = some (.slice e)) (hb : P.bytesOf e = 1) (h : cap = 0 ∨ ∃ elems spare : List (DataW H), d = .slice elems spare ∧ elems.length + spare.length = cap) : cap ≤ 140737488351232 := by
  rcases h with rfl | ⟨elems, spare, rfl, h⟩
  · omega
  · have := sized_slice hs ht hd hu
    rw [hb, Nat.mul_one, h] at this
    exact this
theorem u64_of_wf {a : Int} (h : (Lit.int .u64 a).wf = true) : ∃ n : Nat, a = (n : Int) ∧ n < 18446744073709551616 := by
  simp [Lit.wf, IntKind.min, IntKind.max, IntKind.bits, IntKind.signed] at h
  exact ⟨a.toNat, by omega, by omega⟩
theorem i64_of_wf {a : Int} (h : (Lit.int .i64 a).wf = true) : -9223372036854775808 ≤ a ∧ a ≤ 9223372036854775807 := by
  simp [Lit.wf, IntKind.min, IntKind.max, IntKind.bits, IntKind.signed] at h
  omega
end
end Go.Proofs.YtddmhilamoghcaaDoor
