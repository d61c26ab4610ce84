/- 'same' of the laws: two lists of bytes are the same just if they are one list. -/
import Derived.Test.YtgpniihkggffeaaProg
import Derived.Test.YtgpniihkggffeaaBase
set_option linter.unusedVariables false
set_option linter.unusedSimpArgs false
namespace Go.Proofs.Ytgpniihkggffeaa
open Go.RowKit

theorem eq_of_get {xs ys : List UInt8} (h : xs.length = ys.length) (he : ∀ j, j < xs.length → xs[j]? = ys[j]?) : xs = ys := by
  apply List.ext_getElem? 
  intro i
  by_cases h1 : i < xs.length
  · exact he i h1
  · rw [List.getElem?_eq_none (by omega), List.getElem?_eq_none (by omega)]

set_option maxRecDepth 20000 in
theorem same_calls (A B : Option Addr) (c d : Nat) (xs ys : List UInt8) (w : World) (hx : Bs w A xs) (hy : Bs w B ys) (hm : xs.length ≤ 9223372036854775806) :
    Calls Try.prog 12 #[.slice A xs.length c, .slice B ys.length d] w fun e w' => e = .returned (.bool (decide (xs = ys))) ∧ ∃ n, w' = w.drewN n := by
  by_cases hl : xs.length = ys.length
  · have hb : ((xs.length : Int) != (ys.length : Int)) = false := bne_eq_false_iff_eq.2 (by omega)
    have hle : xs.length ≤ ys.length := by omega
    have HL := Lib.hid hl
    clear hl
    go_enter Try.func12, Try.ntmps12
    go_wp2_with fail
    go_loopw [5] (fun u wr => ∃ k n : Nat, u = .int .i64 k ∧ k ≤ xs.length ∧ Hid (∀ j, j < k → xs[j]? = ys[j]?) ∧ Hid (wr = w.drewN n)) (fun u _ => xs.length - (intOf u).toNat)
    case atStart => exact ⟨0, 0, rfl, Nat.zero_le _, Lib.hid (fun j hj => absurd hj (by omega)), Lib.hid rfl⟩
    case round =>
      obtain ⟨k, n, rfl, hk, HE, HW⟩ := hrel
      obtain rfl := HW.out
      clear HW
      by_cases hlt : k < xs.length
      · have h1 : k < ys.length := by omega
        obtain ⟨a1, p, rfl, g1, P1, p1⟩ := hx.byte k hlt
        obtain ⟨a2, q, rfl, g2, Q1, q1⟩ := hy.byte k h1
        have i0 : (0 : Int) ≤ (k : Int) := by omega
        have i1 : (k : Int) < (xs.length : Int) := by omega
        have i2 : (k : Int) < (ys.length : Int) := by omega
        by_cases he : p = q
        · subst he
          have HE2 : Hid (∀ j, j < k + 1 → xs[j]? = ys[j]?) := by
            intro j hj
            rcases Nat.lt_or_ge j k with h2 | h2
            · exact HE.out j h2
            · rw [show j = k by omega, P1.out, Q1.out]
          go_wp2_with fail
          go_quiet (fail)
          go_wp2_with fail
          go_roundw
          case rel => exact ⟨k + 1, _, by go_num, by omega, HE2, Lib.hid rfl⟩
          case measure => simp [intOf]; omega
        · have hq : ((p.toNat : Int) != (q.toNat : Int)) = true := by
            rw [bne_iff_ne]
            intro h2
            exact he (UInt8.toNat_inj.1 (by omega))
          have HN : Hid (¬ xs = ys) := by
            intro h2
            have h3 := P1.out
            rw [h2, Q1.out] at h3
            exact he (Option.some.inj h3).symm
          clear he
          go_wp2_with fail
          go_quiet (fail)
          go_wp2_with fail
          go_ret
          exact ⟨by rw [decide_eq_false HN.out]; rfl, _, World.drewN_drewN ..⟩
      · have HN : Hid (xs = ys) := eq_of_get HL.out (fun j hj => HE.out j (by omega))
        have i1 : ¬ (k : Int) < (xs.length : Int) := by omega
        go_wp2_with fail
        go_ret
        exact ⟨by rw [decide_eq_true HN.out]; rfl, _, rfl⟩
  · have hb : ((xs.length : Int) != (ys.length : Int)) = true := bne_iff_ne.2 (by omega)
    have HN : Hid (¬ xs = ys) := fun h => hl (by rw [h])
    clear hl
    go_enter Try.func12, Try.ntmps12
    go_wp2_with fail
    go_ret
    exact ⟨by rw [decide_eq_false HN.out]; rfl, 0, rfl⟩
/-- of the heads of two lists -/
theorem same_cut (A B : Option Addr) (c d : Nat) (xs ys : List UInt8) (k : Nat) (w : World) (hx : Bs w A (xs.take k)) (hy : Bs w B (ys.take k)) (h1 : k ≤ xs.length) (h2 : k ≤ ys.length) (hm : k ≤ 9223372036854775806) :
    Calls Try.prog 12 #[.slice A k c, .slice B k d] w fun e w' => e = .returned (.bool (decide (xs.take k = ys.take k))) ∧ ∃ n, w' = w.drewN n := by
  have hl : (xs.take k).length = k := by simp; omega
  have hl2 : (ys.take k).length = k := by simp; omega
  have := same_calls A B c d (xs.take k) (ys.take k) w hx hy (by omega)
  rw [hl, hl2] at this
  exact this
end Go.Proofs.Ytgpniihkggffeaa
