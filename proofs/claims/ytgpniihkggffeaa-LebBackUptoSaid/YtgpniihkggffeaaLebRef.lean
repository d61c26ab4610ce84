/- The reference's Get tells what bytes begin with ('getAt'). -/
import Derived.Test.YtgpniihkggffeaaLebGet
set_option linter.unusedVariables false
set_option linter.unusedSimpArgs false
namespace Go.Proofs.Ytgpniihkggffeaa
open Go.RowKit

set_option maxRecDepth 20000 in
set_option maxHeartbeats 1000000 in
theorem ref_Get_in (A : Option Addr) (c : Nat) (l : List UInt8) (k : Nat) (w : World) (hl : Bs w A l) (hk : k < l.length) (hc : l.length ≤ c) (hm : l.length ≤ 9223372036854775000) :
    Calls Try.prog 10 #[.slice A l.length c, .int .i64 k] w fun e w' => e = .returned (.tuple #[.int .u64 (getAt l k).1, .int .i64 (getAt l k).2.1, .int .i64 (getAt l k).2.2]) ∧ w = w' := by
  go_enter Try.func10, Try.ntmps10
  have i0 : ¬ ((k : Int) < 0) := by omega
  have i1 : ¬ ((l.length : Int) ≤ (k : Int)) := by omega
  go_wp2_with fail
  go_loopg [7] 11 (fun g u wr => ∃ j : Nat, u = .int .i64 j ∧ g + j = 11 ∧ j ≤ 10 ∧ j + k ≤ l.length ∧ Hid (w = wr) ∧ Lead (l.drop k) j)
  case atStart => exact ⟨0, rfl, rfl, by omega, by omega, Lib.hid rfl, fun i b h => absurd h (by omega)⟩
  case round =>
    obtain ⟨j, rfl, hg, hj, hjk, HW, HL⟩ := hrel
    obtain rfl := HW.out
    clear HW
    by_cases h10 : j = 10
    · subst h10
      have H9 : (l.drop k)[9]? = some ((l.drop k)[9]'(by simp; omega)) := List.getElem?_eq_getElem (by simp; omega)
      have HF := Lib.hid (getAt_err (l := l) (k := k) (lead_form (k := 9) (fun i b h => HL i b (by omega)) (by omega) H9 (.inl ⟨rfl, by have := HL 9 _ (by omega) H9; omega⟩)) (by omega))
      clear H9
      go_wp2_with fail
      go_ret3
      exact ⟨by rw [HF.out]; rfl, rfl⟩
    · have e10 : ((j : Int) == 10) = false := beq_eq_false_iff_ne.2 (by omega)
      have d10 : decide ((j : Int) < 10) = true := decide_eq_true (by omega)
      by_cases hlt : j + k < l.length
      · obtain ⟨ad, b, rfl, hb, HB, hb1⟩ := hl.byte (k + j) (by omega)
        have HB2 : Hid ((l.drop k)[j]? = some b) := by unfold Hid; rw [List.getElem?_drop]; exact HB.out
        have j1 : decide ((j : Int) < (l.length : Int) - (k : Int)) = true := decide_eq_true (by omega)
        have j2 : (0 : Int) ≤ (j : Int) := by omega
        have j3 : ((j : Int) == (l.length : Int) - (k : Int)) = false := beq_eq_false_iff_ne.2 (by omega)
        have k1 : (0 : Int) ≤ (k : Int) + (j : Int) := by omega
        have k2 : (k : Int) + (j : Int) < (l.length : Int) := by omega
        have k3 : Hid (((k : Int) + (j : Int)).toNat = k + j) := by unfold Hid; omega
        by_cases h128 : b.toNat < 128
        · have d1 : decide (127 < (b.toNat : Int)) = false := decide_eq_false (by omega)
          by_cases hform : (j = 9 ∧ 1 < b.toNat) ∨ (b.toNat = 0 ∧ 0 < j)
          · have HF := Lib.hid (getAt_err (l := l) (k := k) (lead_form HL (by omega) HB2.out hform) (by omega))
            by_cases h9 : j = 9
            · have hb9 : w.cell? ⟨ad.block, ad.off + (k + 8 + 1), none⟩ = some (.int .u8 (b.toNat : Int)) := by
                rw [h9] at hb; simpa [Addr.add] using hb
              have e9 : ((j : Int) == 9) = true := beq_iff_eq.2 (by omega)
              have q1 : (0 : Int) ≤ (k : Int) + 9 := by omega
              have q2 : (k : Int) + 9 < (l.length : Int) := by omega
              by_cases h1 : 1 < b.toNat
              · have d2 : decide (1 < (b.toNat : Int)) = true := decide_eq_true (by omega)
                clear hform h1 h10 h9
                go_wp2_with fail
                go_ret3
                exact ⟨by rw [HF.out]; rfl, rfl⟩
              · have d2 : decide (1 < (b.toNat : Int)) = false := decide_eq_false (by omega)
                have e0 : ((b.toNat : Int) == 0) = true := beq_iff_eq.2 (by omega)
                have d3 : decide (0 < j) = true := decide_eq_true (by omega)
                clear hform h1 h10 h9
                go_wp2_with fail
                go_ret3
                exact ⟨by rw [HF.out]; rfl, rfl⟩
            · have e9 : ((j : Int) == 9) = false := beq_eq_false_iff_ne.2 (by omega)
              have e0 : ((b.toNat : Int) == 0) = true := beq_iff_eq.2 (by omega)
              have d3 : decide (0 < j) = true := decide_eq_true (by omega)
              clear hform h10 h9
              go_wp2_with fail
              go_ret3
              exact ⟨by rw [HF.out]; rfl, rfl⟩
          · have HF := Lib.hid (getAt_ok (l := l) (lead_ok HL (by omega) HB2.out hform h128))
            have HG := Lib.hid (lead_ok HL (by omega) HB2.out hform h128)
            have hb9 : j = 9 → w.cell? ⟨ad.block, ad.off + (k + 8 + 1), none⟩ = some (.int .u8 (b.toNat : Int)) := by
              intro h9; rw [h9] at hb; simpa [Addr.add] using hb
            have q1 : (0 : Int) ≤ (k : Int) + 9 := by omega
            have way : ((((j : Int) == 9) = true ∧ w.cell? ⟨ad.block, ad.off + (k + 8 + 1), none⟩ = some (.int .u8 (b.toNat : Int)) ∧ (k : Int) + 9 < (l.length : Int) ∧ decide (1 < (b.toNat : Int)) = false ∧ ((b.toNat : Int) == 0) = false ∧ decide (0 < j) = true) ∨
                (((j : Int) == 9) = false ∧ ((b.toNat : Int) == 0) = false ∧ decide (0 < j) = true) ∨ (((j : Int) == 9) = false ∧ ((b.toNat : Int) == 0) = false ∧ decide (0 < j) = false) ∨ (((j : Int) == 9) = false ∧ ((b.toNat : Int) == 0) = true ∧ decide (0 < j) = false)) := by
              by_cases h9 : j = 9
              · exact .inl ⟨beq_iff_eq.2 (by omega), hb9 h9, by omega, decide_eq_false (by omega), beq_eq_false_iff_ne.2 (by omega), decide_eq_true (by omega)⟩
              · by_cases h0 : b.toNat = 0
                · exact .inr (.inr (.inr ⟨beq_eq_false_iff_ne.2 (by omega), beq_iff_eq.2 (by omega), decide_eq_false (by omega)⟩))
                · by_cases hj0 : 0 < j
                  · exact .inr (.inl ⟨beq_eq_false_iff_ne.2 (by omega), beq_eq_false_iff_ne.2 (by omega), decide_eq_true hj0⟩)
                  · exact .inr (.inr (.inl ⟨beq_eq_false_iff_ne.2 (by omega), beq_eq_false_iff_ne.2 (by omega), decide_eq_false hj0⟩))
            clear hb9
            have hj9 : j ≤ 9 := by omega
            clear hform h10
            rcases way with ⟨e9, hb9, q2, d2, e0, d3⟩ | ⟨e9, e0, d3⟩ | ⟨e9, e0, d3⟩ | ⟨e9, e0, d3⟩
            all_goals
              go_wp2_with fail
              go_loop [8, 9] (fun u v => ∃ m : Int, v = .int .i64 m ∧ -1 ≤ m ∧ m ≤ j ∧ u = .int .u64 ((horner (((l.drop k).take (j + 1)).drop (m + 1).toNat) : Nat) : Int)) (fun _ v => (intOf v + 1).toNat)
              case atStart =>
                refine ⟨j, rfl, by omega, by omega, ?_⟩
                rw [List.drop_of_length_le (by simp; omega)]
                rfl
              case round =>
                obtain ⟨m, rfl, hm0, hmj, rfl⟩ := hrel
                by_cases hm : 0 ≤ m
                · obtain ⟨ad2, b2, he2, hb2, HB3, hb3⟩ := hl.byte (k + m.toNat) (by omega)
                  obtain rfl := Option.some.inj he2
                  have HD : Hid (((l.drop k).take (j + 1)).drop m.toNat = b2 :: ((l.drop k).take (j + 1)).drop (m + 1).toNat) := by
                    have h1 : ((l.drop k).take (j + 1))[m.toNat]? = some b2 := by
                      rw [List.getElem?_take, if_pos (by omega), List.getElem?_drop]; exact HB3.out
                    have h2 := drop_cons h1
                    rw [show (m + 1).toNat = m.toNat + 1 by omega]
                    exact h2
                  have hle := horner_drop_le ((l.drop k).take (j + 1)) m.toNat
                  have hN := (get_ok HG.out).2.2.2
                  obtain ⟨acc, hacc⟩ : ∃ acc, acc = horner (((l.drop k).take (j + 1)).drop (m + 1).toNat) := ⟨_, rfl⟩
                  have hval : horner (((l.drop k).take (j + 1)).drop m.toNat) = b2.toNat % 128 + 128 * acc := by rw [HD.out, horner, hacc]
                  have hb4 : b2.toNat % 128 + 128 * acc < 18446744073709551616 := by omega
                  rw [← hacc]
                  have HV := Lib.hid hval
                  clear hacc hval hle hN
                  have t1 : 0 ≤ (k : Int) + m := by omega
                  have t2 : (k : Int) + m < (l.length : Int) := by omega
                  have t3 : w.cell? (ad.add ((k : Int) + m).toNat) = some (.int .u8 (b2.toNat : Int)) := by
                    rw [show ((k : Int) + m).toNat = k + m.toNat by omega]; exact hb2
                  clear hb2
                  go_wp2_with fail
                  go_round
                  case rel =>
                    refine ⟨m - 1, rfl, by omega, by omega, ?_⟩
                    rw [show (m - 1 + 1).toNat = m.toNat by omega, HV.out]
                    go_num
                  case measure => simp [intOf]; omega
                · have hm1 : m < 0 := by omega
                  have e1 : Hid ((m + 1).toNat = 0) := by unfold Hid; omega
                  go_wp2_with fail
                  go_ret3
                  refine ⟨?_, rfl⟩
                  rw [HF.out]
                  simp only
                  rw [e1.out]
                  go_num
        · have d1 : decide (127 < (b.toNat : Int)) = true := decide_eq_true (by omega)
          have HL2 : Lead (l.drop k) (j + 1) := HL.succ HB2.out (by omega)
          have hj9 : j ≤ 9 := by omega
          clear h10 h128
          go_wp2_with fail
          go_roundg (gk - 1)
          case measure => omega
          case rel => exact ⟨j + 1, by go_num, by omega, by omega, by omega, Lib.hid rfl, HL2⟩
      · have HF := Lib.hid (getAt_err (l := l) (k := k) (lead_short HL (by omega) (by simp; omega)) (by omega))
        have j1 : decide ((j : Int) < (l.length : Int) - (k : Int)) = false := decide_eq_false (by omega)
        have j3 : ((j : Int) == (l.length : Int) - (k : Int)) = true := beq_iff_eq.2 (by omega)
        clear h10
        go_wp2_with fail
        go_ret3
        exact ⟨by rw [HF.out]; rfl, rfl⟩
set_option maxRecDepth 20000 in
theorem ref_Get_neg (A : Option Addr) (c : Nat) (l : List UInt8) (k : Int) (w : World) (h : k < 0) :
    Calls Try.prog 10 #[.slice A l.length c, .int .i64 k] w fun e w' => e = .returned (.tuple #[.int .u64 (getAt l k).1, .int .i64 (getAt l k).2.1, .int .i64 (getAt l k).2.2]) ∧ w = w' := by
  have HF := Lib.hid (getAt_neg (l := l) h)
  have e0 : decide (k < 0) = true := decide_eq_true h
  go_enter Try.func10, Try.ntmps10
  go_wp2_with fail
  go_ret3
  exact ⟨by rw [HF.out]; rfl, rfl⟩
set_option maxRecDepth 20000 in
theorem ref_Get_out (A : Option Addr) (c : Nat) (l : List UInt8) (k : Int) (w : World) (h0 : ¬ k < 0) (h : (l.length : Int) ≤ k) :
    Calls Try.prog 10 #[.slice A l.length c, .int .i64 k] w fun e w' => e = .returned (.tuple #[.int .u64 (getAt l k).1, .int .i64 (getAt l k).2.1, .int .i64 (getAt l k).2.2]) ∧ w = w' := by
  have HF := Lib.hid (getAt_out (l := l) h0 h)
  have e0 : decide (k < 0) = false := decide_eq_false h0
  have e1 : decide ((l.length : Int) ≤ k) = true := decide_eq_true h
  go_enter Try.func10, Try.ntmps10
  go_wp2_with fail
  go_ret3
  exact ⟨by rw [HF.out]; rfl, rfl⟩
theorem ref_Get (A : Option Addr) (c : Nat) (l : List UInt8) (k : Int) (w : World) (hl : Bs w A l) (hc : l.length ≤ c) (hm : l.length ≤ 9223372036854775000) :
    Calls Try.prog 10 #[.slice A l.length c, .int .i64 k] w fun e w' => e = .returned (.tuple #[.int .u64 (getAt l k).1, .int .i64 (getAt l k).2.1, .int .i64 (getAt l k).2.2]) ∧ w = w' := by
  by_cases h0 : k < 0
  · exact ref_Get_neg A c l k w h0
  · by_cases h1 : (l.length : Int) ≤ k
    · exact ref_Get_out A c l k w h0 h1
    · obtain ⟨n, rfl⟩ := Int.eq_ofNat_of_zero_le (Int.not_lt.1 h0)
      exact ref_Get_in A c l n w hl (by omega) hc hm
/-- The same two, where what is told is known. -/
theorem leb_Get_eq (A : Option Addr) (c : Nat) (l : List UInt8) (k : Int) (w : World) (hl : Bs w A l) (hc : l.length ≤ c) (hm : l.length ≤ 9223372036854775000) {n : Nat} {nx e0 : Int} (h : getAt l k = (n, nx, e0)) :
    Calls Try.prog 9 #[.slice A l.length c, .int .i64 k] w fun e w' => e = .returned (.tuple #[.int .u64 n, .int .i64 nx, .int .i64 e0]) ∧ w = w' := by
  have := leb_Get A c l k w hl hc hm
  rw [h] at this
  exact this
theorem ref_Get_eq (A : Option Addr) (c : Nat) (l : List UInt8) (k : Int) (w : World) (hl : Bs w A l) (hc : l.length ≤ c) (hm : l.length ≤ 9223372036854775000) {n : Nat} {nx e0 : Int} (h : getAt l k = (n, nx, e0)) :
    Calls Try.prog 10 #[.slice A l.length c, .int .i64 k] w fun e w' => e = .returned (.tuple #[.int .u64 n, .int .i64 nx, .int .i64 e0]) ∧ w = w' := by
  have := ref_Get A c l k w hl hc hm
  rw [h] at this
  exact this
end Go.Proofs.Ytgpniihkggffeaa
