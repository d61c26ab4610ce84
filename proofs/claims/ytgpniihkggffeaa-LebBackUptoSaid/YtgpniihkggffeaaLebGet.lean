/- leb.Get and the reference's both tell what bytes begin with ('getAt'). -/
import Derived.Test.YtgpniihkggffeaaLeb
set_option linter.unusedVariables false
set_option linter.unusedSimpArgs false
namespace Go.Proofs.Ytgpniihkggffeaa
open Go.RowKit

theorem or_shift (acc b j : Nat) (hj : j ≤ 9) (h1 : acc < 2 ^ (7 * j)) (h2 : b < 128) (h3 : j = 9 → b ≤ 1) :
    bits .or .u64 (acc : Int) (IntKind.u64.wrap ((b : Int) * 2 ^ (7 * j))) = ((acc + b * 2 ^ (7 * j) : Nat) : Int) := by
  have e : ((b : Int) * 2 ^ (7 * j)) = ((b * 2 ^ (7 * j) : Nat) : Int) := by push_cast; rfl
  have hlt : b * 2 ^ (7 * j) < 18446744073709551616 := by
    rcases Nat.lt_or_ge j 9 with h9 | h9
    · have a1 : b * 2 ^ (7 * j) ≤ 127 * 2 ^ 56 := Nat.mul_le_mul (by omega) (Nat.pow_le_pow_right (by omega) (by omega))
      omega
    · obtain rfl : j = 9 := by omega
      have := h3 rfl
      have a1 : b * 2 ^ (7 * 9) ≤ 1 * 2 ^ 63 := Nat.mul_le_mul (by omega) (Nat.le_refl _)
      omega
  have ha : acc < 18446744073709551616 := by
    have : 2 ^ (7 * j) ≤ 2 ^ 63 := Nat.pow_le_pow_right (by omega) (by omega)
    omega
  rw [e, IntKind.wrap_u64, show ((b * 2 ^ (7 * j) : Nat) : Int) % 18446744073709551616 = ((b * 2 ^ (7 * j) : Nat) : Int) by omega, u64_or_nat _ _ ha hlt]
  congr 1
  rw [Nat.or_comm, Nat.mul_comm, ← Nat.two_pow_add_eq_or_of_lt h1, Nat.add_comm]
theorem and127_ : ∀ x : Fin 256, bits .and .u8 ((x.val : Nat) : Int) 127 = ((x.val % 128 : Nat) : Int) := by decide +kernel
theorem and127 (x : Nat) (h1 : x < 256) : bits .and .u8 (x : Int) 127 = ((x % 128 : Nat) : Int) := and127_ ⟨x, h1⟩

set_option maxRecDepth 20000 in
set_option maxHeartbeats 1000000 in
theorem leb_Get_in (A : Option Addr) (c : Nat) (l : List UInt8) (k : Nat) (w : World) (hl : Bs w A l) (hk : k < l.length) (hc : l.length ≤ c) (hm : l.length ≤ 9223372036854775000) :
    Calls Try.prog 9 #[.slice A l.length c, .int .i64 k] w fun e w' => e = .returned (.tuple #[.int .u64 (getAt l k).1, .int .i64 (getAt l k).2.1, .int .i64 (getAt l k).2.2]) ∧ w = w' := by
  go_enter Try.func9, Try.ntmps9
  have i0 : ¬ ((k : Int) < 0) := by omega
  have i1 : ¬ ((l.length : Int) ≤ (k : Int)) := by omega
  go_wp2_with fail
  go_step3
  go_wp2_with fail
  go_step3
  go_wp2_with fail
  go_loopg [25, 7, 8] 10 (fun g u v x wr => ∃ j : Nat, u = .int .i64 j ∧ v = .int .u64 ((horner ((l.drop k).take j) : Nat) : Int) ∧ x = .int .i64 30 ∧ g + j = 10 ∧ j ≤ 9 ∧ j + k ≤ l.length ∧ Hid (w = wr) ∧ Lead (l.drop k) j)
  case atStart => exact ⟨0, rfl, rfl, rfl, rfl, by omega, by omega, Lib.hid rfl, fun i b h => absurd h (by omega)⟩
  case round =>
    obtain ⟨j, rfl, rfl, rfl, hg, hj, hjk, HW, HL⟩ := hrel
    obtain rfl := HW.out
    clear HW
    have hhl := horner_lt ((l.drop k).take j)
    rw [show ((l.drop k).take j).length = j by simp; omega] at hhl
    obtain ⟨acc, hacc⟩ : ∃ acc, acc = horner ((l.drop k).take j) := ⟨_, rfl⟩
    rw [← hacc] at hhl ⊢
    have HA := Lib.hid hacc
    clear hacc
    by_cases hlt : j + k < l.length
    · obtain ⟨ad, b, rfl, hb, HB, hb1⟩ := hl.byte (k + j) (by omega)
      rw [← add_add] at hb
      have HB2 : Hid ((l.drop k)[j]? = some b) := by unfold Hid; rw [List.getElem?_drop]; exact HB.out
      have j1 : (j : Int) < ((l.length - k : Nat) : Int) := by omega
      have j2 : (0 : Int) ≤ (j : Int) := by omega
      by_cases hform : (j = 9 ∧ 1 < b.toNat) ∨ (b.toNat = 0 ∧ 0 < j)
      · have HF := Lib.hid (getAt_err (l := l) (k := k) (lead_form HL hj HB2.out hform) (by omega))
        rcases hform with ⟨h9, h1⟩ | ⟨h0, h1⟩
        · have e9 : ((j : Int) == 9) = true := beq_iff_eq.2 (by omega)
          have e1 : decide (1 < ((b.toNat : Nat) : Int)) = true := decide_eq_true (by omega)
          clear h9 h1
          go_wp2_with fail
          try simp only [Exit.noGoto]
          go_ret3
          exact ⟨by rw [HF.out]; rfl, rfl⟩
        · have H0 := Lib.hid h0
          by_cases h9 : j = 9
          · have e9 : ((j : Int) == 9) = true := beq_iff_eq.2 (by omega)
            have e1 : decide (1 < ((b.toNat : Nat) : Int)) = false := decide_eq_false (by omega)
            have e0 : (((b.toNat : Nat) : Int) == 0) = true := beq_iff_eq.2 (by omega)
            have e2 : decide (0 < j) = true := decide_eq_true (by omega)
            clear h9 h0 h1
            go_wp2_with fail
            try simp only [Exit.noGoto]
            go_ret3
            exact ⟨by rw [HF.out]; rfl, rfl⟩
          · have e9 : ((j : Int) == 9) = false := beq_eq_false_iff_ne.2 (by omega)
            have e0 : (((b.toNat : Nat) : Int) == 0) = true := beq_iff_eq.2 (by omega)
            have e2 : decide (0 < j) = true := decide_eq_true (by omega)
            clear h9 h0 h1
            go_wp2_with fail
            try simp only [Exit.noGoto]
            go_ret3
            exact ⟨by rw [HF.out]; rfl, rfl⟩
      · by_cases h128 : b.toNat < 128
        · have HF := Lib.hid (getAt_ok (l := l) (lead_ok HL hj HB2.out hform h128))
          have HV : Hid (bits .or .u64 (acc : Int) (IntKind.u64.wrap ((b.toNat : Int) * 2 ^ (7 * j))) = ((horner ((l.drop k).take (j + 1)) : Nat) : Int)) := by
            unfold Hid
            rw [or_shift acc b.toNat j hj hhl h128 (fun h9 => by omega), take_snoc HB2.out, horner_snoc, ← HA.out, Nat.mod_eq_of_lt h128]
            simp [show min j (l.length - k) = j by omega]
          have e4 : decide (((b.toNat : Nat) : Int) < 128) = true := decide_eq_true (by omega)
          by_cases h9 : j = 9
          · have e9 : ((j : Int) == 9) = true := beq_iff_eq.2 (by omega)
            have e1 : decide (1 < ((b.toNat : Nat) : Int)) = false := decide_eq_false (by omega)
            have e0 : (((b.toNat : Nat) : Int) == 0) = false := beq_eq_false_iff_ne.2 (by omega)
            clear h9 h128 hform
            go_wp2_with fail
            try simp only [Exit.noGoto]
            go_ret3
            exact ⟨by rw [HF.out]; simp only; rw [← HV.out]; go_num, rfl⟩
          · have e9 : ((j : Int) == 9) = false := beq_eq_false_iff_ne.2 (by omega)
            by_cases h0 : b.toNat = 0
            · have e0 : (((b.toNat : Nat) : Int) == 0) = true := beq_iff_eq.2 (by omega)
              have e2 : decide (0 < j) = false := decide_eq_false (by omega)
              clear h9 h0 h128 hform
              go_wp2_with fail
              try simp only [Exit.noGoto]
              go_ret3
              exact ⟨by rw [HF.out]; simp only; rw [← HV.out]; go_num, rfl⟩
            · have e0 : (((b.toNat : Nat) : Int) == 0) = false := beq_eq_false_iff_ne.2 (by omega)
              clear h9 h0 h128 hform
              go_wp2_with fail
              try simp only [Exit.noGoto]
              go_ret3
              exact ⟨by rw [HF.out]; simp only; rw [← HV.out]; go_num, rfl⟩
        · have HL2 : Lead (l.drop k) (j + 1) := HL.succ HB2.out (by omega)
          have HV : Hid (bits .or .u64 (acc : Int) (IntKind.u64.wrap (IntKind.u64.wrap (bits .and .u8 (b.toNat : Int) 127) * 2 ^ (7 * j))) = ((horner ((l.drop k).take (j + 1)) : Nat) : Int)) := by
            unfold Hid
            rw [and127 _ hb1, IntKind.wrap_u64 ((b.toNat % 128 : Nat) : Int), show ((b.toNat % 128 : Nat) : Int) % 18446744073709551616 = ((b.toNat % 128 : Nat) : Int) by omega, or_shift acc (b.toNat % 128) j hj hhl (by omega) (fun h9 => by omega), take_snoc HB2.out, horner_snoc, ← HA.out]
            simp [show min j (l.length - k) = j by omega]
          have j9 : j + 1 ≤ 9 := by omega
          have e4 : decide (((b.toNat : Nat) : Int) < 128) = false := decide_eq_false (by omega)
          have e9 : ((j : Int) == 9) = false := beq_eq_false_iff_ne.2 (by omega)
          have e0 : (((b.toNat : Nat) : Int) == 0) = false := beq_eq_false_iff_ne.2 (by omega)
          clear h128 hform
          go_wp2_with fail
          go_roundg (gk - 1)
          case measure => omega
          case rel => exact ⟨j + 1, by go_num, by rw [← HV.out], rfl, by omega, j9, by omega, Lib.hid rfl, HL2⟩
    · have HF := Lib.hid (getAt_err (l := l) (k := k) (lead_short HL hj (by simp; omega)) (by omega))
      have j1 : ¬ (j : Int) < ((l.length - k : Nat) : Int) := by omega
      go_wp2_with fail
      try simp only [Exit.noGoto]
      go_ret3
      exact ⟨by rw [HF.out]; rfl, rfl⟩
set_option maxRecDepth 20000 in
theorem leb_Get_neg (A : Option Addr) (c : Nat) (l : List UInt8) (k : Int) (w : World) (h : k < 0) :
    Calls Try.prog 9 #[.slice A l.length c, .int .i64 k] w fun e w' => e = .returned (.tuple #[.int .u64 (getAt l k).1, .int .i64 (getAt l k).2.1, .int .i64 (getAt l k).2.2]) ∧ w = w' := by
  have HF := Lib.hid (getAt_neg (l := l) h)
  have e0 : decide (k < 0) = true := decide_eq_true h
  go_enter Try.func9, Try.ntmps9
  go_wp2_with fail
  go_step3
  go_wp2_with fail
  try simp only [Exit.noGoto]
  go_ret3
  exact ⟨by rw [HF.out]; rfl, rfl⟩
set_option maxRecDepth 20000 in
theorem leb_Get_out (A : Option Addr) (c : Nat) (l : List UInt8) (k : Int) (w : World) (h0 : ¬ k < 0) (h : (l.length : Int) ≤ k) :
    Calls Try.prog 9 #[.slice A l.length c, .int .i64 k] w fun e w' => e = .returned (.tuple #[.int .u64 (getAt l k).1, .int .i64 (getAt l k).2.1, .int .i64 (getAt l k).2.2]) ∧ w = w' := by
  have HF := Lib.hid (getAt_out (l := l) h0 h)
  have e0 : decide (k < 0) = false := decide_eq_false h0
  have e1 : decide ((l.length : Int) ≤ k) = true := decide_eq_true h
  go_enter Try.func9, Try.ntmps9
  go_wp2_with fail
  go_step3
  go_wp2_with fail
  try simp only [Exit.noGoto]
  go_ret3
  exact ⟨by rw [HF.out]; rfl, rfl⟩
theorem leb_Get (A : Option Addr) (c : Nat) (l : List UInt8) (k : Int) (w : World) (hl : Bs w A l) (hc : l.length ≤ c) (hm : l.length ≤ 9223372036854775000) :
    Calls Try.prog 9 #[.slice A l.length c, .int .i64 k] w fun e w' => e = .returned (.tuple #[.int .u64 (getAt l k).1, .int .i64 (getAt l k).2.1, .int .i64 (getAt l k).2.2]) ∧ w = w' := by
  by_cases h0 : k < 0
  · exact leb_Get_neg A c l k w h0
  · by_cases h1 : (l.length : Int) ≤ k
    · exact leb_Get_out A c l k w h0 h1
    · obtain ⟨n, rfl⟩ := Int.eq_ofNat_of_zero_le (Int.not_lt.1 h0)
      exact leb_Get_in A c l n w hl (by omega) hc hm
end Go.Proofs.Ytgpniihkggffeaa
