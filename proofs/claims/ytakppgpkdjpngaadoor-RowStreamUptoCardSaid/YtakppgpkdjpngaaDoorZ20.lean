/- Merged: LebGet, LebRef, ALeb, OfPure. -/
import Derived.Test.YtakppgpkdjpngaaDoorZ19
/- leb.Get and the reference's both tell what bytes begin with ('getAt'). -/
set_option linter.unusedVariables false
set_option linter.unusedSimpArgs false
namespace Go.Proofs.YtakppgpkdjpngaaDoor
open Go.RowKit

theorem or_shift (acc b j : Nat) (hj : j ≤ 9) (h1 : acc < 2 ^ (7 * j)) (h2 : b < 128) (h3 : j = 9 → b ≤ 1) :
    bits .or .u64 (acc : Int) (IntKind.u64.wrap ((b : Int) * 2 ^ (7 * j))) = ((acc + b * 2 ^ (7 * j) : Nat) : Int) := by
  have e : ((b : Int) * 2 ^ (7 * j)) = ((b * 2 ^ (7 * j) : Nat) : Int) := by push_cast; rfl
  have hlt : b * 2 ^ (7 * j) < 18446744073709551616 := by
    rcases Nat.lt_or_ge j 9 with h9 | h9
    · have a1 : b * 2 ^ (7 * j) ≤ 127 * 2 ^ 56 := Nat.mul_le_mul (by omega) (Nat.pow_le_pow_right (by omega) (by omega))
      omega
    · obtain rfl : j = 9 := by omega
      have := h3 rfl
      have a1 : b * 2 ^ (7 * 9) ≤ 1 * 2 ^ 63 := Nat.mul_le_mul (by omega) (Nat.le_refl _)
      omega
  have ha : acc < 18446744073709551616 := by
    have : 2 ^ (7 * j) ≤ 2 ^ 63 := Nat.pow_le_pow_right (by omega) (by omega)
    omega
  rw [e, IntKind.wrap_u64, show ((b * 2 ^ (7 * j) : Nat) : Int) % 18446744073709551616 = ((b * 2 ^ (7 * j) : Nat) : Int) by omega, u64_or_nat _ _ ha hlt]
  congr 1
  rw [Nat.or_comm, Nat.mul_comm, ← Nat.two_pow_add_eq_or_of_lt h1, Nat.add_comm]
theorem and127_ : ∀ x : Fin 256, bits .and .u8 ((x.val : Nat) : Int) 127 = ((x.val % 128 : Nat) : Int) := by decide +kernel
theorem and127 (x : Nat) (h1 : x < 256) : bits .and .u8 (x : Int) 127 = ((x % 128 : Nat) : Int) := and127_ ⟨x, h1⟩

set_option maxRecDepth 20000 in
set_option maxHeartbeats 1000000 in
theorem leb_Get_in (A : Option Addr) (c : Nat) (l : List UInt8) (k : Nat) (w : World) (hl : Bs w A l) (hk : k < l.length) (hc : l.length ≤ c) (hm : l.length ≤ 9223372036854775000) :
    Calls Tryd.prog 106 #[.slice A l.length c, .int .i64 k] w fun e w' => e = .returned (.tuple #[.int .u64 (getAt l k).1, .int .i64 (getAt l k).2.1, .int .i64 (getAt l k).2.2]) ∧ w = w' := by
  go_enter Tryd.func106, Tryd.ntmps106
  have i0 : ¬ ((k : Int) < 0) := by omega
  have i1 : ¬ ((l.length : Int) ≤ (k : Int)) := by omega
  go_wp2_with fail
  go_step3
  go_wp2_with fail
  go_step3
  go_wp2_with fail
  go_loopg [25, 7, 8] 10 (fun g u v x wr => ∃ j : Nat, u = .int .i64 j ∧ v = .int .u64 ((horner ((l.drop k).take j) : Nat) : Int) ∧ x = .int .i64 30 ∧ g + j = 10 ∧ j ≤ 9 ∧ j + k ≤ l.length ∧ Hid (w = wr) ∧ Lead (l.drop k) j)
  case atStart => exact ⟨0, rfl, rfl, rfl, rfl, by omega, by omega, Lib.hid rfl, fun i b h => absurd h (by omega)⟩
  case round =>
    obtain ⟨j, rfl, rfl, rfl, hg, hj, hjk, HW, HL⟩ := hrel
    obtain rfl := HW.out
    clear HW
    have hhl := horner_lt ((l.drop k).take j)
    rw [show ((l.drop k).take j).length = j by simp; omega] at hhl
    obtain ⟨acc, hacc⟩ : ∃ acc, acc = horner ((l.drop k).take j) := ⟨_, rfl⟩
    rw [← hacc] at hhl ⊢
    have HA := Lib.hid hacc
    clear hacc
    by_cases hlt : j + k < l.length
    · obtain ⟨ad, b, rfl, hb, HB, hb1⟩ := hl.byte (k + j) (by omega)
      rw [← add_add] at hb
      have HB2 : Hid ((l.drop k)[j]? = some b) := by unfold Hid; rw [List.getElem?_drop]; exact HB.out
      have j1 : (j : Int) < ((l.length - k : Nat) : Int) := by omega
      have j2 : (0 : Int) ≤ (j : Int) := by omega
      by_cases hform : (j = 9 ∧ 1 < b.toNat) ∨ (b.toNat = 0 ∧ 0 < j)
      · have HF := Lib.hid (getAt_err (l := l) (k := k) (lead_form HL hj HB2.out hform) (by omega))
        rcases hform with ⟨h9, h1⟩ | ⟨h0, h1⟩
        · have e9 : ((j : Int) == 9) = true := beq_iff_eq.2 (by omega)
          have e1 : decide (1 < ((b.toNat : Nat) : Int)) = true := decide_eq_true (by omega)
          clear h9 h1
          go_wp2_with fail
          try simp only [Exit.noGoto]
          go_ret3
          exact ⟨by rw [HF.out]; rfl, rfl⟩
        · have H0 := Lib.hid h0
          by_cases h9 : j = 9
          · have e9 : ((j : Int) == 9) = true := beq_iff_eq.2 (by omega)
            have e1 : decide (1 < ((b.toNat : Nat) : Int)) = false := decide_eq_false (by omega)
            have e0 : (((b.toNat : Nat) : Int) == 0) = true := beq_iff_eq.2 (by omega)
            have e2 : decide (0 < j) = true := decide_eq_true (by omega)
            clear h9 h0 h1
            go_wp2_with fail
            try simp only [Exit.noGoto]
            go_ret3
            exact ⟨by rw [HF.out]; rfl, rfl⟩
          · have e9 : ((j : Int) == 9) = false := beq_eq_false_iff_ne.2 (by omega)
            have e0 : (((b.toNat : Nat) : Int) == 0) = true := beq_iff_eq.2 (by omega)
            have e2 : decide (0 < j) = true := decide_eq_true (by omega)
            clear h9 h0 h1
            go_wp2_with fail
            try simp only [Exit.noGoto]
            go_ret3
            exact ⟨by rw [HF.out]; rfl, rfl⟩
      · by_cases h128 : b.toNat < 128
        · have HF := Lib.hid (getAt_ok (l := l) (lead_ok HL hj HB2.out hform h128))
          have HV : Hid (bits .or .u64 (acc : Int) (IntKind.u64.wrap ((b.toNat : Int) * 2 ^ (7 * j))) = ((horner ((l.drop k).take (j + 1)) : Nat) : Int)) := by
            unfold Hid
            rw [or_shift acc b.toNat j hj hhl h128 (fun h9 => by omega), take_snoc HB2.out, horner_snoc, ← HA.out, Nat.mod_eq_of_lt h128]
            simp [show min j (l.length - k) = j by omega]
          have e4 : decide (((b.toNat : Nat) : Int) < 128) = true := decide_eq_true (by omega)
          by_cases h9 : j = 9
          · have e9 : ((j : Int) == 9) = true := beq_iff_eq.2 (by omega)
            have e1 : decide (1 < ((b.toNat : Nat) : Int)) = false := decide_eq_false (by omega)
            have e0 : (((b.toNat : Nat) : Int) == 0) = false := beq_eq_false_iff_ne.2 (by omega)
            clear h9 h128 hform
            go_wp2_with fail
            try simp only [Exit.noGoto]
            go_ret3
            exact ⟨by rw [HF.out]; simp only; rw [← HV.out]; go_num, rfl⟩
          · have e9 : ((j : Int) == 9) = false := beq_eq_false_iff_ne.2 (by omega)
            by_cases h0 : b.toNat = 0
            · have e0 : (((b.toNat : Nat) : Int) == 0) = true := beq_iff_eq.2 (by omega)
              have e2 : decide (0 < j) = false := decide_eq_false (by omega)
              clear h9 h0 h128 hform
              go_wp2_with fail
              try simp only [Exit.noGoto]
              go_ret3
              exact ⟨by rw [HF.out]; simp only; rw [← HV.out]; go_num, rfl⟩
            · have e0 : (((b.toNat : Nat) : Int) == 0) = false := beq_eq_false_iff_ne.2 (by omega)
              clear h9 h0 h128 hform
              go_wp2_with fail
              try simp only [Exit.noGoto]
              go_ret3
              exact ⟨by rw [HF.out]; simp only; rw [← HV.out]; go_num, rfl⟩
        · have HL2 : Lead (l.drop k) (j + 1) := HL.succ HB2.out (by omega)
          have HV : Hid (bits .or .u64 (acc : Int) (IntKind.u64.wrap (IntKind.u64.wrap (bits .and .u8 (b.toNat : Int) 127) * 2 ^ (7 * j))) = ((horner ((l.drop k).take (j + 1)) : Nat) : Int)) := by
            unfold Hid
            rw [and127 _ hb1, IntKind.wrap_u64 ((b.toNat % 128 : Nat) : Int), show ((b.toNat % 128 : Nat) : Int) % 18446744073709551616 = ((b.toNat % 128 : Nat) : Int) by omega, or_shift acc (b.toNat % 128) j hj hhl (by omega) (fun h9 => by omega), take_snoc HB2.out, horner_snoc, ← HA.out]
            simp [show min j (l.length - k) = j by omega]
          have j9 : j + 1 ≤ 9 := by omega
          have e4 : decide (((b.toNat : Nat) : Int) < 128) = false := decide_eq_false (by omega)
          have e9 : ((j : Int) == 9) = false := beq_eq_false_iff_ne.2 (by omega)
          have e0 : (((b.toNat : Nat) : Int) == 0) = false := beq_eq_false_iff_ne.2 (by omega)
          clear h128 hform
          go_wp2_with fail
          go_roundg (gk - 1)
          case measure => omega
          case rel => exact ⟨j + 1, by go_num, by rw [← HV.out], rfl, by omega, j9, by omega, Lib.hid rfl, HL2⟩
    · have HF := Lib.hid (getAt_err (l := l) (k := k) (lead_short HL hj (by simp; omega)) (by omega))
      have j1 : ¬ (j : Int) < ((l.length - k : Nat) : Int) := by omega
      go_wp2_with fail
      try simp only [Exit.noGoto]
      go_ret3
      exact ⟨by rw [HF.out]; rfl, rfl⟩
set_option maxRecDepth 20000 in
theorem leb_Get_neg (A : Option Addr) (c : Nat) (l : List UInt8) (k : Int) (w : World) (h : k < 0) :
    Calls Tryd.prog 106 #[.slice A l.length c, .int .i64 k] w fun e w' => e = .returned (.tuple #[.int .u64 (getAt l k).1, .int .i64 (getAt l k).2.1, .int .i64 (getAt l k).2.2]) ∧ w = w' := by
  have HF := Lib.hid (getAt_neg (l := l) h)
  have e0 : decide (k < 0) = true := decide_eq_true h
  go_enter Tryd.func106, Tryd.ntmps106
  go_wp2_with fail
  go_step3
  go_wp2_with fail
  try simp only [Exit.noGoto]
  go_ret3
  exact ⟨by rw [HF.out]; rfl, rfl⟩
set_option maxRecDepth 20000 in
theorem leb_Get_out (A : Option Addr) (c : Nat) (l : List UInt8) (k : Int) (w : World) (h0 : ¬ k < 0) (h : (l.length : Int) ≤ k) :
    Calls Tryd.prog 106 #[.slice A l.length c, .int .i64 k] w fun e w' => e = .returned (.tuple #[.int .u64 (getAt l k).1, .int .i64 (getAt l k).2.1, .int .i64 (getAt l k).2.2]) ∧ w = w' := by
  have HF := Lib.hid (getAt_out (l := l) h0 h)
  have e0 : decide (k < 0) = false := decide_eq_false h0
  have e1 : decide ((l.length : Int) ≤ k) = true := decide_eq_true h
  go_enter Tryd.func106, Tryd.ntmps106
  go_wp2_with fail
  go_step3
  go_wp2_with fail
  try simp only [Exit.noGoto]
  go_ret3
  exact ⟨by rw [HF.out]; rfl, rfl⟩
theorem leb_Get (A : Option Addr) (c : Nat) (l : List UInt8) (k : Int) (w : World) (hl : Bs w A l) (hc : l.length ≤ c) (hm : l.length ≤ 9223372036854775000) :
    Calls Tryd.prog 106 #[.slice A l.length c, .int .i64 k] w fun e w' => e = .returned (.tuple #[.int .u64 (getAt l k).1, .int .i64 (getAt l k).2.1, .int .i64 (getAt l k).2.2]) ∧ w = w' := by
  by_cases h0 : k < 0
  · exact leb_Get_neg A c l k w h0
  · by_cases h1 : (l.length : Int) ≤ k
    · exact leb_Get_out A c l k w h0 h1
    · obtain ⟨n, rfl⟩ := Int.eq_ofNat_of_zero_le (Int.not_lt.1 h0)
      exact leb_Get_in A c l n w hl (by omega) hc hm
end Go.Proofs.YtakppgpkdjpngaaDoor
/- The reference's Get tells what bytes begin with ('getAt'). -/
set_option linter.unusedVariables false
set_option linter.unusedSimpArgs false
namespace Go.Proofs.YtakppgpkdjpngaaDoor
open Go.RowKit

set_option maxRecDepth 20000 in
set_option maxHeartbeats 1000000 in
theorem ref_Get_in (A : Option Addr) (c : Nat) (l : List UInt8) (k : Nat) (w : World) (hl : Bs w A l) (hk : k < l.length) (hc : l.length ≤ c) (hm : l.length ≤ 9223372036854775000) :
    Calls Tryd.prog 62 #[.slice A l.length c, .int .i64 k] w fun e w' => e = .returned (.tuple #[.int .u64 (getAt l k).1, .int .i64 (getAt l k).2.1, .int .i64 (getAt l k).2.2]) ∧ w = w' := by
  go_enter Tryd.func62, Tryd.ntmps62
  have i0 : ¬ ((k : Int) < 0) := by omega
  have i1 : ¬ ((l.length : Int) ≤ (k : Int)) := by omega
  go_wp2_with fail
  go_loopg [7] 11 (fun g u wr => ∃ j : Nat, u = .int .i64 j ∧ g + j = 11 ∧ j ≤ 10 ∧ j + k ≤ l.length ∧ Hid (w = wr) ∧ Lead (l.drop k) j)
  case atStart => exact ⟨0, rfl, rfl, by omega, by omega, Lib.hid rfl, fun i b h => absurd h (by omega)⟩
  case round =>
    obtain ⟨j, rfl, hg, hj, hjk, HW, HL⟩ := hrel
    obtain rfl := HW.out
    clear HW
    by_cases h10 : j = 10
    · subst h10
      have H9 : (l.drop k)[9]? = some ((l.drop k)[9]'(by simp; omega)) := List.getElem?_eq_getElem (by simp; omega)
      have HF := Lib.hid (getAt_err (l := l) (k := k) (lead_form (k := 9) (fun i b h => HL i b (by omega)) (by omega) H9 (.inl ⟨rfl, by have := HL 9 _ (by omega) H9; omega⟩)) (by omega))
      clear H9
      go_wp2_with fail
      go_ret3
      exact ⟨by rw [HF.out]; rfl, rfl⟩
    · have e10 : ((j : Int) == 10) = false := beq_eq_false_iff_ne.2 (by omega)
      have d10 : decide ((j : Int) < 10) = true := decide_eq_true (by omega)
      by_cases hlt : j + k < l.length
      · obtain ⟨ad, b, rfl, hb, HB, hb1⟩ := hl.byte (k + j) (by omega)
        have HB2 : Hid ((l.drop k)[j]? = some b) := by unfold Hid; rw [List.getElem?_drop]; exact HB.out
        have j1 : decide ((j : Int) < (l.length : Int) - (k : Int)) = true := decide_eq_true (by omega)
        have j2 : (0 : Int) ≤ (j : Int) := by omega
        have j3 : ((j : Int) == (l.length : Int) - (k : Int)) = false := beq_eq_false_iff_ne.2 (by omega)
        have k1 : (0 : Int) ≤ (k : Int) + (j : Int) := by omega
        have k2 : (k : Int) + (j : Int) < (l.length : Int) := by omega
        have k3 : Hid (((k : Int) + (j : Int)).toNat = k + j) := by unfold Hid; omega
        by_cases h128 : b.toNat < 128
        · have d1 : decide (127 < (b.toNat : Int)) = false := decide_eq_false (by omega)
          by_cases hform : (j = 9 ∧ 1 < b.toNat) ∨ (b.toNat = 0 ∧ 0 < j)
          · have HF := Lib.hid (getAt_err (l := l) (k := k) (lead_form HL (by omega) HB2.out hform) (by omega))
            by_cases h9 : j = 9
            · have hb9 : w.cell? ⟨ad.block, ad.off + (k + 8 + 1), none⟩ = some (.int .u8 (b.toNat : Int)) := by
                rw [h9] at hb; simpa [Addr.add] using hb
              have e9 : ((j : Int) == 9) = true := beq_iff_eq.2 (by omega)
              have q1 : (0 : Int) ≤ (k : Int) + 9 := by omega
              have q2 : (k : Int) + 9 < (l.length : Int) := by omega
              by_cases h1 : 1 < b.toNat
              · have d2 : decide (1 < (b.toNat : Int)) = true := decide_eq_true (by omega)
                clear hform h1 h10 h9
                go_wp2_with fail
                go_ret3
                exact ⟨by rw [HF.out]; rfl, rfl⟩
              · have d2 : decide (1 < (b.toNat : Int)) = false := decide_eq_false (by omega)
                have e0 : ((b.toNat : Int) == 0) = true := beq_iff_eq.2 (by omega)
                have d3 : decide (0 < j) = true := decide_eq_true (by omega)
                clear hform h1 h10 h9
                go_wp2_with fail
                go_ret3
                exact ⟨by rw [HF.out]; rfl, rfl⟩
            · have e9 : ((j : Int) == 9) = false := beq_eq_false_iff_ne.2 (by omega)
              have e0 : ((b.toNat : Int) == 0) = true := beq_iff_eq.2 (by omega)
              have d3 : decide (0 < j) = true := decide_eq_true (by omega)
              clear hform h10 h9
              go_wp2_with fail
              go_ret3
              exact ⟨by rw [HF.out]; rfl, rfl⟩
          · have HF := Lib.hid (getAt_ok (l := l) (lead_ok HL (by omega) HB2.out hform h128))
            have HG := Lib.hid (lead_ok HL (by omega) HB2.out hform h128)
            have hb9 : j = 9 → w.cell? ⟨ad.block, ad.off + (k + 8 + 1), none⟩ = some (.int .u8 (b.toNat : Int)) := by
              intro h9; rw [h9] at hb; simpa [Addr.add] using hb
            have q1 : (0 : Int) ≤ (k : Int) + 9 := by omega
            have way : ((((j : Int) == 9) = true ∧ w.cell? ⟨ad.block, ad.off + (k + 8 + 1), none⟩ = some (.int .u8 (b.toNat : Int)) ∧ (k : Int) + 9 < (l.length : Int) ∧ decide (1 < (b.toNat : Int)) = false ∧ ((b.toNat : Int) == 0) = false ∧ decide (0 < j) = true) ∨
                (((j : Int) == 9) = false ∧ ((b.toNat : Int) == 0) = false ∧ decide (0 < j) = true) ∨ (((j : Int) == 9) = false ∧ ((b.toNat : Int) == 0) = false ∧ decide (0 < j) = false) ∨ (((j : Int) == 9) = false ∧ ((b.toNat : Int) == 0) = true ∧ decide (0 < j) = false)) := by
              by_cases h9 : j = 9
              · exact .inl ⟨beq_iff_eq.2 (by omega), hb9 h9, by omega, decide_eq_false (by omega), beq_eq_false_iff_ne.2 (by omega), decide_eq_true (by omega)⟩
              · by_cases h0 : b.toNat = 0
                · exact .inr (.inr (.inr ⟨beq_eq_false_iff_ne.2 (by omega), beq_iff_eq.2 (by omega), decide_eq_false (by omega)⟩))
                · by_cases hj0 : 0 < j
                  · exact .inr (.inl ⟨beq_eq_false_iff_ne.2 (by omega), beq_eq_false_iff_ne.2 (by omega), decide_eq_true hj0⟩)
                  · exact .inr (.inr (.inl ⟨beq_eq_false_iff_ne.2 (by omega), beq_eq_false_iff_ne.2 (by omega), decide_eq_false hj0⟩))
            clear hb9
            have hj9 : j ≤ 9 := by omega
            clear hform h10
            rcases way with ⟨e9, hb9, q2, d2, e0, d3⟩ | ⟨e9, e0, d3⟩ | ⟨e9, e0, d3⟩ | ⟨e9, e0, d3⟩
            all_goals
              go_wp2_with fail
              go_loop [8, 9] (fun u v => ∃ m : Int, v = .int .i64 m ∧ -1 ≤ m ∧ m ≤ j ∧ u = .int .u64 ((horner (((l.drop k).take (j + 1)).drop (m + 1).toNat) : Nat) : Int)) (fun _ v => (intOf v + 1).toNat)
              case atStart =>
                refine ⟨j, rfl, by omega, by omega, ?_⟩
                rw [List.drop_of_length_le (by simp; omega)]
                rfl
              case round =>
                obtain ⟨m, rfl, hm0, hmj, rfl⟩ := hrel
                by_cases hm : 0 ≤ m
                · obtain ⟨ad2, b2, he2, hb2, HB3, hb3⟩ := hl.byte (k + m.toNat) (by omega)
                  obtain rfl := Option.some.inj he2
                  have HD : Hid (((l.drop k).take (j + 1)).drop m.toNat = b2 :: ((l.drop k).take (j + 1)).drop (m + 1).toNat) := by
                    have h1 : ((l.drop k).take (j + 1))[m.toNat]? = some b2 := by
                      rw [List.getElem?_take, if_pos (by omega), List.getElem?_drop]; exact HB3.out
                    have h2 := drop_cons h1
                    rw [show (m + 1).toNat = m.toNat + 1 by omega]
                    exact h2
                  have hle := horner_drop_le ((l.drop k).take (j + 1)) m.toNat
                  have hN := (get_ok HG.out).2.2.2
                  obtain ⟨acc, hacc⟩ : ∃ acc, acc = horner (((l.drop k).take (j + 1)).drop (m + 1).toNat) := ⟨_, rfl⟩
                  have hval : horner (((l.drop k).take (j + 1)).drop m.toNat) = b2.toNat % 128 + 128 * acc := by rw [HD.out, horner, hacc]
                  have hb4 : b2.toNat % 128 + 128 * acc < 18446744073709551616 := by omega
                  rw [← hacc]
                  have HV := Lib.hid hval
                  clear hacc hval hle hN
                  have t1 : 0 ≤ (k : Int) + m := by omega
                  have t2 : (k : Int) + m < (l.length : Int) := by omega
                  have t3 : w.cell? (ad.add ((k : Int) + m).toNat) = some (.int .u8 (b2.toNat : Int)) := by
                    rw [show ((k : Int) + m).toNat = k + m.toNat by omega]; exact hb2
                  clear hb2
                  go_wp2_with fail
                  go_round
                  case rel =>
                    refine ⟨m - 1, rfl, by omega, by omega, ?_⟩
                    rw [show (m - 1 + 1).toNat = m.toNat by omega, HV.out]
                    go_num
                  case measure => simp [intOf]; omega
                · have hm1 : m < 0 := by omega
                  have e1 : Hid ((m + 1).toNat = 0) := by unfold Hid; omega
                  go_wp2_with fail
                  go_ret3
                  refine ⟨?_, rfl⟩
                  rw [HF.out]
                  simp only
                  rw [e1.out]
                  go_num
        · have d1 : decide (127 < (b.toNat : Int)) = true := decide_eq_true (by omega)
          have HL2 : Lead (l.drop k) (j + 1) := HL.succ HB2.out (by omega)
          have hj9 : j ≤ 9 := by omega
          clear h10 h128
          go_wp2_with fail
          go_roundg (gk - 1)
          case measure => omega
          case rel => exact ⟨j + 1, by go_num, by omega, by omega, by omega, Lib.hid rfl, HL2⟩
      · have HF := Lib.hid (getAt_err (l := l) (k := k) (lead_short HL (by omega) (by simp; omega)) (by omega))
        have j1 : decide ((j : Int) < (l.length : Int) - (k : Int)) = false := decide_eq_false (by omega)
        have j3 : ((j : Int) == (l.length : Int) - (k : Int)) = true := beq_iff_eq.2 (by omega)
        clear h10
        go_wp2_with fail
        go_ret3
        exact ⟨by rw [HF.out]; rfl, rfl⟩
set_option maxRecDepth 20000 in
theorem ref_Get_neg (A : Option Addr) (c : Nat) (l : List UInt8) (k : Int) (w : World) (h : k < 0) :
    Calls Tryd.prog 62 #[.slice A l.length c, .int .i64 k] w fun e w' => e = .returned (.tuple #[.int .u64 (getAt l k).1, .int .i64 (getAt l k).2.1, .int .i64 (getAt l k).2.2]) ∧ w = w' := by
  have HF := Lib.hid (getAt_neg (l := l) h)
  have e0 : decide (k < 0) = true := decide_eq_true h
  go_enter Tryd.func62, Tryd.ntmps62
  go_wp2_with fail
  go_ret3
  exact ⟨by rw [HF.out]; rfl, rfl⟩
set_option maxRecDepth 20000 in
theorem ref_Get_out (A : Option Addr) (c : Nat) (l : List UInt8) (k : Int) (w : World) (h0 : ¬ k < 0) (h : (l.length : Int) ≤ k) :
    Calls Tryd.prog 62 #[.slice A l.length c, .int .i64 k] w fun e w' => e = .returned (.tuple #[.int .u64 (getAt l k).1, .int .i64 (getAt l k).2.1, .int .i64 (getAt l k).2.2]) ∧ w = w' := by
  have HF := Lib.hid (getAt_out (l := l) h0 h)
  have e0 : decide (k < 0) = false := decide_eq_false h0
  have e1 : decide ((l.length : Int) ≤ k) = true := decide_eq_true h
  go_enter Tryd.func62, Tryd.ntmps62
  go_wp2_with fail
  go_ret3
  exact ⟨by rw [HF.out]; rfl, rfl⟩
theorem ref_Get (A : Option Addr) (c : Nat) (l : List UInt8) (k : Int) (w : World) (hl : Bs w A l) (hc : l.length ≤ c) (hm : l.length ≤ 9223372036854775000) :
    Calls Tryd.prog 62 #[.slice A l.length c, .int .i64 k] w fun e w' => e = .returned (.tuple #[.int .u64 (getAt l k).1, .int .i64 (getAt l k).2.1, .int .i64 (getAt l k).2.2]) ∧ w = w' := by
  by_cases h0 : k < 0
  · exact ref_Get_neg A c l k w h0
  · by_cases h1 : (l.length : Int) ≤ k
    · exact ref_Get_out A c l k w h0 h1
    · obtain ⟨n, rfl⟩ := Int.eq_ofNat_of_zero_le (Int.not_lt.1 h0)
      exact ref_Get_in A c l n w hl (by omega) hc hm
/-- The same two, where what is told is known. -/
theorem leb_Get_eq (A : Option Addr) (c : Nat) (l : List UInt8) (k : Int) (w : World) (hl : Bs w A l) (hc : l.length ≤ c) (hm : l.length ≤ 9223372036854775000) {n : Nat} {nx e0 : Int} (h : getAt l k = (n, nx, e0)) :
    Calls Tryd.prog 106 #[.slice A l.length c, .int .i64 k] w fun e w' => e = .returned (.tuple #[.int .u64 n, .int .i64 nx, .int .i64 e0]) ∧ w = w' := by
  have := leb_Get A c l k w hl hc hm
  rw [h] at this
  exact this
theorem ref_Get_eq (A : Option Addr) (c : Nat) (l : List UInt8) (k : Int) (w : World) (hl : Bs w A l) (hc : l.length ≤ c) (hm : l.length ≤ 9223372036854775000) {n : Nat} {nx e0 : Int} (h : getAt l k = (n, nx, e0)) :
    Calls Tryd.prog 62 #[.slice A l.length c, .int .i64 k] w fun e w' => e = .returned (.tuple #[.int .u64 n, .int .i64 nx, .int .i64 e0]) ∧ w = w' := by
  have := ref_Get A c l k w hl hc hm
  rw [h] at this
  exact this
end Go.Proofs.YtakppgpkdjpngaaDoor
/- Numbers as bytes, in plain data. -/
set_option linter.unusedVariables false
set_option linter.unusedSimpArgs false
namespace Go.Proofs.YtakppgpkdjpngaaDoor
open Go.RowKit
theorem asim_1 {g : Gh} {v : Value} {vs : List Value} (h : ASim g [.s v] vs) : vs = [v] := by
  cases h with
  | cons h hr => cases hr; cases h; rfl
theorem g_Put (n : Nat) (hn : n < 18446744073709551616) {st : AS} {R : AOut → AS → Prop} (hR : R (.ret (.sl true (.lin st.ln.length) (encB (put n)))) ⟨st.bx, st.ln ++ [((put n).length, 5, 1)]⟩) : DoesCall Tryd.prog 74 [.s (.int .u64 n)] st R :=
  .of_own (put_pos n) (by have := put_ten hn; omega) hR fun g w vs hi ha => by
    obtain rfl := asim_1 ha
    exact leb_Put n hn w
theorem g_rPut (n : Nat) (hn : n < 18446744073709551616) {st : AS} {R : AOut → AS → Prop} (hR : R (.ret (.sl true (.lin st.ln.length) (encB (put n)))) ⟨st.bx, st.ln ++ [((put n).length, 5, 1)]⟩) : DoesCall Tryd.prog 65 [.s (.int .u64 n)] st R :=
  .of_own (put_pos n) (by have := put_ten hn; omega) hR fun g w vs hi ha => by
    obtain rfl := asim_1 ha
    exact ref_Put n hn w
theorem g_Zig (n : Int) (h1 : -9223372036854775808 ≤ n) (h2 : n ≤ 9223372036854775807) : Gives Tryd.prog 103 [.s (.int .i64 n)] (.s (.int .u64 (zig n))) := fun st => by
  refine DoesCall.of_kept fun g w vs hi ha => ?_
  obtain rfl := asim_1 ha
  refine (leb_Zig n h1 h2 w).mono ?_
  rintro e w' ⟨rfl, rfl⟩
  exact ⟨_, .ret _ _ (.s _ rfl), ⟨rfl, rfl⟩, Kept.refl _⟩
theorem g_rZig (n : Int) (h1 : -9223372036854775808 ≤ n) (h2 : n ≤ 9223372036854775807) : Gives Tryd.prog 64 [.s (.int .i64 n)] (.s (.int .u64 (zig n))) := fun st => by
  refine DoesCall.of_kept fun g w vs hi ha => ?_
  obtain rfl := asim_1 ha
  refine (ref_Zig n h1 h2 w).mono ?_
  rintro e w' ⟨rfl, rfl⟩
  exact ⟨_, .ret _ _ (.s _ rfl), ⟨rfl, rfl⟩, Kept.refl _⟩
theorem g_Zag (n : Nat) (h : n < 18446744073709551616) : Gives Tryd.prog 84 [.s (.int .u64 n)] (.s (.int .i64 (zag n))) := fun st => by
  refine DoesCall.of_kept fun g w vs hi ha => ?_
  obtain rfl := asim_1 ha
  refine (leb_Zag n h w).mono ?_
  rintro e w' ⟨rfl, rfl⟩
  exact ⟨_, .ret _ _ (.s _ rfl), ⟨rfl, rfl⟩, Kept.refl _⟩
theorem g_rZag (n : Nat) (h : n < 18446744073709551616) : Gives Tryd.prog 89 [.s (.int .u64 n)] (.s (.int .i64 (zag n))) := fun st => by
  refine DoesCall.of_kept fun g w vs hi ha => ?_
  obtain rfl := asim_1 ha
  refine (ref_Zag n h w).mono ?_
  rintro e w' ⟨rfl, rfl⟩
  exact ⟨_, .ret _ _ (.s _ rfl), ⟨rfl, rfl⟩, Kept.refl _⟩
theorem asim_2 {g : Gh} {a : AV} {v : Value} {vs : List Value} (h : ASim g [a, .s v] vs) : ∃ x, vs = [x, v] ∧ VSim g a x := by
  cases h with
  | cons h hr =>
    cases hr with
    | cons h' hr' => cases hr'; cases h'; exact ⟨_, rfl, h⟩
theorem tup3 {g : Gh} (a b c : Value) (h1 : oneV a = true) (h2 : oneV b = true) (h3 : oneV c = true) : VSim g (.tup [.s a, .s b, .s c]) (.tuple #[a, b, c]) := by
  refine .tup _ _ rfl fun i x hx => ?_
  match i, hx with
  | 0, hx => obtain rfl := Option.some.inj hx; exact .s a h1
  | 1, hx => obtain rfl := Option.some.inj hx; exact .s b h2
  | 2, hx => obtain rfl := Option.some.inj hx; exact .s c h3
theorem g_Get (l : List UInt8) (k : Int) (o : Bool) (tag : Tag) : Gives Tryd.prog 106 [.sl o tag (encB l), .s (.int .i64 k)] (.tup [.s (.int .u64 (getAt l k).1), .s (.int .i64 (getAt l k).2.1), .s (.int .i64 (getAt l k).2.2)]) := fun st => by
  refine DoesCall.of_kept fun g w vs hi ha => ?_
  obtain ⟨x, rfl, hx⟩ := asim_2 ha
  obtain ⟨A, c, rfl, h1, h2, h3⟩ := bytes_sim hi hx
  refine (leb_Get A c l k w h3 h1 (by omega)).mono ?_
  rintro e w' ⟨rfl, rfl⟩
  exact ⟨_, .ret _ _ (tup3 _ _ _ rfl rfl rfl), ⟨rfl, rfl⟩, Kept.refl _⟩
theorem g_rGet (l : List UInt8) (k : Int) (o : Bool) (tag : Tag) : Gives Tryd.prog 62 [.sl o tag (encB l), .s (.int .i64 k)] (.tup [.s (.int .u64 (getAt l k).1), .s (.int .i64 (getAt l k).2.1), .s (.int .i64 (getAt l k).2.2)]) := fun st => by
  refine DoesCall.of_kept fun g w vs hi ha => ?_
  obtain ⟨x, rfl, hx⟩ := asim_2 ha
  obtain ⟨A, c, rfl, h1, h2, h3⟩ := bytes_sim hi hx
  refine (ref_Get A c l k w h3 h1 (by omega)).mono ?_
  rintro e w' ⟨rfl, rfl⟩
  exact ⟨_, .ret _ _ (tup3 _ _ _ rfl rfl rfl), ⟨rfl, rfl⟩, Kept.refl _⟩
end Go.Proofs.YtakppgpkdjpngaaDoor
/- Is a value of a type? No program. -/
set_option linter.unusedVariables false
set_option linter.unusedSimpArgs false
namespace Go.Proofs.YtakppgpkdjpngaaDoor
open Go
def headT : List T → T
  | u :: _ => u
  | [] => .mk 0 []
mutual
def ofV : V → T → Bool
  | .mk k _ _ _ l, u => decide (k = u.kind) && ofVs l (headT u.of)
def ofVs : List V → T → Bool
  | [], _ => true
  | x :: l, u => ofV x u && ofVs l u
end
theorem ofV_eq (k i : Int) (f : Nat) (t : ByteArray) (l : List V) (u : T) : ofV (.mk k i f t l) u = (decide (k = u.kind) && ofVs l (headT u.of)) := by rw [ofV]
theorem ofVs_of : ∀ (l : List V) (u : T), (∀ (i : Nat) (x : V), l[i]? = some x → ofV x u = true) → ofVs l u = true
  | [], _, _ => by rw [ofVs]
  | x :: l, u, h => by
    rw [ofVs, h 0 x rfl, ofVs_of l u (fun i y hy => h (i + 1) y (by simpa using hy))]; rfl
theorem ofVs_at : ∀ (l : List V) (u : T) (i : Nat) (x : V), ofVs l u = true → l[i]? = some x → ofV x u = true
  | y :: l, u, i, x, h, hx => by
    rw [ofVs, Bool.and_eq_true] at h
    cases i with
    | zero =>
      obtain rfl : y = x := by simpa using hx
      exact h.1
    | succ i => exact ofVs_at l u i x h.2 (by simpa using hx)
  | [], _, _, _, _, hx => by simp at hx
theorem chks_all : ∀ (l : List V) (d : Nat), chks l d = 0 → ∀ x ∈ l, chk x d = 0
  | y :: l, d, h, x, hx => by
    rw [chks] at h
    split at h
    · rename_i h0
      rcases List.mem_cons.1 hx with rfl | hx
      · exact h0
      · exact chks_all l d h x hx
    · rename_i h0
      exact absurd h h0
  | [], _, _, x, hx => by cases hx
/-- What a value that may be is. -/
theorem chk_ok {k i : Int} {f : Nat} {t : ByteArray} {l : List V} {d : Nat} (h : chk (.mk k i f t l) d = 0) : d ≤ 4 ∧ ownP (.mk k i f t l) ∧ t.size ≤ 1024 ∧ l.length ≤ 256 ∧ (k = 4 → utf t = true) ∧ ∀ x ∈ l, chk x (d + 1) = 0 := by
  rw [chk_eq] at h
  split at h
  · cases h
  split at h
  · cases h
  split at h
  · cases h
  split at h
  · cases h
  split at h
  · cases h
  rename_i h1 h2 h3 h4 h5
  refine ⟨by omega, Classical.not_not.1 h2, by omega, by omega, fun hk => ?_, chks_all l _ h⟩
  cases hu : utf t
  · exact absurd ⟨hk, hu⟩ h5
  · rfl
theorem own_nest {k i : Int} {f : Nat} {t : ByteArray} {l : List V} (h : ownP (.mk k i f t l)) (hl : l ≠ []) : k = 6 ∨ k = 7 := by
  have : l.length ≠ 0 := fun h => hl (List.length_eq_zero_iff.1 h)
  simp only [ownP, V.kind_mk, V.int_mk, V.float_mk, V.text_mk, V.items_mk] at h
  omega
theorem chkT_ok {k : Int} {l : List T} {d : Nat} (h : chkT (.mk k l) d = 0) : d ≤ 4 ∧ badK k l.length = false ∧ chkTs l (d + 1) = 0 := by
  rw [chkT_eq] at h
  split at h
  · cases h
  split at h
  · cases h
  rename_i h1 h2
  exact ⟨by omega, by simpa using h2, h⟩
theorem badK_no {k : Int} {n : Nat} (h : badK k n = false) : 1 ≤ k ∧ k ≤ 7 ∧ (nestK k = true → n = 1) ∧ (nestK k = false → n = 0) := by
  simp only [badK, Bool.or_eq_false_iff, decide_eq_false_iff_not, Bool.and_eq_false_iff, Bool.not_eq_false'] at h
  obtain ⟨⟨⟨h1, h2⟩, h3⟩, h4⟩ := h
  refine ⟨by omega, by omega, fun hn => ?_, fun hn => ?_⟩
  · rcases h3 with h3 | h3
    · rw [hn] at h3; cases h3
    · exact Classical.not_not.1 h3
  · rcases h4 with h4 | h4
    · rw [hn] at h4; cases h4
    · exact Classical.not_not.1 h4
theorem chkT_nest {k : Int} {l : List T} {d : Nat} (h : chkT (.mk k l) d = 0) (hk : k = 6 ∨ k = 7) : ∃ u, l = [u] ∧ chkT u (d + 1) = 0 := by
  obtain ⟨_, h2, h3⟩ := chkT_ok h
  have hn : nestK k = true := by rcases hk with rfl | rfl <;> rfl
  have h1 := (badK_no h2).2.2.1 hn
  match l, h1 with
  | [u], _ => exact ⟨u, rfl, by simpa [chkTs] using h3⟩
def isV (v : V) (t : T) : Bool := decide (chkT t 1 = 0) && decide (chk v 1 = 0) && ofV v t
end Go.Proofs.YtakppgpkdjpngaaDoor
