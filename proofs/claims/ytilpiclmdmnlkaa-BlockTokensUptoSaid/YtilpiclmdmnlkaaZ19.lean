/- Merged: Leb, LebGet, LebRef, ALeb, Clone, ALong. -/
import Derived.Test.YtilpiclmdmnlkaaZ18
import Derived.Test.YtilpiclmdmnlkaaProg
import Derived.OwnWalkIn
import Derived.TacticsInMore
import Derived.LoopNIn
import Derived.LoopIn
import Derived.Shelf.Abstract
import Derived.Shelf.RegionOpen
/- leb.Put, leb.Len and the reference's are the bytes of a number ('put'), and how many they are. -/
set_option linter.unusedVariables false
set_option linter.unusedSimpArgs false
namespace Go.Proofs.Ytilpiclmdmnlkaa
open Go.RowKit

theorem rowB : RowT Try.prog 23 5 1 1 := RowT.of (z := .int .u8 0) Try.underlying23 (by kernel_rfl) rfl (by omega)

theorem or128_ : ∀ x : Fin 256, bits .or .u8 ((x.val : Nat) : Int) 128 = ((x.val % 128 + 128 : Nat) : Int) := by decide +kernel
theorem or128 (x : Int) (h0 : 0 ≤ x) (h1 : x < 256) : bits .or .u8 x 128 = x % 128 + 128 := by
  have h := or128_ ⟨x.toNat, by omega⟩
  simp only at h
  rw [show ((x.toNat : Nat) : Int) = x by omega] at h
  rw [h]
  omega

theorem xor_ones (x : Int) (h0 : 0 ≤ x) (h1 : x < 18446744073709551616) : bits .xor .u64 x 18446744073709551615 = 18446744073709551615 - x := by
  show IntKind.u64.wrap ((BitVec.ofInt 64 x ^^^ BitVec.ofInt 64 18446744073709551615).toNat : Int) = _
  have e : BitVec.ofInt 64 18446744073709551615 = BitVec.allOnes 64 := by decide +kernel
  rw [e, BitVec.xor_allOnes, BitVec.toNat_not, IntKind.wrap_u64]
  have e2 : (BitVec.ofInt 64 x).toNat = x.toNat := by rw [BitVec.toNat_ofInt]; omega
  rw [e2]; omega
theorem xor_zero (x : Int) (h0 : 0 ≤ x) (h1 : x < 18446744073709551616) : bits .xor .u64 x 0 = x := by
  rw [u64_xor x 0 h0 h1 (by omega) (by omega)]
  simp; omega
theorem xor_i64_neg (x : Int) (h0 : 0 ≤ x) (h1 : x < 9223372036854775808) : bits .xor .i64 x (-1) = -1 - x := by
  show IntKind.i64.wrap ((BitVec.ofInt 64 x ^^^ BitVec.ofInt 64 (-1)).toNat : Int) = _
  have e : BitVec.ofInt 64 (-1) = BitVec.allOnes 64 := by decide +kernel
  rw [e, BitVec.xor_allOnes, BitVec.toNat_not, IntKind.wrap_i64]
  have e2 : (BitVec.ofInt 64 x).toNat = x.toNat := by rw [BitVec.toNat_ofInt]; omega
  rw [e2]; omega
theorem xor_i64_zero (x : Int) (h0 : 0 ≤ x) (h1 : x < 9223372036854775808) : bits .xor .i64 x 0 = x := by
  show IntKind.i64.wrap ((BitVec.ofInt 64 x ^^^ BitVec.ofInt 64 0).toNat : Int) = _
  have e : BitVec.ofInt 64 0 = 0#64 := by decide +kernel
  rw [e, BitVec.xor_zero, IntKind.wrap_i64]
  have e2 : (BitVec.ofInt 64 x).toNat = x.toNat := by rw [BitVec.toNat_ofInt]; omega
  rw [e2]; omega
theorem and_one (u : Nat) (h : u < 18446744073709551616) : bits .and .u64 (u : Int) 1 = ((u % 2 : Nat) : Int) := by
  have := bits_and_u64_nat u 1 h (by omega)
  rw [show ((1 : Nat) : Int) = 1 from rfl] at this
  rw [this, Nat.and_one_is_mod]

theorem zig_bits (n : Int) (h1 : -9223372036854775808 ≤ n) (h2 : n ≤ 9223372036854775807) :
    bits .xor .u64 (IntKind.u64.wrap (IntKind.u64.wrap n * 2)) (IntKind.u64.wrap (n / 9223372036854775808)) = (zig n : Int) := by
  simp only [IntKind.wrap_u64]
  unfold zig
  by_cases h : 0 ≤ n
  · rw [if_pos h, show n / 9223372036854775808 % 18446744073709551616 = 0 by omega, xor_zero _ (by omega) (by omega)]
    omega
  · rw [if_neg h, show n / 9223372036854775808 % 18446744073709551616 = 18446744073709551615 by omega, xor_ones _ (by omega) (by omega)]
    omega
theorem zag_bits (u : Nat) (h : u < 18446744073709551616) :
    bits .xor .i64 ((u : Int) / 2) (wrap64 (-wrap64 (bits .and .u64 (u : Int) 1))) = zag u := by
  rw [and_one u h]
  unfold zag
  by_cases e : u % 2 = 0
  · rw [if_pos e, e, show wrap64 (-wrap64 ((0 : Nat) : Int)) = 0 by simp [wrap64], xor_i64_zero _ (by omega) (by omega)]
    omega
  · rw [if_neg e, show u % 2 = 1 by omega, show wrap64 (-wrap64 ((1 : Nat) : Int)) = -1 by simp [wrap64], xor_i64_neg _ (by omega) (by omega)]
    omega

theorem bitLen_put : ∀ (n : Nat), n < 2 ^ 64 → (put n).length = max 1 ((Lib.bitLen n + 6) / 7) := by
  intro n
  induction n using Nat.strongRecOn with
  | _ n ih =>
    intro hn
    by_cases h : n < 128
    · rw [put_lt h]
      have := Lib.bitLen_le n 7 (by omega) (by omega)
      simp; omega
    · rw [put_ge h, Lib.bitLen_shift 7 n (by omega) hn]
      have := ih (n / 128) (by omega) (by omega)
      have h1 : 1 ≤ Lib.bitLen (n / 128) := by
        rw [Lib.bitLen_half (n / 128) (by omega) (by omega)]; omega
      have e : n / 2 ^ 7 = n / 128 := rfl
      rw [e, List.length_cons, this]
      omega

set_option maxRecDepth 20000 in
theorem leb_Len (n : Nat) (hn : n < 18446744073709551616) (w : World) :
    Calls Try.prog 16 #[.int .u64 n] w fun e w' => e = .returned (.int .i64 (put n).length) ∧ w = w' := by
  have hp := bitLen_put n hn
  have h64 := Lib.bitLen_le n 64 (by omega) hn
  have hfin : max 1 (wrap64 ((wrap64 ((Lib.bitLen n : Int) + 6)).tdiv 7)) = ((put n).length : Int) := by
    rw [hp]
    unfold wrap64
    rw [Int.tdiv_eq_ediv_of_nonneg (by omega)]
    omega
  have Hfin := Lib.hid hfin
  clear hfin hp
  go_enter Try.func16, Try.ntmps16
  go_wp2_with fail
  refine (Try.bits_Len64 _ _ (by omega) (by omega)).mono ?_
  rintro e w' ⟨rfl, rfl⟩
  clear h64
  go_wp2_with fail
  go_ret
  refine ⟨?_, rfl⟩
  rw [← Hfin.out]
  rfl

set_option maxRecDepth 20000 in
theorem leb_Put (n : Nat) (hn : n < 18446744073709551616) (w : World) :
    Calls Try.prog 14 #[.int .u64 n] w fun e w' => ∃ A c, e = .returned (.slice A (put n).length c) ∧
      w'.ownsRow w.heap.size 5 1 (.slice A (put n).length c) (put n).length (cellsB (put n)) ∧ Kept w w' := by
  obtain ⟨i0, hi0, hz0, hz1, hz2⟩ := info_parts (show (Try.prog.info? 5).map (fun i => (i.zero, i.size, i.bytes)) = some (some (.int .u8 0), 1, 1) by kernel_rfl)
  have hten := put_ten hn
  go_enter Try.func14, Try.ntmps14
  go_wp2_with fail
  refine (leb_Len n hn _).mono ?_
  rintro e w' ⟨rfl, rfl⟩
  go_wp2_with (at_make; refine wpList_make_own _ rfl _ _ 23 rfl w.heap.size 5 i0 (.int .u8 0) 1 Try.underlying23 hi0 hz0 hz1 .i64 .i64 _ (put n).length rfl rfl rfl (by rw [hz2]; omega) (by unfold maxLen; omega) (Nat.le_refl _) ?_; intro w1 hown1 hg1)
  have hk1 : Kept w w1 := (Kept.refl _).grown hg1 (by simp)
  clear hz0 hi0 hz1 hz2
  go_loopg [0, 3] n (fun k u v wr => ∃ (m : Nat) (xs : List UInt8) (A : Option Addr) (c : Nat), u = .int .u64 m ∧ m ≤ k ∧ k ≤ n ∧ v = .slice A xs.length c ∧ Hid (put n = xs ++ put m) ∧ wr.ownsRow w.heap.size 5 1 (.slice A xs.length c) xs.length (cellsB xs) ∧ Kept w wr)
  case atStart => exact ⟨n, [], _, _, rfl, Nat.le_refl _, Nat.le_refl _, rfl, Lib.hid (by simp), hown1, hk1⟩
  case round =>
    obtain ⟨m, xs, A, c, rfl, hmk, hmn, rfl, HP, hown, hk⟩ := hrel
    have hx : xs.length ≤ 10 := by have := congrArg List.length HP.out; simp at this; omega
    by_cases h : m < 128
    · have HE := Lib.hid (show put n = xs ++ [UInt8.ofNat m] from HP.out.trans (by rw [put_lt h]))
      go_wp2_with (at_builtin; refine wpList_app rfl _ _ _ rfl rowB w.heap.size (cellsB xs) rfl (own_kept hown (Kept.alloc (Kept.refl _) _)) [_] rfl (Src.new1 wr _ _ rfl) (by unfold maxLen; omega) (by omega) (Kept.alloc hk _).size ?_; intro A1 c1 w2 hown2 hg2 hat2)
      have hk2 : Kept w w2 := (Kept.alloc hk _).grown hg2 (own_base hown)
      go_ret
      have e1 : (put n).length = xs.length + 1 := by rw [HE.out]; simp
      have e2 : cellsB (put n) = cellsB xs ++ [.int .u8 (m : Int)] := by
        rw [HE.out, cellsB_append]
        simp [cellsB]; omega
      exact ⟨A1, c1, by rw [e1]; rfl, by rw [e1, e2]; exact hown2, hk2⟩
    · have HE := Lib.hid (show put n = (xs ++ [UInt8.ofNat (m % 128 + 128)]) ++ put (m / 128) from HP.out.trans (by rw [put_ge h]; simp))
      go_wp2_with (at_builtin; refine wpList_app rfl _ _ _ rfl rowB w.heap.size (cellsB xs) rfl (own_kept hown (Kept.alloc (Kept.refl _) _)) [_] rfl (Src.new1 wr _ _ rfl) (by unfold maxLen; omega) (by omega) (Kept.alloc hk _).size ?_; intro A1 c1 w2 hown2 hg2 hat2)
      have hk2 : Kept w w2 := (Kept.alloc hk _).grown hg2 (own_base hown)
      go_roundg (m / 128)
      case measure => omega
      case rel =>
        have e2 : cellsB (xs ++ [UInt8.ofNat (m % 128 + 128)]) = cellsB xs ++ [.int .u8 (bits .or .u8 ((m : Int) % 256) 128)] := by
          rw [cellsB_append, or128 ((m : Int) % 256) (by omega) (by omega)]
          simp [cellsB]; omega
        exact ⟨m / 128, xs ++ [UInt8.ofNat (m % 128 + 128)], A1, c1, by go_num, Nat.le_refl _, by omega, by simp, HE, by rw [e2]; simpa using hown2, hk2⟩

set_option maxRecDepth 20000 in
theorem ref_Put (n : Nat) (hn : n < 18446744073709551616) (w : World) :
    Calls Try.prog 4 #[.int .u64 n] w fun e w' => ∃ A c, e = .returned (.slice A (put n).length c) ∧
      w'.ownsRow w.heap.size 5 1 (.slice A (put n).length c) (put n).length (cellsB (put n)) ∧ Kept w w' := by
  have hten := put_ten hn
  go_enter Try.func4, Try.ntmps4
  go_wp2_with fail
  go_loopg [0, 3] n (fun k u v wr => ∃ (m : Nat) (xs : List UInt8) (A : Option Addr) (c : Nat), u = .int .u64 m ∧ m ≤ k ∧ k ≤ n ∧ v = .slice A xs.length c ∧ Hid (put n = xs ++ put m) ∧ wr.ownsRow w.heap.size 5 1 (.slice A xs.length c) xs.length (cellsB xs) ∧ Kept w wr)
  case atStart => exact ⟨n, [], none, 0, rfl, Nat.le_refl _, Nat.le_refl _, rfl, Lib.hid (by simp), own_nil _ _ _ _, Kept.refl _⟩
  case round =>
    obtain ⟨m, xs, A, c, rfl, hmk, hmn, rfl, HP, hown, hk⟩ := hrel
    have hx : xs.length ≤ 10 := by have := congrArg List.length HP.out; simp at this; omega
    by_cases h : m < 128
    · have HE := Lib.hid (show put n = xs ++ [UInt8.ofNat m] from HP.out.trans (by rw [put_lt h]))
      go_wp2_with (at_builtin; refine wpList_app rfl _ _ _ rfl rowB w.heap.size (cellsB xs) rfl (own_kept hown (Kept.alloc (Kept.refl _) _)) [_] rfl (Src.new1 wr _ _ rfl) (by unfold maxLen; omega) (by omega) (Kept.alloc hk _).size ?_; intro A1 c1 w2 hown2 hg2 hat2)
      have hk2 : Kept w w2 := (Kept.alloc hk _).grown hg2 (own_base hown)
      go_ret
      have e1 : (put n).length = xs.length + 1 := by rw [HE.out]; simp
      have e2 : cellsB (put n) = cellsB xs ++ [.int .u8 (m : Int)] := by
        rw [HE.out, cellsB_append]
        simp [cellsB]; omega
      exact ⟨A1, c1, by rw [e1]; rfl, by rw [e1, e2]; exact hown2, hk2⟩
    · have HE := Lib.hid (show put n = (xs ++ [UInt8.ofNat (m % 128 + 128)]) ++ put (m / 128) from HP.out.trans (by rw [put_ge h]; simp))
      go_wp2_with (at_builtin; refine wpList_app rfl _ _ _ rfl rowB w.heap.size (cellsB xs) rfl (own_kept hown (Kept.alloc (Kept.refl _) _)) [_] rfl (Src.new1 wr _ _ rfl) (by unfold maxLen; omega) (by omega) (Kept.alloc hk _).size ?_; intro A1 c1 w2 hown2 hg2 hat2)
      have hk2 : Kept w w2 := (Kept.alloc hk _).grown hg2 (own_base hown)
      go_roundg (m / 128)
      case measure => omega
      case rel =>
        have e2 : cellsB (xs ++ [UInt8.ofNat (m % 128 + 128)]) = cellsB xs ++ [.int .u8 ((m : Int) % 128 + 128)] := by
          rw [cellsB_append]
          simp [cellsB]; omega
        exact ⟨m / 128, xs ++ [UInt8.ofNat (m % 128 + 128)], A1, c1, by go_num, Nat.le_refl _, by omega, by simp, HE, by rw [e2]; simpa using hown2, hk2⟩

end Go.Proofs.Ytilpiclmdmnlkaa
/- leb.Get and the reference's both tell what bytes begin with ('getAt'). -/
set_option linter.unusedVariables false
set_option linter.unusedSimpArgs false
namespace Go.Proofs.Ytilpiclmdmnlkaa
open Go.RowKit

theorem or_shift (acc b j : Nat) (hj : j ≤ 9) (h1 : acc < 2 ^ (7 * j)) (h2 : b < 128) (h3 : j = 9 → b ≤ 1) :
    bits .or .u64 (acc : Int) (IntKind.u64.wrap ((b : Int) * 2 ^ (7 * j))) = ((acc + b * 2 ^ (7 * j) : Nat) : Int) := by
  have e : ((b : Int) * 2 ^ (7 * j)) = ((b * 2 ^ (7 * j) : Nat) : Int) := by push_cast; rfl
  have hlt : b * 2 ^ (7 * j) < 18446744073709551616 := by
    rcases Nat.lt_or_ge j 9 with h9 | h9
    · have a1 : b * 2 ^ (7 * j) ≤ 127 * 2 ^ 56 := Nat.mul_le_mul (by omega) (Nat.pow_le_pow_right (by omega) (by omega))
      omega
    · obtain rfl : j = 9 := by omega
      have := h3 rfl
      have a1 : b * 2 ^ (7 * 9) ≤ 1 * 2 ^ 63 := Nat.mul_le_mul (by omega) (Nat.le_refl _)
      omega
  have ha : acc < 18446744073709551616 := by
    have : 2 ^ (7 * j) ≤ 2 ^ 63 := Nat.pow_le_pow_right (by omega) (by omega)
    omega
  rw [e, IntKind.wrap_u64, show ((b * 2 ^ (7 * j) : Nat) : Int) % 18446744073709551616 = ((b * 2 ^ (7 * j) : Nat) : Int) by omega, u64_or_nat _ _ ha hlt]
  congr 1
  rw [Nat.or_comm, Nat.mul_comm, ← Nat.two_pow_add_eq_or_of_lt h1, Nat.add_comm]
theorem and127_ : ∀ x : Fin 256, bits .and .u8 ((x.val : Nat) : Int) 127 = ((x.val % 128 : Nat) : Int) := by decide +kernel
theorem and127 (x : Nat) (h1 : x < 256) : bits .and .u8 (x : Int) 127 = ((x % 128 : Nat) : Int) := and127_ ⟨x, h1⟩

set_option maxRecDepth 20000 in
set_option maxHeartbeats 1000000 in
theorem leb_Get_in (A : Option Addr) (c : Nat) (l : List UInt8) (k : Nat) (w : World) (hl : Bs w A l) (hk : k < l.length) (hc : l.length ≤ c) (hm : l.length ≤ 9223372036854775000) :
    Calls Try.prog 9 #[.slice A l.length c, .int .i64 k] w fun e w' => e = .returned (.tuple #[.int .u64 (getAt l k).1, .int .i64 (getAt l k).2.1, .int .i64 (getAt l k).2.2]) ∧ w = w' := by
  go_enter Try.func9, Try.ntmps9
  have i0 : ¬ ((k : Int) < 0) := by omega
  have i1 : ¬ ((l.length : Int) ≤ (k : Int)) := by omega
  go_wp2_with fail
  go_step3
  go_wp2_with fail
  go_step3
  go_wp2_with fail
  go_loopg [25, 7, 8] 10 (fun g u v x wr => ∃ j : Nat, u = .int .i64 j ∧ v = .int .u64 ((horner ((l.drop k).take j) : Nat) : Int) ∧ x = .int .i64 30 ∧ g + j = 10 ∧ j ≤ 9 ∧ j + k ≤ l.length ∧ Hid (w = wr) ∧ Lead (l.drop k) j)
  case atStart => exact ⟨0, rfl, rfl, rfl, rfl, by omega, by omega, Lib.hid rfl, fun i b h => absurd h (by omega)⟩
  case round =>
    obtain ⟨j, rfl, rfl, rfl, hg, hj, hjk, HW, HL⟩ := hrel
    obtain rfl := HW.out
    clear HW
    have hhl := horner_lt ((l.drop k).take j)
    rw [show ((l.drop k).take j).length = j by simp; omega] at hhl
    obtain ⟨acc, hacc⟩ : ∃ acc, acc = horner ((l.drop k).take j) := ⟨_, rfl⟩
    rw [← hacc] at hhl ⊢
    have HA := Lib.hid hacc
    clear hacc
    by_cases hlt : j + k < l.length
    · obtain ⟨ad, b, rfl, hb, HB, hb1⟩ := hl.byte (k + j) (by omega)
      rw [← add_add] at hb
      have HB2 : Hid ((l.drop k)[j]? = some b) := by unfold Hid; rw [List.getElem?_drop]; exact HB.out
      have j1 : (j : Int) < ((l.length - k : Nat) : Int) := by omega
      have j2 : (0 : Int) ≤ (j : Int) := by omega
      by_cases hform : (j = 9 ∧ 1 < b.toNat) ∨ (b.toNat = 0 ∧ 0 < j)
      · have HF := Lib.hid (getAt_err (l := l) (k := k) (lead_form HL hj HB2.out hform) (by omega))
        rcases hform with ⟨h9, h1⟩ | ⟨h0, h1⟩
        · have e9 : ((j : Int) == 9) = true := beq_iff_eq.2 (by omega)
          have e1 : decide (1 < ((b.toNat : Nat) : Int)) = true := decide_eq_true (by omega)
          clear h9 h1
          go_wp2_with fail
          try simp only [Exit.noGoto]
          go_ret3
          exact ⟨by rw [HF.out]; rfl, rfl⟩
        · have H0 := Lib.hid h0
          by_cases h9 : j = 9
          · have e9 : ((j : Int) == 9) = true := beq_iff_eq.2 (by omega)
            have e1 : decide (1 < ((b.toNat : Nat) : Int)) = false := decide_eq_false (by omega)
            have e0 : (((b.toNat : Nat) : Int) == 0) = true := beq_iff_eq.2 (by omega)
            have e2 : decide (0 < j) = true := decide_eq_true (by omega)
            clear h9 h0 h1
            go_wp2_with fail
            try simp only [Exit.noGoto]
            go_ret3
            exact ⟨by rw [HF.out]; rfl, rfl⟩
          · have e9 : ((j : Int) == 9) = false := beq_eq_false_iff_ne.2 (by omega)
            have e0 : (((b.toNat : Nat) : Int) == 0) = true := beq_iff_eq.2 (by omega)
            have e2 : decide (0 < j) = true := decide_eq_true (by omega)
            clear h9 h0 h1
            go_wp2_with fail
            try simp only [Exit.noGoto]
            go_ret3
            exact ⟨by rw [HF.out]; rfl, rfl⟩
      · by_cases h128 : b.toNat < 128
        · have HF := Lib.hid (getAt_ok (l := l) (lead_ok HL hj HB2.out hform h128))
          have HV : Hid (bits .or .u64 (acc : Int) (IntKind.u64.wrap ((b.toNat : Int) * 2 ^ (7 * j))) = ((horner ((l.drop k).take (j + 1)) : Nat) : Int)) := by
            unfold Hid
            rw [or_shift acc b.toNat j hj hhl h128 (fun h9 => by omega), take_snoc HB2.out, horner_snoc, ← HA.out, Nat.mod_eq_of_lt h128]
            simp [show min j (l.length - k) = j by omega]
          have e4 : decide (((b.toNat : Nat) : Int) < 128) = true := decide_eq_true (by omega)
          by_cases h9 : j = 9
          · have e9 : ((j : Int) == 9) = true := beq_iff_eq.2 (by omega)
            have e1 : decide (1 < ((b.toNat : Nat) : Int)) = false := decide_eq_false (by omega)
            have e0 : (((b.toNat : Nat) : Int) == 0) = false := beq_eq_false_iff_ne.2 (by omega)
            clear h9 h128 hform
            go_wp2_with fail
            try simp only [Exit.noGoto]
            go_ret3
            exact ⟨by rw [HF.out]; simp only; rw [← HV.out]; go_num, rfl⟩
          · have e9 : ((j : Int) == 9) = false := beq_eq_false_iff_ne.2 (by omega)
            by_cases h0 : b.toNat = 0
            · have e0 : (((b.toNat : Nat) : Int) == 0) = true := beq_iff_eq.2 (by omega)
              have e2 : decide (0 < j) = false := decide_eq_false (by omega)
              clear h9 h0 h128 hform
              go_wp2_with fail
              try simp only [Exit.noGoto]
              go_ret3
              exact ⟨by rw [HF.out]; simp only; rw [← HV.out]; go_num, rfl⟩
            · have e0 : (((b.toNat : Nat) : Int) == 0) = false := beq_eq_false_iff_ne.2 (by omega)
              clear h9 h0 h128 hform
              go_wp2_with fail
              try simp only [Exit.noGoto]
              go_ret3
              exact ⟨by rw [HF.out]; simp only; rw [← HV.out]; go_num, rfl⟩
        · have HL2 : Lead (l.drop k) (j + 1) := HL.succ HB2.out (by omega)
          have HV : Hid (bits .or .u64 (acc : Int) (IntKind.u64.wrap (IntKind.u64.wrap (bits .and .u8 (b.toNat : Int) 127) * 2 ^ (7 * j))) = ((horner ((l.drop k).take (j + 1)) : Nat) : Int)) := by
            unfold Hid
            rw [and127 _ hb1, IntKind.wrap_u64 ((b.toNat % 128 : Nat) : Int), show ((b.toNat % 128 : Nat) : Int) % 18446744073709551616 = ((b.toNat % 128 : Nat) : Int) by omega, or_shift acc (b.toNat % 128) j hj hhl (by omega) (fun h9 => by omega), take_snoc HB2.out, horner_snoc, ← HA.out]
            simp [show min j (l.length - k) = j by omega]
          have j9 : j + 1 ≤ 9 := by omega
          have e4 : decide (((b.toNat : Nat) : Int) < 128) = false := decide_eq_false (by omega)
          have e9 : ((j : Int) == 9) = false := beq_eq_false_iff_ne.2 (by omega)
          have e0 : (((b.toNat : Nat) : Int) == 0) = false := beq_eq_false_iff_ne.2 (by omega)
          clear h128 hform
          go_wp2_with fail
          go_roundg (gk - 1)
          case measure => omega
          case rel => exact ⟨j + 1, by go_num, by rw [← HV.out], rfl, by omega, j9, by omega, Lib.hid rfl, HL2⟩
    · have HF := Lib.hid (getAt_err (l := l) (k := k) (lead_short HL hj (by simp; omega)) (by omega))
      have j1 : ¬ (j : Int) < ((l.length - k : Nat) : Int) := by omega
      go_wp2_with fail
      try simp only [Exit.noGoto]
      go_ret3
      exact ⟨by rw [HF.out]; rfl, rfl⟩
set_option maxRecDepth 20000 in
theorem leb_Get_neg (A : Option Addr) (c : Nat) (l : List UInt8) (k : Int) (w : World) (h : k < 0) :
    Calls Try.prog 9 #[.slice A l.length c, .int .i64 k] w fun e w' => e = .returned (.tuple #[.int .u64 (getAt l k).1, .int .i64 (getAt l k).2.1, .int .i64 (getAt l k).2.2]) ∧ w = w' := by
  have HF := Lib.hid (getAt_neg (l := l) h)
  have e0 : decide (k < 0) = true := decide_eq_true h
  go_enter Try.func9, Try.ntmps9
  go_wp2_with fail
  go_step3
  go_wp2_with fail
  try simp only [Exit.noGoto]
  go_ret3
  exact ⟨by rw [HF.out]; rfl, rfl⟩
set_option maxRecDepth 20000 in
theorem leb_Get_out (A : Option Addr) (c : Nat) (l : List UInt8) (k : Int) (w : World) (h0 : ¬ k < 0) (h : (l.length : Int) ≤ k) :
    Calls Try.prog 9 #[.slice A l.length c, .int .i64 k] w fun e w' => e = .returned (.tuple #[.int .u64 (getAt l k).1, .int .i64 (getAt l k).2.1, .int .i64 (getAt l k).2.2]) ∧ w = w' := by
  have HF := Lib.hid (getAt_out (l := l) h0 h)
  have e0 : decide (k < 0) = false := decide_eq_false h0
  have e1 : decide ((l.length : Int) ≤ k) = true := decide_eq_true h
  go_enter Try.func9, Try.ntmps9
  go_wp2_with fail
  go_step3
  go_wp2_with fail
  try simp only [Exit.noGoto]
  go_ret3
  exact ⟨by rw [HF.out]; rfl, rfl⟩
theorem leb_Get (A : Option Addr) (c : Nat) (l : List UInt8) (k : Int) (w : World) (hl : Bs w A l) (hc : l.length ≤ c) (hm : l.length ≤ 9223372036854775000) :
    Calls Try.prog 9 #[.slice A l.length c, .int .i64 k] w fun e w' => e = .returned (.tuple #[.int .u64 (getAt l k).1, .int .i64 (getAt l k).2.1, .int .i64 (getAt l k).2.2]) ∧ w = w' := by
  by_cases h0 : k < 0
  · exact leb_Get_neg A c l k w h0
  · by_cases h1 : (l.length : Int) ≤ k
    · exact leb_Get_out A c l k w h0 h1
    · obtain ⟨n, rfl⟩ := Int.eq_ofNat_of_zero_le (Int.not_lt.1 h0)
      exact leb_Get_in A c l n w hl (by omega) hc hm
end Go.Proofs.Ytilpiclmdmnlkaa
/- The reference's Get tells what bytes begin with ('getAt'). -/
set_option linter.unusedVariables false
set_option linter.unusedSimpArgs false
namespace Go.Proofs.Ytilpiclmdmnlkaa
open Go.RowKit

/-- The same two, where what is told is known. -/
theorem leb_Get_eq (A : Option Addr) (c : Nat) (l : List UInt8) (k : Int) (w : World) (hl : Bs w A l) (hc : l.length ≤ c) (hm : l.length ≤ 9223372036854775000) {n : Nat} {nx e0 : Int} (h : getAt l k = (n, nx, e0)) :
    Calls Try.prog 9 #[.slice A l.length c, .int .i64 k] w fun e w' => e = .returned (.tuple #[.int .u64 n, .int .i64 nx, .int .i64 e0]) ∧ w = w' := by
  have := leb_Get A c l k w hl hc hm
  rw [h] at this
  exact this
end Go.Proofs.Ytilpiclmdmnlkaa
/- Numbers as bytes, in plain data. -/
set_option linter.unusedVariables false
set_option linter.unusedSimpArgs false
namespace Go.Proofs.Ytilpiclmdmnlkaa
open Go.RowKit
theorem asim_1 {g : Gh} {v : Value} {vs : List Value} (h : ASim g [.s v] vs) : vs = [v] := by
  cases h with
  | cons h hr => cases hr; cases h; rfl
theorem g_Put (n : Nat) (hn : n < 18446744073709551616) {st : AS} {R : AOut → AS → Prop} (hR : R (.ret (.sl true (.lin st.ln.length) (encB (put n)))) ⟨st.bx, st.ln ++ [((put n).length, 5, 1)]⟩) : DoesCall Try.prog 14 [.s (.int .u64 n)] st R :=
  .of_own (put_pos n) (by have := put_ten hn; omega) hR fun g w vs hi ha => by
    obtain rfl := asim_1 ha
    exact leb_Put n hn w
theorem g_rPut (n : Nat) (hn : n < 18446744073709551616) {st : AS} {R : AOut → AS → Prop} (hR : R (.ret (.sl true (.lin st.ln.length) (encB (put n)))) ⟨st.bx, st.ln ++ [((put n).length, 5, 1)]⟩) : DoesCall Try.prog 4 [.s (.int .u64 n)] st R :=
  .of_own (put_pos n) (by have := put_ten hn; omega) hR fun g w vs hi ha => by
    obtain rfl := asim_1 ha
    exact ref_Put n hn w
theorem asim_2 {g : Gh} {a : AV} {v : Value} {vs : List Value} (h : ASim g [a, .s v] vs) : ∃ x, vs = [x, v] ∧ VSim g a x := by
  cases h with
  | cons h hr =>
    cases hr with
    | cons h' hr' => cases hr'; cases h'; exact ⟨_, rfl, h⟩
theorem tup3 {g : Gh} (a b c : Value) (h1 : oneV a = true) (h2 : oneV b = true) (h3 : oneV c = true) : VSim g (.tup [.s a, .s b, .s c]) (.tuple #[a, b, c]) := by
  refine .tup _ _ rfl fun i x hx => ?_
  match i, hx with
  | 0, hx => obtain rfl := Option.some.inj hx; exact .s a h1
  | 1, hx => obtain rfl := Option.some.inj hx; exact .s b h2
  | 2, hx => obtain rfl := Option.some.inj hx; exact .s c h3
theorem g_Get (l : List UInt8) (k : Int) (o : Bool) (tag : Tag) : Gives Try.prog 9 [.sl o tag (encB l), .s (.int .i64 k)] (.tup [.s (.int .u64 (getAt l k).1), .s (.int .i64 (getAt l k).2.1), .s (.int .i64 (getAt l k).2.2)]) := fun st => by
  refine DoesCall.of_kept fun g w vs hi ha => ?_
  obtain ⟨x, rfl, hx⟩ := asim_2 ha
  obtain ⟨A, c, rfl, h1, h2, h3⟩ := bytes_sim hi hx
  refine (leb_Get A c l k w h3 h1 (by omega)).mono ?_
  rintro e w' ⟨rfl, rfl⟩
  exact ⟨_, .ret _ _ (tup3 _ _ _ rfl rfl rfl), ⟨rfl, rfl⟩, Kept.refl _⟩
end Go.Proofs.Ytilpiclmdmnlkaa
/- slices.Clone of bytes: a copy of one's own. -/
set_option linter.unusedVariables false
set_option linter.unusedSimpArgs false
namespace Go.Proofs.Ytilpiclmdmnlkaa
open Go.RowKit
set_option maxRecDepth 20000 in
theorem clone_some (b : Addr) (c : Nat) (l : List UInt8) (w : World) (hl : Bs w (some b) l) (hc : l.length ≤ c) (hm : l.length ≤ 140737488355328) :
    Calls Try.prog 8 #[.slice (some b) l.length c] w fun e w' => ∃ A c', e = .returned (.slice A l.length c') ∧ w'.ownsRow w.heap.size 5 1 (.slice A l.length c') l.length (cellsB l) ∧ Kept w w' := by
  have hnil := Lib.run_eql_slice_nil (P := Try.prog) w 23 5 (some b) l.length c 0 0 Try.underlying23
  go_enter Try.func8, Try.ntmps8
  have hown : (w.alloc (.cells #[] 5)).ownsRow w.heap.size 5 1 (.slice (some ⟨w.heap.size, 0, none⟩) 0 0) 0 [] := own_new w _ 1 0 #[] rfl (by unfold maxLen; omega)
  go_wp2_with (at_builtin; refine wpList_app0 rfl _ _ _ rfl rowB w.heap.size rfl hown (cellsB l) rfl (Src.bytes (hl.kept (Kept.alloc (Kept.refl _) _))) (by unfold maxLen; omega) (by omega) (Kept.alloc (Kept.refl _) _).size ?_; intro A1 c1 w2 hown2 hg2 hat2)
  have hk2 : Kept w w2 := (Kept.alloc (Kept.refl _) _).grown hg2 (own_base hown)
  go_ret
  exact ⟨A1, c1, rfl, hown2, hk2⟩
set_option maxRecDepth 20000 in
theorem clone_none (c : Nat) (w : World) : Calls Try.prog 8 #[.slice none 0 c] w fun e w' => e = .returned (.slice none 0 0) ∧ w' = w := by
  have hnil := Lib.run_eql_slice_nil (P := Try.prog) w 23 5 none 0 c 0 0 Try.underlying23
  go_enter Try.func8, Try.ntmps8
  go_wp2_with fail
  go_ret
  exact ⟨rfl, rfl⟩
theorem asim_1' {g : Gh} {a : AV} {vs : List Value} (h : ASim g [a] vs) : ∃ x, vs = [x] ∧ VSim g a x := by
  cases h with
  | cons h hr => cases hr; exact ⟨_, rfl, h⟩
theorem nilS {g : Gh} (A : Option Addr) (c : Nat) : VSim g (.sl true .none []) (.slice A 0 c) :=
  .sl true .none [] A c 0 (fun _ => undef) (Nat.zero_le _) (Nat.zero_le _) (fun e h => by cases h) (fun j x h => by simp at h) (fun h => absurd rfl h) (fun j x h => by simp at h) trivial
/-- A copy of bytes. -/
theorem g_Clone (l : List UInt8) (o : Bool) (tag : Tag) (hl : l ≠ []) {st : AS} {R : AOut → AS → Prop} (hR : R (.ret (.sl true (.lin st.ln.length) (encB l))) ⟨st.bx, st.ln ++ [(l.length, 5, 1)]⟩) (hm : l.length ≤ 140737488355328) : DoesCall Try.prog 8 [.sl o tag (encB l)] st R := by
  have hpos : 0 < l.length := List.length_pos_iff.2 hl
  refine .of_own hpos hm hR fun g w vs hi ha => ?_
  obtain ⟨x, rfl, hx⟩ := asim_1' ha
  obtain ⟨A, c, rfl, h1, h2, h3⟩ := bytes_sim hi hx
  cases A with
  | none => obtain ⟨a, ha, _⟩ := h3.get 0 (by omega) (by omega); cases ha
  | some b => exact clone_some b c l w h3 h1 h2
theorem g_Clone0 (o : Bool) (tag : Tag) {st : AS} {R : AOut → AS → Prop} (hR : R (.ret (.sl true .none [])) st) : DoesCall Try.prog 8 [.sl o tag (encB [])] st R := by
  refine .of_kept fun g w vs hi ha => ?_
  obtain ⟨x, rfl, hx⟩ := asim_1' ha
  obtain ⟨A, c, rfl, h1, h2, h3⟩ := bytes_sim hi hx
  cases A with
  | none =>
    refine (clone_none c w).mono ?_
    rintro e w' ⟨rfl, rfl⟩
    exact ⟨_, .ret _ _ (nilS none 0), hR, .refl _⟩
  | some b =>
    refine (clone_some b c [] w h3 h1 h2).mono ?_
    rintro e w' ⟨A, c', rfl, _, hk⟩
    exact ⟨_, .ret _ _ (nilS A c'), hR, hk⟩
end Go.Proofs.Ytilpiclmdmnlkaa
/- slices.Backward: its iterator over numbers, and the function that hands it back. -/
set_option linter.unusedVariables false
set_option linter.unusedSimpArgs false
namespace Go.Proofs.Ytilpiclmdmnlkaa
open Go.RowKit Go.Shelf
section
attribute [local go_sem] Oper.semAt_some
/-- A place that is not behind k. -/
abbrev Plc (k : Nat) := { f : Nat // f ≤ k }
/-- What has come when k rounds are over. -/
def downto {m : Nat} (zs : List (Plc m)) (d : Plc m) (k : Nat) : List (Int × Plc m) := (List.range k).map fun (j : Nat) => ((zs.length : Int) - 1 - (j : Int), zs.getD (zs.length - 1 - j) d)
theorem downto_succ {m : Nat} (zs : List (Plc m)) (d : Plc m) (k : Nat) : downto zs d (k + 1) = downto zs d k ++ [((zs.length : Int) - 1 - (k : Int), zs.getD (zs.length - 1 - k) d)] := by simp [downto, List.range_succ]
theorem downto_len {m : Nat} (zs : List (Plc m)) (d : Plc m) (k : Nat) : (downto zs d k).length = k := by simp [downto]
theorem downto_take {m : Nat} (zs : List (Plc m)) (d : Plc m) (k : Nat) (h : k ≤ zs.length) : (downto zs d k).map (·.2.1) = ((zs.map (·.1)).reverse).take k := by
  refine List.ext_getElem? fun i => ?_
  rw [List.getElem?_take]
  split
  · rename_i hi
    have h1 : i < zs.length := by omega
    have h2 : zs.length - 1 - i < zs.length := by omega
    simp [downto, hi, List.getElem?_reverse, h1, List.getD_eq_getElem?_getD]
    simp [List.getElem?_eq_getElem h2]
  · rename_i hi
    simp [downto]
    omega
def encP {m : Nat} (x : Int × Plc m) : Array Value := #[.int .i64 x.1, .int .i64 (x.2.1 : Int)]
set_option maxRecDepth 100000 in
set_option maxHeartbeats 2000000 in
theorem back1_in {M : Nat} (n l Bs Bo cap : Nat) (A : Option Addr) (C : Nat → Nat → Option Value) (zs : List (Plc M)) (d : Plc M) (hz : zs.length ≤ 140737488355328) (hCB : C Bs Bo = some (.slice A zs.length cap))
    (hCE : ∀ j, j < zs.length → ∃ b off, A = some ⟨b, off, none⟩ ∧ C b (off + j) = some (.int .i64 ((zs.getD j d).1 : Int))) (J Jx : List (Int × Plc M) → World → Prop)
    (hY : ∀ pre x W, J pre W → pre.length < zs.length → YieldAt Fence.wide (n - 1) Try.prog l (encP x) W fun e W' =>
      (e = .returned (.bool true) ∧ J (pre ++ [x]) W' ∧ KpC C W W') ∨ (e = .returned (.bool false) ∧ Jx (pre ++ [x]) W'))
    (W : World) (hc : Has C W) (h0 : J [] W) :
    CallsIn Fence.wide n Try.prog 17 #[.func (.yield l) #[] #[], .pointer (some ⟨Bs, Bo, none⟩)] W fun e W' => (∃ v, e = .returned v) ∧
      ((∃ xs, xs = downto zs d zs.length ∧ J xs W') ∨ (∃ pre, (∃ k, k ≤ zs.length ∧ pre = downto zs d k) ∧ Jx pre W')) := by
  have cB : ∀ W, Has C W → W.cell? ⟨Bs, Bo, none⟩ = some (.slice A zs.length cap) := fun W h => h Bs Bo _ hCB
  have cE : ∀ W, Has C W → ∀ j, j < zs.length → ∃ b off, A = some ⟨b, off, none⟩ ∧ W.cell? ⟨b, off + j, none⟩ = some (.int .i64 ((zs.getD j d).1 : Int)) := fun W h j hj => by
    obtain ⟨b, off, h1, h2⟩ := hCE j hj
    exact ⟨b, off, h1, h b (off + j) _ h2⟩
  have hcB := cB W hc
  clear hCB hCE
  refine callsIn_of_wp Try.func17 rfl trivial ?_ rfl
  simp only [Try.ntmps17, List.size_toArray, List.length_cons, List.length_nil, Nat.reduceAdd, Nat.reduceSub, Array.replicate_succ, Array.replicate_zero, List.push_toArray, List.append_toArray, List.nil_append, List.cons_append]
  gi_wp2
  gi_loopw [3] (fun i wr => ∃ k : Nat, k ≤ zs.length ∧ i = .int .i64 ((zs.length : Int) - 1 - (k : Int)) ∧ J (downto zs d k) wr ∧ Has C wr)
    (fun i _ => (intOf i + 1).toNat)
  case atStart => exact ⟨0, Nat.zero_le _, by simp, h0, hc⟩
  case round =>
    obtain ⟨k, hk, rfl, hJs, hnx⟩ := hrel
    have hcB2 := cB wr hnx
    by_cases hlt : k < zs.length
    · obtain ⟨m, hm1, hm2⟩ : ∃ m : Nat, m + k + 1 ≤ zs.length ∧ zs.length ≤ m + k + 1 := ⟨zs.length - 1 - k, by omega, by omega⟩
      have hix : (zs.length : Int) - 1 - (k : Int) = (m : Int) := by omega
      obtain ⟨b, off, rfl, hcE2⟩ := cE wr hnx m (by omega)
      have hds := downto_succ zs d k
      rw [show zs.length - 1 - k = m by omega] at hds
      obtain ⟨z, hze⟩ : ∃ z, z = zs.getD m d := ⟨_, rfl⟩
      rw [← hze] at hcE2 hds
      clear hze
      obtain ⟨fn, tmps, assign, body, hy, hR⟩ := hY _ ((zs.length : Int) - 1 - (k : Int), z) wr hJs (by rw [downto_len]; exact hlt)
      dsimp only [encP] at hy
      rw [← hds] at hR
      rw [hix] at hy ⊢
      obtain ⟨z0, hz0⟩ : ∃ z0 : Int, z0 = (z.1 : Int) := ⟨_, rfl⟩
      rw [← hz0] at hcE2 hy
      have hmlt : m < zs.length := by omega
      have hm0 : (0 : Int) ≤ (m : Int) := by omega
      clear hix hds cE cB hz0
      gi_wp2
      refine ⟨fun h => (by cases h), hR.mono ?_⟩
      rintro e W3 (⟨rfl, hJ3, hk3⟩ | ⟨rfl, hJx3⟩)
      · gi_wp2
        go_roundw
        case rel => exact ⟨k + 1, by omega, by rw [show (m : Int) - 1 = (zs.length : Int) - 1 - ((k + 1 : Nat) : Int) by omega], hJ3, hk3 hnx⟩
        case measure => simp [intOf]
      · gi_wp2
        refine bodyPost_ret (results_none rfl _ _ _) rfl ?_
        exact ⟨⟨_, rfl⟩, .inr ⟨_, ⟨k + 1, by omega, rfl⟩, hJx3⟩⟩
    · obtain rfl : k = zs.length := by omega
      rw [show (zs.length : Int) - 1 - (zs.length : Int) = -1 by omega]
      gi_wp2
      go_end0
      exact ⟨⟨_, rfl⟩, .inl ⟨_, rfl, hJs⟩⟩
end
/-- Numbers. -/
def encI (l : List Nat) : List (List AV) := l.map fun (n : Nat) => [AV.s (.int .i64 (n : Int))]
theorem encI_len (l : List Nat) : (encI l).length = l.length := by simp [encI]
theorem encI_lens (l : List Nat) : ∀ x ∈ encI l, x.length = 1 := by
  intro x hx
  obtain ⟨n, _, rfl⟩ := List.mem_map.1 hx
  rfl
theorem encI_flat (l : List Nat) : (encI l).flatten = l.map fun (n : Nat) => AV.s (.int .i64 (n : Int)) := by
  induction l with
  | nil => rfl
  | cons x l ih => simpa [encI] using ih
/-- The iterator's box holds the slice and stays. -/
def backFn (o : Bool) (l : List Nat) : AV := .fn (.func 17) [.rp [.sl o .none (encI l)]]
set_option maxRecDepth 20000 in
theorem g_Backward (l : List Nat) (o : Bool) (tag : Tag) {st : AS} : DoesCall Try.prog 15 [.sl o tag (encI l)] st fun out st' => out = .ret (backFn o l) ∧ st' = st := by
  intro g w vs hi ha
  obtain ⟨x, rfl, hx⟩ := asim_1' ha
  have hx' := forget0_sim hx
  have hone : oneV x = true := hx.oneV rfl
  obtain ⟨g', h1, _, h3, h4⟩ := hi.row #[x] 41 (0, 0) (fun i v hv => by
    cases i with
    | zero => obtain rfl : x = v := by simpa using hv
              exact hone
    | succ i => simp at hv)
  refine (show Calls Try.prog 15 [x].toArray w fun e w' => e = .returned (.func (.func 17) #[] #[.pointer (some ⟨w.heap.size, 0, none⟩)]) ∧ w' = w.alloc (.cells #[x] 41 (0, 0)) from ?_).mono ?_
  · obtain ⟨A, n, c, rfl⟩ : ∃ A n c, x = .slice A n c := by cases hx; exact ⟨_, _, _, rfl⟩
    go_enter Try.func15, Try.ntmps15
    go_wp2_with fail
    go_ret
    exact ⟨rfl, rfl⟩
  · rintro e w' ⟨rfl, rfl⟩
    refine ⟨g', _, st, h1, h3, .ret _ _ (.fn _ _ _ rfl fun i y hy => ?_), rfl, rfl⟩
    cases i with
    | zero =>
      obtain rfl := Option.some.inj hy
      refine .rp _ w.heap.size 0 (fun _ => x) (fun i z hz => ?_) (fun i z hz => ?_)
      · cases i with
        | zero => obtain rfl := Option.some.inj hz
                  exact ⟨rfl, rfl, h4 0 x rfl⟩
        | succ i => simp at hz
      · cases i with
        | zero => obtain rfl := Option.some.inj hz
                  exact hx'.mono h1
        | succ i => simp at hz
    | succ i => simp at hy
/-- What is known of the cells that the iterator looks at. -/
theorem back_cells {g3 : Gh} {st3 : AS} {w3 : World} {a3 : Act} {fr3 : AFr} (hi : Inv g3 st3 w3) (hf : FSim ⟨[], fun _ => none⟩ g3 fr3 a3) {t : Tmp} {o : Bool} {l : List Nat} (ht : look fr3.l t = backFn o l) :
    ∃ Bs Bo A cap, a3.eval (.tmp t) = .func (.func 17) #[] #[.pointer (some ⟨Bs, Bo, none⟩)] ∧ l.length ≤ 140737488355328 ∧ g3.K Bs Bo = some (.slice A l.length cap) ∧
      ∀ j, j < l.length → ∃ b off, A = some ⟨b, off, none⟩ ∧ g3.K b (off + j) = some (.int .i64 (l.getD j 0 : Int)) := by
  have hv := hf.eval (.tmp t)
  have hv' : VSim g3 (backFn o l) (a3.eval (.tmp t)) := by
    have : AFr.eval fr3 (.tmp t) = backFn o l := ht
    rwa [this] at hv
  generalize a3.eval (.tmp t) = v at hv'
  unfold backFn at hv'
  cases hv' with
  | fn f caps ca hs hh =>
    have h0 := hh 0 _ rfl
    have hca : ca = #[ca.getD 0 undef] := by
      refine Array.ext (by simpa using hs) fun i h1 h2 => ?_
      have : i = 0 := by simp at h2; exact h2
      subst this
      simp [Array.getD, h1]
    generalize ca.getD 0 undef = y at h0 hca
    subst hca
    cases h0 with
    | rp l' b o' vs h1 h2 =>
      have e1 := h1 0 _ rfl
      have e2 := h2 0 _ rfl
      generalize vs 0 = s at e1 e2
      cases e2 with
      | sl own tag es A cap sz ws hl hc hsz k1 hA hh' htag =>
        rw [encI_len] at hl hc e1
        refine ⟨b, o', A, cap, rfl, hc, by simpa using e1.2.2, fun j hj => ?_⟩
        have hx : (encI l).flatten[j]? = some (.s (.int .i64 ((l.getD j 0 : Nat) : Int))) := by
          rw [encI_flat]
          simp [List.getD_eq_getElem?_getD, hj]
        obtain ⟨b2, off, rfl, _, hK⟩ := hA (fun h => by rw [h] at hx; simp at hx)
        have h3 := (hh' j _ hx).lit0 rfl
        exact ⟨b2, off, rfl, by rw [hK j _ hx, h3]⟩
/-- The iterator's contract. -/
theorem back_seq {M : Nat} {g3 : Gh} {st3 : AS} {w3 : World} (hi : Inv g3 st3 w3) {Bs Bo cap : Nat} {A : Option Addr} {zs : List (Plc M)} (d : Plc M) (hz : zs.length ≤ 140737488355328) (hB : g3.K Bs Bo = some (.slice A zs.length cap))
    (hE : ∀ j, j < zs.length → ∃ b off, A = some ⟨b, off, none⟩ ∧ g3.K b (off + j) = some (.int .i64 ((zs.getD j d).1 : Int))) :
    SeqStopsK Fence.wide 1 Try.prog 17 #[.pointer (some ⟨Bs, Bo, none⟩)] (encP (m := M)) (KpC g3.K) (fun xs => xs = downto zs d zs.length) (fun pre => ∃ k, k ≤ zs.length ∧ pre = downto zs d k) zs.length w3 := by
  intro l J Jx W hW hJ hJx hY h0
  exact back1_in 1 l Bs Bo cap A g3.K zs d hz hB hE J Jx hY W (fun b o v hv => hW.cell (hi.K_lt hv) |>.trans (hi.K b o v hv).1) h0
end Go.Proofs.Ytilpiclmdmnlkaa
