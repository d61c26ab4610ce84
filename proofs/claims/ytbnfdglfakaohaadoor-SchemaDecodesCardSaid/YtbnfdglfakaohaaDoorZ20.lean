/- Merged: Leb, LebGet, LebRef. -/
import Derived.Test.YtbnfdglfakaohaaDoorZ19
import Derived.Test.YtbnfdglfakaohaaDoorProg
/- leb.Put, leb.Len and the reference's are the bytes of a number ('put'), and how many they are. -/
set_option linter.unusedVariables false
set_option linter.unusedSimpArgs false
namespace Go.Proofs.YtbnfdglfakaohaaDoor
open Go.RowKit

theorem rowB : RowT Tryd.prog 40 5 1 1 := RowT.of (z := .int .u8 0) Tryd.underlying40 (by kernel_rfl) rfl (by omega)

theorem or128_ : ∀ x : Fin 256, bits .or .u8 ((x.val : Nat) : Int) 128 = ((x.val % 128 + 128 : Nat) : Int) := by decide +kernel
theorem or128 (x : Int) (h0 : 0 ≤ x) (h1 : x < 256) : bits .or .u8 x 128 = x % 128 + 128 := by
  have h := or128_ ⟨x.toNat, by omega⟩
  simp only at h
  rw [show ((x.toNat : Nat) : Int) = x by omega] at h
  rw [h]
  omega

theorem xor_ones (x : Int) (h0 : 0 ≤ x) (h1 : x < 18446744073709551616) : bits .xor .u64 x 18446744073709551615 = 18446744073709551615 - x := by
  show IntKind.u64.wrap ((BitVec.ofInt 64 x ^^^ BitVec.ofInt 64 18446744073709551615).toNat : Int) = _
  have e : BitVec.ofInt 64 18446744073709551615 = BitVec.allOnes 64 := by decide +kernel
  rw [e, BitVec.xor_allOnes, BitVec.toNat_not, IntKind.wrap_u64]
  have e2 : (BitVec.ofInt 64 x).toNat = x.toNat := by rw [BitVec.toNat_ofInt]; omega
  rw [e2]; omega
theorem xor_zero (x : Int) (h0 : 0 ≤ x) (h1 : x < 18446744073709551616) : bits .xor .u64 x 0 = x := by
  rw [u64_xor x 0 h0 h1 (by omega) (by omega)]
  simp; omega
theorem xor_i64_neg (x : Int) (h0 : 0 ≤ x) (h1 : x < 9223372036854775808) : bits .xor .i64 x (-1) = -1 - x := by
  show IntKind.i64.wrap ((BitVec.ofInt 64 x ^^^ BitVec.ofInt 64 (-1)).toNat : Int) = _
  have e : BitVec.ofInt 64 (-1) = BitVec.allOnes 64 := by decide +kernel
  rw [e, BitVec.xor_allOnes, BitVec.toNat_not, IntKind.wrap_i64]
  have e2 : (BitVec.ofInt 64 x).toNat = x.toNat := by rw [BitVec.toNat_ofInt]; omega
  rw [e2]; omega
theorem xor_i64_zero (x : Int) (h0 : 0 ≤ x) (h1 : x < 9223372036854775808) : bits .xor .i64 x 0 = x := by
  show IntKind.i64.wrap ((BitVec.ofInt 64 x ^^^ BitVec.ofInt 64 0).toNat : Int) = _
  have e : BitVec.ofInt 64 0 = 0#64 := by decide +kernel
  rw [e, BitVec.xor_zero, IntKind.wrap_i64]
  have e2 : (BitVec.ofInt 64 x).toNat = x.toNat := by rw [BitVec.toNat_ofInt]; omega
  rw [e2]; omega
theorem and_one (u : Nat) (h : u < 18446744073709551616) : bits .and .u64 (u : Int) 1 = ((u % 2 : Nat) : Int) := by
  have := bits_and_u64_nat u 1 h (by omega)
  rw [show ((1 : Nat) : Int) = 1 from rfl] at this
  rw [this, Nat.and_one_is_mod]

theorem zig_bits (n : Int) (h1 : -9223372036854775808 ≤ n) (h2 : n ≤ 9223372036854775807) :
    bits .xor .u64 (IntKind.u64.wrap (IntKind.u64.wrap n * 2)) (IntKind.u64.wrap (n / 9223372036854775808)) = (zig n : Int) := by
  simp only [IntKind.wrap_u64]
  unfold zig
  by_cases h : 0 ≤ n
  · rw [if_pos h, show n / 9223372036854775808 % 18446744073709551616 = 0 by omega, xor_zero _ (by omega) (by omega)]
    omega
  · rw [if_neg h, show n / 9223372036854775808 % 18446744073709551616 = 18446744073709551615 by omega, xor_ones _ (by omega) (by omega)]
    omega
theorem zag_bits (u : Nat) (h : u < 18446744073709551616) :
    bits .xor .i64 ((u : Int) / 2) (wrap64 (-wrap64 (bits .and .u64 (u : Int) 1))) = zag u := by
  rw [and_one u h]
  unfold zag
  by_cases e : u % 2 = 0
  · rw [if_pos e, e, show wrap64 (-wrap64 ((0 : Nat) : Int)) = 0 by simp [wrap64], xor_i64_zero _ (by omega) (by omega)]
    omega
  · rw [if_neg e, show u % 2 = 1 by omega, show wrap64 (-wrap64 ((1 : Nat) : Int)) = -1 by simp [wrap64], xor_i64_neg _ (by omega) (by omega)]
    omega

theorem bitLen_put : ∀ (n : Nat), n < 2 ^ 64 → (put n).length = max 1 ((Lib.bitLen n + 6) / 7) := by
  intro n
  induction n using Nat.strongRecOn with
  | _ n ih =>
    intro hn
    by_cases h : n < 128
    · rw [put_lt h]
      have := Lib.bitLen_le n 7 (by omega) (by omega)
      simp; omega
    · rw [put_ge h, Lib.bitLen_shift 7 n (by omega) hn]
      have := ih (n / 128) (by omega) (by omega)
      have h1 : 1 ≤ Lib.bitLen (n / 128) := by
        rw [Lib.bitLen_half (n / 128) (by omega) (by omega)]; omega
      have e : n / 2 ^ 7 = n / 128 := rfl
      rw [e, List.length_cons, this]
      omega

set_option maxRecDepth 20000 in
theorem leb_Len (n : Nat) (hn : n < 18446744073709551616) (w : World) :
    Calls Tryd.prog 87 #[.int .u64 n] w fun e w' => e = .returned (.int .i64 (put n).length) ∧ w = w' := by
  have hp := bitLen_put n hn
  have h64 := Lib.bitLen_le n 64 (by omega) hn
  have hfin : max 1 (wrap64 ((wrap64 ((Lib.bitLen n : Int) + 6)).tdiv 7)) = ((put n).length : Int) := by
    rw [hp]
    unfold wrap64
    rw [Int.tdiv_eq_ediv_of_nonneg (by omega)]
    omega
  have Hfin := Lib.hid hfin
  clear hfin hp
  go_enter Tryd.func87, Tryd.ntmps87
  go_wp2_with fail
  refine (Tryd.bits_Len64 _ _ (by omega) (by omega)).mono ?_
  rintro e w' ⟨rfl, rfl⟩
  clear h64
  go_wp2_with fail
  go_ret
  refine ⟨?_, rfl⟩
  rw [← Hfin.out]
  rfl

set_option maxRecDepth 20000 in
theorem leb_Put (n : Nat) (hn : n < 18446744073709551616) (w : World) :
    Calls Tryd.prog 60 #[.int .u64 n] w fun e w' => ∃ A c, e = .returned (.slice A (put n).length c) ∧
      w'.ownsRow w.heap.size 5 1 (.slice A (put n).length c) (put n).length (cellsB (put n)) ∧ Kept w w' := by
  obtain ⟨i0, hi0, hz0, hz1, hz2⟩ := info_parts (show (Tryd.prog.info? 5).map (fun i => (i.zero, i.size, i.bytes)) = some (some (.int .u8 0), 1, 1) by kernel_rfl)
  have hten := put_ten hn
  go_enter Tryd.func60, Tryd.ntmps60
  go_wp2_with fail
  refine (leb_Len n hn _).mono ?_
  rintro e w' ⟨rfl, rfl⟩
  go_wp2_with (at_make; refine wpList_make_own _ rfl _ _ 40 rfl w.heap.size 5 i0 (.int .u8 0) 1 Tryd.underlying40 hi0 hz0 hz1 .i64 .i64 _ (put n).length rfl rfl rfl (by rw [hz2]; omega) (by unfold maxLen; omega) (Nat.le_refl _) ?_; intro w1 hown1 hg1)
  have hk1 : Kept w w1 := (Kept.refl _).grown hg1 (by simp)
  clear hz0 hi0 hz1 hz2
  go_loopg [0, 3] n (fun k u v wr => ∃ (m : Nat) (xs : List UInt8) (A : Option Addr) (c : Nat), u = .int .u64 m ∧ m ≤ k ∧ k ≤ n ∧ v = .slice A xs.length c ∧ Hid (put n = xs ++ put m) ∧ wr.ownsRow w.heap.size 5 1 (.slice A xs.length c) xs.length (cellsB xs) ∧ Kept w wr)
  case atStart => exact ⟨n, [], _, _, rfl, Nat.le_refl _, Nat.le_refl _, rfl, Lib.hid (by simp), hown1, hk1⟩
  case round =>
    obtain ⟨m, xs, A, c, rfl, hmk, hmn, rfl, HP, hown, hk⟩ := hrel
    have hx : xs.length ≤ 10 := by have := congrArg List.length HP.out; simp at this; omega
    by_cases h : m < 128
    · have HE := Lib.hid (show put n = xs ++ [UInt8.ofNat m] from HP.out.trans (by rw [put_lt h]))
      go_wp2_with (at_builtin; refine wpList_app rfl _ _ _ rfl rowB w.heap.size (cellsB xs) rfl (own_kept hown (Kept.alloc (Kept.refl _) _)) [_] rfl (Src.new1 wr _ _ rfl) (by unfold maxLen; omega) (by omega) (Kept.alloc hk _).size ?_; intro A1 c1 w2 hown2 hg2 hat2)
      have hk2 : Kept w w2 := (Kept.alloc hk _).grown hg2 (own_base hown)
      go_ret
      have e1 : (put n).length = xs.length + 1 := by rw [HE.out]; simp
      have e2 : cellsB (put n) = cellsB xs ++ [.int .u8 (m : Int)] := by
        rw [HE.out, cellsB_append]
        simp [cellsB]; omega
      exact ⟨A1, c1, by rw [e1]; rfl, by rw [e1, e2]; exact hown2, hk2⟩
    · have HE := Lib.hid (show put n = (xs ++ [UInt8.ofNat (m % 128 + 128)]) ++ put (m / 128) from HP.out.trans (by rw [put_ge h]; simp))
      go_wp2_with (at_builtin; refine wpList_app rfl _ _ _ rfl rowB w.heap.size (cellsB xs) rfl (own_kept hown (Kept.alloc (Kept.refl _) _)) [_] rfl (Src.new1 wr _ _ rfl) (by unfold maxLen; omega) (by omega) (Kept.alloc hk _).size ?_; intro A1 c1 w2 hown2 hg2 hat2)
      have hk2 : Kept w w2 := (Kept.alloc hk _).grown hg2 (own_base hown)
      go_roundg (m / 128)
      case measure => omega
      case rel =>
        have e2 : cellsB (xs ++ [UInt8.ofNat (m % 128 + 128)]) = cellsB xs ++ [.int .u8 (bits .or .u8 ((m : Int) % 256) 128)] := by
          rw [cellsB_append, or128 ((m : Int) % 256) (by omega) (by omega)]
          simp [cellsB]; omega
        exact ⟨m / 128, xs ++ [UInt8.ofNat (m % 128 + 128)], A1, c1, by go_num, Nat.le_refl _, by omega, by simp, HE, by rw [e2]; simpa using hown2, hk2⟩

set_option maxRecDepth 20000 in
theorem ref_Put (n : Nat) (hn : n < 18446744073709551616) (w : World) :
    Calls Tryd.prog 65 #[.int .u64 n] w fun e w' => ∃ A c, e = .returned (.slice A (put n).length c) ∧
      w'.ownsRow w.heap.size 5 1 (.slice A (put n).length c) (put n).length (cellsB (put n)) ∧ Kept w w' := by
  have hten := put_ten hn
  go_enter Tryd.func65, Tryd.ntmps65
  go_wp2_with fail
  go_loopg [0, 3] n (fun k u v wr => ∃ (m : Nat) (xs : List UInt8) (A : Option Addr) (c : Nat), u = .int .u64 m ∧ m ≤ k ∧ k ≤ n ∧ v = .slice A xs.length c ∧ Hid (put n = xs ++ put m) ∧ wr.ownsRow w.heap.size 5 1 (.slice A xs.length c) xs.length (cellsB xs) ∧ Kept w wr)
  case atStart => exact ⟨n, [], none, 0, rfl, Nat.le_refl _, Nat.le_refl _, rfl, Lib.hid (by simp), own_nil _ _ _ _, Kept.refl _⟩
  case round =>
    obtain ⟨m, xs, A, c, rfl, hmk, hmn, rfl, HP, hown, hk⟩ := hrel
    have hx : xs.length ≤ 10 := by have := congrArg List.length HP.out; simp at this; omega
    by_cases h : m < 128
    · have HE := Lib.hid (show put n = xs ++ [UInt8.ofNat m] from HP.out.trans (by rw [put_lt h]))
      go_wp2_with (at_builtin; refine wpList_app rfl _ _ _ rfl rowB w.heap.size (cellsB xs) rfl (own_kept hown (Kept.alloc (Kept.refl _) _)) [_] rfl (Src.new1 wr _ _ rfl) (by unfold maxLen; omega) (by omega) (Kept.alloc hk _).size ?_; intro A1 c1 w2 hown2 hg2 hat2)
      have hk2 : Kept w w2 := (Kept.alloc hk _).grown hg2 (own_base hown)
      go_ret
      have e1 : (put n).length = xs.length + 1 := by rw [HE.out]; simp
      have e2 : cellsB (put n) = cellsB xs ++ [.int .u8 (m : Int)] := by
        rw [HE.out, cellsB_append]
        simp [cellsB]; omega
      exact ⟨A1, c1, by rw [e1]; rfl, by rw [e1, e2]; exact hown2, hk2⟩
    · have HE := Lib.hid (show put n = (xs ++ [UInt8.ofNat (m % 128 + 128)]) ++ put (m / 128) from HP.out.trans (by rw [put_ge h]; simp))
      go_wp2_with (at_builtin; refine wpList_app rfl _ _ _ rfl rowB w.heap.size (cellsB xs) rfl (own_kept hown (Kept.alloc (Kept.refl _) _)) [_] rfl (Src.new1 wr _ _ rfl) (by unfold maxLen; omega) (by omega) (Kept.alloc hk _).size ?_; intro A1 c1 w2 hown2 hg2 hat2)
      have hk2 : Kept w w2 := (Kept.alloc hk _).grown hg2 (own_base hown)
      go_roundg (m / 128)
      case measure => omega
      case rel =>
        have e2 : cellsB (xs ++ [UInt8.ofNat (m % 128 + 128)]) = cellsB xs ++ [.int .u8 ((m : Int) % 128 + 128)] := by
          rw [cellsB_append]
          simp [cellsB]; omega
        exact ⟨m / 128, xs ++ [UInt8.ofNat (m % 128 + 128)], A1, c1, by go_num, Nat.le_refl _, by omega, by simp, HE, by rw [e2]; simpa using hown2, hk2⟩

set_option maxRecDepth 20000 in
theorem leb_Zig (n : Int) (h1 : -9223372036854775808 ≤ n) (h2 : n ≤ 9223372036854775807) (w : World) :
    Calls Tryd.prog 88 #[.int .i64 n] w fun e w' => e = .returned (.int .u64 (zig n)) ∧ w = w' := by
  have H := Lib.hid (zig_bits n h1 h2)
  go_enter Tryd.func88, Tryd.ntmps88
  go_wp2_with fail
  go_ret
  exact ⟨by rw [← H.out]; rfl, rfl⟩
set_option maxRecDepth 20000 in
theorem ref_Zig (n : Int) (h1 : -9223372036854775808 ≤ n) (h2 : n ≤ 9223372036854775807) (w : World) :
    Calls Tryd.prog 89 #[.int .i64 n] w fun e w' => e = .returned (.int .u64 (zig n)) ∧ w = w' := by
  have H : Hid ((zig n : Int) = if 0 ≤ n then 2 * n else 2 * -(n + 1) + 1) := by unfold Hid zig; split <;> omega
  by_cases h : 0 ≤ n
  · go_enter Tryd.func89, Tryd.ntmps89
    go_wp2_with fail
    go_ret
    exact ⟨by rw [H.out, if_pos h]; rfl, rfl⟩
  · go_enter Tryd.func89, Tryd.ntmps89
    go_wp2_with fail
    go_ret
    exact ⟨by rw [H.out, if_neg (Int.not_le.2 h)]; rfl, rfl⟩
set_option maxRecDepth 20000 in
theorem leb_Zag (u : Nat) (h2 : u < 18446744073709551616) (w : World) :
    Calls Tryd.prog 93 #[.int .u64 u] w fun e w' => e = .returned (.int .i64 (zag u)) ∧ w = w' := by
  have H := Lib.hid (zag_bits u h2)
  go_enter Tryd.func93, Tryd.ntmps93
  go_wp2_with fail
  go_ret
  exact ⟨by rw [← H.out]; rfl, rfl⟩
set_option maxRecDepth 20000 in
theorem ref_Zag (u : Nat) (h2 : u < 18446744073709551616) (w : World) :
    Calls Tryd.prog 102 #[.int .u64 u] w fun e w' => e = .returned (.int .i64 (zag u)) ∧ w = w' := by
  have H : Hid (zag u = if u % 2 = 0 then (u : Int) / 2 else -((u : Int) / 2) - 1) := by unfold Hid zag; split <;> omega
  by_cases h : u % 2 = 0
  · have hb : ((u : Int) % 2 == 0) = true := beq_iff_eq.2 (by omega)
    go_enter Tryd.func102, Tryd.ntmps102
    go_wp2_with fail
    go_ret
    exact ⟨by rw [H.out, if_pos h]; rfl, rfl⟩
  · have hb : ((u : Int) % 2 == 0) = false := beq_eq_false_iff_ne.2 (by omega)
    have H2 := Lib.hid h
    clear h
    go_enter Tryd.func102, Tryd.ntmps102
    go_wp2_with fail
    go_ret
    exact ⟨by rw [H.out, if_neg H2.out]; rfl, rfl⟩
end Go.Proofs.YtbnfdglfakaohaaDoor
/- leb.Get and the reference's both tell what bytes begin with ('getAt'). -/
set_option linter.unusedVariables false
set_option linter.unusedSimpArgs false
namespace Go.Proofs.YtbnfdglfakaohaaDoor
open Go.RowKit

theorem or_shift (acc b j : Nat) (hj : j ≤ 9) (h1 : acc < 2 ^ (7 * j)) (h2 : b < 128) (h3 : j = 9 → b ≤ 1) :
    bits .or .u64 (acc : Int) (IntKind.u64.wrap ((b : Int) * 2 ^ (7 * j))) = ((acc + b * 2 ^ (7 * j) : Nat) : Int) := by
  have e : ((b : Int) * 2 ^ (7 * j)) = ((b * 2 ^ (7 * j) : Nat) : Int) := by push_cast; rfl
  have hlt : b * 2 ^ (7 * j) < 18446744073709551616 := by
    rcases Nat.lt_or_ge j 9 with h9 | h9
    · have a1 : b * 2 ^ (7 * j) ≤ 127 * 2 ^ 56 := Nat.mul_le_mul (by omega) (Nat.pow_le_pow_right (by omega) (by omega))
      omega
    · obtain rfl : j = 9 := by omega
      have := h3 rfl
      have a1 : b * 2 ^ (7 * 9) ≤ 1 * 2 ^ 63 := Nat.mul_le_mul (by omega) (Nat.le_refl _)
      omega
  have ha : acc < 18446744073709551616 := by
    have : 2 ^ (7 * j) ≤ 2 ^ 63 := Nat.pow_le_pow_right (by omega) (by omega)
    omega
  rw [e, IntKind.wrap_u64, show ((b * 2 ^ (7 * j) : Nat) : Int) % 18446744073709551616 = ((b * 2 ^ (7 * j) : Nat) : Int) by omega, u64_or_nat _ _ ha hlt]
  congr 1
  rw [Nat.or_comm, Nat.mul_comm, ← Nat.two_pow_add_eq_or_of_lt h1, Nat.add_comm]
theorem and127_ : ∀ x : Fin 256, bits .and .u8 ((x.val : Nat) : Int) 127 = ((x.val % 128 : Nat) : Int) := by decide +kernel
theorem and127 (x : Nat) (h1 : x < 256) : bits .and .u8 (x : Int) 127 = ((x % 128 : Nat) : Int) := and127_ ⟨x, h1⟩

set_option maxRecDepth 20000 in
set_option maxHeartbeats 1000000 in
theorem leb_Get_in (A : Option Addr) (c : Nat) (l : List UInt8) (k : Nat) (w : World) (hl : Bs w A l) (hk : k < l.length) (hc : l.length ≤ c) (hm : l.length ≤ 9223372036854775000) :
    Calls Tryd.prog 91 #[.slice A l.length c, .int .i64 k] w fun e w' => e = .returned (.tuple #[.int .u64 (getAt l k).1, .int .i64 (getAt l k).2.1, .int .i64 (getAt l k).2.2]) ∧ w = w' := by
  go_enter Tryd.func91, Tryd.ntmps91
  have i0 : ¬ ((k : Int) < 0) := by omega
  have i1 : ¬ ((l.length : Int) ≤ (k : Int)) := by omega
  go_wp2_with fail
  go_step3
  go_wp2_with fail
  go_step3
  go_wp2_with fail
  go_loopg [25, 7, 8] 10 (fun g u v x wr => ∃ j : Nat, u = .int .i64 j ∧ v = .int .u64 ((horner ((l.drop k).take j) : Nat) : Int) ∧ x = .int .i64 30 ∧ g + j = 10 ∧ j ≤ 9 ∧ j + k ≤ l.length ∧ Hid (w = wr) ∧ Lead (l.drop k) j)
  case atStart => exact ⟨0, rfl, rfl, rfl, rfl, by omega, by omega, Lib.hid rfl, fun i b h => absurd h (by omega)⟩
  case round =>
    obtain ⟨j, rfl, rfl, rfl, hg, hj, hjk, HW, HL⟩ := hrel
    obtain rfl := HW.out
    clear HW
    have hhl := horner_lt ((l.drop k).take j)
    rw [show ((l.drop k).take j).length = j by simp; omega] at hhl
    obtain ⟨acc, hacc⟩ : ∃ acc, acc = horner ((l.drop k).take j) := ⟨_, rfl⟩
    rw [← hacc] at hhl ⊢
    have HA := Lib.hid hacc
    clear hacc
    by_cases hlt : j + k < l.length
    · obtain ⟨ad, b, rfl, hb, HB, hb1⟩ := hl.byte (k + j) (by omega)
      rw [← add_add] at hb
      have HB2 : Hid ((l.drop k)[j]? = some b) := by unfold Hid; rw [List.getElem?_drop]; exact HB.out
      have j1 : (j : Int) < ((l.length - k : Nat) : Int) := by omega
      have j2 : (0 : Int) ≤ (j : Int) := by omega
      by_cases hform : (j = 9 ∧ 1 < b.toNat) ∨ (b.toNat = 0 ∧ 0 < j)
      · have HF := Lib.hid (getAt_err (l := l) (k := k) (lead_form HL hj HB2.out hform) (by omega))
        rcases hform with ⟨h9, h1⟩ | ⟨h0, h1⟩
        · have e9 : ((j : Int) == 9) = true := beq_iff_eq.2 (by omega)
          have e1 : decide (1 < ((b.toNat : Nat) : Int)) = true := decide_eq_true (by omega)
          clear h9 h1
          go_wp2_with fail
          try simp only [Exit.noGoto]
          go_ret3
          exact ⟨by rw [HF.out]; rfl, rfl⟩
        · have H0 := Lib.hid h0
          by_cases h9 : j = 9
          · have e9 : ((j : Int) == 9) = true := beq_iff_eq.2 (by omega)
            have e1 : decide (1 < ((b.toNat : Nat) : Int)) = false := decide_eq_false (by omega)
            have e0 : (((b.toNat : Nat) : Int) == 0) = true := beq_iff_eq.2 (by omega)
            have e2 : decide (0 < j) = true := decide_eq_true (by omega)
            clear h9 h0 h1
            go_wp2_with fail
            try simp only [Exit.noGoto]
            go_ret3
            exact ⟨by rw [HF.out]; rfl, rfl⟩
          · have e9 : ((j : Int) == 9) = false := beq_eq_false_iff_ne.2 (by omega)
            have e0 : (((b.toNat : Nat) : Int) == 0) = true := beq_iff_eq.2 (by omega)
            have e2 : decide (0 < j) = true := decide_eq_true (by omega)
            clear h9 h0 h1
            go_wp2_with fail
            try simp only [Exit.noGoto]
            go_ret3
            exact ⟨by rw [HF.out]; rfl, rfl⟩
      · by_cases h128 : b.toNat < 128
        · have HF := Lib.hid (getAt_ok (l := l) (lead_ok HL hj HB2.out hform h128))
          have HV : Hid (bits .or .u64 (acc : Int) (IntKind.u64.wrap ((b.toNat : Int) * 2 ^ (7 * j))) = ((horner ((l.drop k).take (j + 1)) : Nat) : Int)) := by
            unfold Hid
            rw [or_shift acc b.toNat j hj hhl h128 (fun h9 => by omega), take_snoc HB2.out, horner_snoc, ← HA.out, Nat.mod_eq_of_lt h128]
            simp [show min j (l.length - k) = j by omega]
          have e4 : decide (((b.toNat : Nat) : Int) < 128) = true := decide_eq_true (by omega)
          by_cases h9 : j = 9
          · have e9 : ((j : Int) == 9) = true := beq_iff_eq.2 (by omega)
            have e1 : decide (1 < ((b.toNat : Nat) : Int)) = false := decide_eq_false (by omega)
            have e0 : (((b.toNat : Nat) : Int) == 0) = false := beq_eq_false_iff_ne.2 (by omega)
            clear h9 h128 hform
            go_wp2_with fail
            try simp only [Exit.noGoto]
            go_ret3
            exact ⟨by rw [HF.out]; simp only; rw [← HV.out]; go_num, rfl⟩
          · have e9 : ((j : Int) == 9) = false := beq_eq_false_iff_ne.2 (by omega)
            by_cases h0 : b.toNat = 0
            · have e0 : (((b.toNat : Nat) : Int) == 0) = true := beq_iff_eq.2 (by omega)
              have e2 : decide (0 < j) = false := decide_eq_false (by omega)
              clear h9 h0 h128 hform
              go_wp2_with fail
              try simp only [Exit.noGoto]
              go_ret3
              exact ⟨by rw [HF.out]; simp only; rw [← HV.out]; go_num, rfl⟩
            · have e0 : (((b.toNat : Nat) : Int) == 0) = false := beq_eq_false_iff_ne.2 (by omega)
              clear h9 h0 h128 hform
              go_wp2_with fail
              try simp only [Exit.noGoto]
              go_ret3
              exact ⟨by rw [HF.out]; simp only; rw [← HV.out]; go_num, rfl⟩
        · have HL2 : Lead (l.drop k) (j + 1) := HL.succ HB2.out (by omega)
          have HV : Hid (bits .or .u64 (acc : Int) (IntKind.u64.wrap (IntKind.u64.wrap (bits .and .u8 (b.toNat : Int) 127) * 2 ^ (7 * j))) = ((horner ((l.drop k).take (j + 1)) : Nat) : Int)) := by
            unfold Hid
            rw [and127 _ hb1, IntKind.wrap_u64 ((b.toNat % 128 : Nat) : Int), show ((b.toNat % 128 : Nat) : Int) % 18446744073709551616 = ((b.toNat % 128 : Nat) : Int) by omega, or_shift acc (b.toNat % 128) j hj hhl (by omega) (fun h9 => by omega), take_snoc HB2.out, horner_snoc, ← HA.out]
            simp [show min j (l.length - k) = j by omega]
          have j9 : j + 1 ≤ 9 := by omega
          have e4 : decide (((b.toNat : Nat) : Int) < 128) = false := decide_eq_false (by omega)
          have e9 : ((j : Int) == 9) = false := beq_eq_false_iff_ne.2 (by omega)
          have e0 : (((b.toNat : Nat) : Int) == 0) = false := beq_eq_false_iff_ne.2 (by omega)
          clear h128 hform
          go_wp2_with fail
          go_roundg (gk - 1)
          case measure => omega
          case rel => exact ⟨j + 1, by go_num, by rw [← HV.out], rfl, by omega, j9, by omega, Lib.hid rfl, HL2⟩
    · have HF := Lib.hid (getAt_err (l := l) (k := k) (lead_short HL hj (by simp; omega)) (by omega))
      have j1 : ¬ (j : Int) < ((l.length - k : Nat) : Int) := by omega
      go_wp2_with fail
      try simp only [Exit.noGoto]
      go_ret3
      exact ⟨by rw [HF.out]; rfl, rfl⟩
set_option maxRecDepth 20000 in
theorem leb_Get_neg (A : Option Addr) (c : Nat) (l : List UInt8) (k : Int) (w : World) (h : k < 0) :
    Calls Tryd.prog 91 #[.slice A l.length c, .int .i64 k] w fun e w' => e = .returned (.tuple #[.int .u64 (getAt l k).1, .int .i64 (getAt l k).2.1, .int .i64 (getAt l k).2.2]) ∧ w = w' := by
  have HF := Lib.hid (getAt_neg (l := l) h)
  have e0 : decide (k < 0) = true := decide_eq_true h
  go_enter Tryd.func91, Tryd.ntmps91
  go_wp2_with fail
  go_step3
  go_wp2_with fail
  try simp only [Exit.noGoto]
  go_ret3
  exact ⟨by rw [HF.out]; rfl, rfl⟩
set_option maxRecDepth 20000 in
theorem leb_Get_out (A : Option Addr) (c : Nat) (l : List UInt8) (k : Int) (w : World) (h0 : ¬ k < 0) (h : (l.length : Int) ≤ k) :
    Calls Tryd.prog 91 #[.slice A l.length c, .int .i64 k] w fun e w' => e = .returned (.tuple #[.int .u64 (getAt l k).1, .int .i64 (getAt l k).2.1, .int .i64 (getAt l k).2.2]) ∧ w = w' := by
  have HF := Lib.hid (getAt_out (l := l) h0 h)
  have e0 : decide (k < 0) = false := decide_eq_false h0
  have e1 : decide ((l.length : Int) ≤ k) = true := decide_eq_true h
  go_enter Tryd.func91, Tryd.ntmps91
  go_wp2_with fail
  go_step3
  go_wp2_with fail
  try simp only [Exit.noGoto]
  go_ret3
  exact ⟨by rw [HF.out]; rfl, rfl⟩
theorem leb_Get (A : Option Addr) (c : Nat) (l : List UInt8) (k : Int) (w : World) (hl : Bs w A l) (hc : l.length ≤ c) (hm : l.length ≤ 9223372036854775000) :
    Calls Tryd.prog 91 #[.slice A l.length c, .int .i64 k] w fun e w' => e = .returned (.tuple #[.int .u64 (getAt l k).1, .int .i64 (getAt l k).2.1, .int .i64 (getAt l k).2.2]) ∧ w = w' := by
  by_cases h0 : k < 0
  · exact leb_Get_neg A c l k w h0
  · by_cases h1 : (l.length : Int) ≤ k
    · exact leb_Get_out A c l k w h0 h1
    · obtain ⟨n, rfl⟩ := Int.eq_ofNat_of_zero_le (Int.not_lt.1 h0)
      exact leb_Get_in A c l n w hl (by omega) hc hm
end Go.Proofs.YtbnfdglfakaohaaDoor
/- The reference's Get tells what bytes begin with ('getAt'). -/
set_option linter.unusedVariables false
set_option linter.unusedSimpArgs false
namespace Go.Proofs.YtbnfdglfakaohaaDoor
open Go.RowKit

set_option maxRecDepth 20000 in
set_option maxHeartbeats 1000000 in
theorem ref_Get_in (A : Option Addr) (c : Nat) (l : List UInt8) (k : Nat) (w : World) (hl : Bs w A l) (hk : k < l.length) (hc : l.length ≤ c) (hm : l.length ≤ 9223372036854775000) :
    Calls Tryd.prog 52 #[.slice A l.length c, .int .i64 k] w fun e w' => e = .returned (.tuple #[.int .u64 (getAt l k).1, .int .i64 (getAt l k).2.1, .int .i64 (getAt l k).2.2]) ∧ w = w' := by
  go_enter Tryd.func52, Tryd.ntmps52
  have i0 : ¬ ((k : Int) < 0) := by omega
  have i1 : ¬ ((l.length : Int) ≤ (k : Int)) := by omega
  go_wp2_with fail
  go_loopg [7] 11 (fun g u wr => ∃ j : Nat, u = .int .i64 j ∧ g + j = 11 ∧ j ≤ 10 ∧ j + k ≤ l.length ∧ Hid (w = wr) ∧ Lead (l.drop k) j)
  case atStart => exact ⟨0, rfl, rfl, by omega, by omega, Lib.hid rfl, fun i b h => absurd h (by omega)⟩
  case round =>
    obtain ⟨j, rfl, hg, hj, hjk, HW, HL⟩ := hrel
    obtain rfl := HW.out
    clear HW
    by_cases h10 : j = 10
    · subst h10
      have H9 : (l.drop k)[9]? = some ((l.drop k)[9]'(by simp; omega)) := List.getElem?_eq_getElem (by simp; omega)
      have HF := Lib.hid (getAt_err (l := l) (k := k) (lead_form (k := 9) (fun i b h => HL i b (by omega)) (by omega) H9 (.inl ⟨rfl, by have := HL 9 _ (by omega) H9; omega⟩)) (by omega))
      clear H9
      go_wp2_with fail
      go_ret3
      exact ⟨by rw [HF.out]; rfl, rfl⟩
    · have e10 : ((j : Int) == 10) = false := beq_eq_false_iff_ne.2 (by omega)
      have d10 : decide ((j : Int) < 10) = true := decide_eq_true (by omega)
      by_cases hlt : j + k < l.length
      · obtain ⟨ad, b, rfl, hb, HB, hb1⟩ := hl.byte (k + j) (by omega)
        have HB2 : Hid ((l.drop k)[j]? = some b) := by unfold Hid; rw [List.getElem?_drop]; exact HB.out
        have j1 : decide ((j : Int) < (l.length : Int) - (k : Int)) = true := decide_eq_true (by omega)
        have j2 : (0 : Int) ≤ (j : Int) := by omega
        have j3 : ((j : Int) == (l.length : Int) - (k : Int)) = false := beq_eq_false_iff_ne.2 (by omega)
        have k1 : (0 : Int) ≤ (k : Int) + (j : Int) := by omega
        have k2 : (k : Int) + (j : Int) < (l.length : Int) := by omega
        have k3 : Hid (((k : Int) + (j : Int)).toNat = k + j) := by unfold Hid; omega
        by_cases h128 : b.toNat < 128
        · have d1 : decide (127 < (b.toNat : Int)) = false := decide_eq_false (by omega)
          by_cases hform : (j = 9 ∧ 1 < b.toNat) ∨ (b.toNat = 0 ∧ 0 < j)
          · have HF := Lib.hid (getAt_err (l := l) (k := k) (lead_form HL (by omega) HB2.out hform) (by omega))
            by_cases h9 : j = 9
            · have hb9 : w.cell? ⟨ad.block, ad.off + (k + 8 + 1), none⟩ = some (.int .u8 (b.toNat : Int)) := by
                rw [h9] at hb; simpa [Addr.add] using hb
              have e9 : ((j : Int) == 9) = true := beq_iff_eq.2 (by omega)
              have q1 : (0 : Int) ≤ (k : Int) + 9 := by omega
              have q2 : (k : Int) + 9 < (l.length : Int) := by omega
              by_cases h1 : 1 < b.toNat
              · have d2 : decide (1 < (b.toNat : Int)) = true := decide_eq_true (by omega)
                clear hform h1 h10 h9
                go_wp2_with fail
                go_ret3
                exact ⟨by rw [HF.out]; rfl, rfl⟩
              · have d2 : decide (1 < (b.toNat : Int)) = false := decide_eq_false (by omega)
                have e0 : ((b.toNat : Int) == 0) = true := beq_iff_eq.2 (by omega)
                have d3 : decide (0 < j) = true := decide_eq_true (by omega)
                clear hform h1 h10 h9
                go_wp2_with fail
                go_ret3
                exact ⟨by rw [HF.out]; rfl, rfl⟩
            · have e9 : ((j : Int) == 9) = false := beq_eq_false_iff_ne.2 (by omega)
              have e0 : ((b.toNat : Int) == 0) = true := beq_iff_eq.2 (by omega)
              have d3 : decide (0 < j) = true := decide_eq_true (by omega)
              clear hform h10 h9
              go_wp2_with fail
              go_ret3
              exact ⟨by rw [HF.out]; rfl, rfl⟩
          · have HF := Lib.hid (getAt_ok (l := l) (lead_ok HL (by omega) HB2.out hform h128))
            have HG := Lib.hid (lead_ok HL (by omega) HB2.out hform h128)
            have hb9 : j = 9 → w.cell? ⟨ad.block, ad.off + (k + 8 + 1), none⟩ = some (.int .u8 (b.toNat : Int)) := by
              intro h9; rw [h9] at hb; simpa [Addr.add] using hb
            have q1 : (0 : Int) ≤ (k : Int) + 9 := by omega
            have way : ((((j : Int) == 9) = true ∧ w.cell? ⟨ad.block, ad.off + (k + 8 + 1), none⟩ = some (.int .u8 (b.toNat : Int)) ∧ (k : Int) + 9 < (l.length : Int) ∧ decide (1 < (b.toNat : Int)) = false ∧ ((b.toNat : Int) == 0) = false ∧ decide (0 < j) = true) ∨
                (((j : Int) == 9) = false ∧ ((b.toNat : Int) == 0) = false ∧ decide (0 < j) = true) ∨ (((j : Int) == 9) = false ∧ ((b.toNat : Int) == 0) = false ∧ decide (0 < j) = false) ∨ (((j : Int) == 9) = false ∧ ((b.toNat : Int) == 0) = true ∧ decide (0 < j) = false)) := by
              by_cases h9 : j = 9
              · exact .inl ⟨beq_iff_eq.2 (by omega), hb9 h9, by omega, decide_eq_false (by omega), beq_eq_false_iff_ne.2 (by omega), decide_eq_true (by omega)⟩
              · by_cases h0 : b.toNat = 0
                · exact .inr (.inr (.inr ⟨beq_eq_false_iff_ne.2 (by omega), beq_iff_eq.2 (by omega), decide_eq_false (by omega)⟩))
                · by_cases hj0 : 0 < j
                  · exact .inr (.inl ⟨beq_eq_false_iff_ne.2 (by omega), beq_eq_false_iff_ne.2 (by omega), decide_eq_true hj0⟩)
                  · exact .inr (.inr (.inl ⟨beq_eq_false_iff_ne.2 (by omega), beq_eq_false_iff_ne.2 (by omega), decide_eq_false hj0⟩))
            clear hb9
            have hj9 : j ≤ 9 := by omega
            clear hform h10
            rcases way with ⟨e9, hb9, q2, d2, e0, d3⟩ | ⟨e9, e0, d3⟩ | ⟨e9, e0, d3⟩ | ⟨e9, e0, d3⟩
            all_goals
              go_wp2_with fail
              go_loop [8, 9] (fun u v => ∃ m : Int, v = .int .i64 m ∧ -1 ≤ m ∧ m ≤ j ∧ u = .int .u64 ((horner (((l.drop k).take (j + 1)).drop (m + 1).toNat) : Nat) : Int)) (fun _ v => (intOf v + 1).toNat)
              case atStart =>
                refine ⟨j, rfl, by omega, by omega, ?_⟩
                rw [List.drop_of_length_le (by simp; omega)]
                rfl
              case round =>
                obtain ⟨m, rfl, hm0, hmj, rfl⟩ := hrel
                by_cases hm : 0 ≤ m
                · obtain ⟨ad2, b2, he2, hb2, HB3, hb3⟩ := hl.byte (k + m.toNat) (by omega)
                  obtain rfl := Option.some.inj he2
                  have HD : Hid (((l.drop k).take (j + 1)).drop m.toNat = b2 :: ((l.drop k).take (j + 1)).drop (m + 1).toNat) := by
                    have h1 : ((l.drop k).take (j + 1))[m.toNat]? = some b2 := by
                      rw [List.getElem?_take, if_pos (by omega), List.getElem?_drop]; exact HB3.out
                    have h2 := drop_cons h1
                    rw [show (m + 1).toNat = m.toNat + 1 by omega]
                    exact h2
                  have hle := horner_drop_le ((l.drop k).take (j + 1)) m.toNat
                  have hN := (get_ok HG.out).2.2.2
                  obtain ⟨acc, hacc⟩ : ∃ acc, acc = horner (((l.drop k).take (j + 1)).drop (m + 1).toNat) := ⟨_, rfl⟩
                  have hval : horner (((l.drop k).take (j + 1)).drop m.toNat) = b2.toNat % 128 + 128 * acc := by rw [HD.out, horner, hacc]
                  have hb4 : b2.toNat % 128 + 128 * acc < 18446744073709551616 := by omega
                  rw [← hacc]
                  have HV := Lib.hid hval
                  clear hacc hval hle hN
                  have t1 : 0 ≤ (k : Int) + m := by omega
                  have t2 : (k : Int) + m < (l.length : Int) := by omega
                  have t3 : w.cell? (ad.add ((k : Int) + m).toNat) = some (.int .u8 (b2.toNat : Int)) := by
                    rw [show ((k : Int) + m).toNat = k + m.toNat by omega]; exact hb2
                  clear hb2
                  go_wp2_with fail
                  go_round
                  case rel =>
                    refine ⟨m - 1, rfl, by omega, by omega, ?_⟩
                    rw [show (m - 1 + 1).toNat = m.toNat by omega, HV.out]
                    go_num
                  case measure => simp [intOf]; omega
                · have hm1 : m < 0 := by omega
                  have e1 : Hid ((m + 1).toNat = 0) := by unfold Hid; omega
                  go_wp2_with fail
                  go_ret3
                  refine ⟨?_, rfl⟩
                  rw [HF.out]
                  simp only
                  rw [e1.out]
                  go_num
        · have d1 : decide (127 < (b.toNat : Int)) = true := decide_eq_true (by omega)
          have HL2 : Lead (l.drop k) (j + 1) := HL.succ HB2.out (by omega)
          have hj9 : j ≤ 9 := by omega
          clear h10 h128
          go_wp2_with fail
          go_roundg (gk - 1)
          case measure => omega
          case rel => exact ⟨j + 1, by go_num, by omega, by omega, by omega, Lib.hid rfl, HL2⟩
      · have HF := Lib.hid (getAt_err (l := l) (k := k) (lead_short HL (by omega) (by simp; omega)) (by omega))
        have j1 : decide ((j : Int) < (l.length : Int) - (k : Int)) = false := decide_eq_false (by omega)
        have j3 : ((j : Int) == (l.length : Int) - (k : Int)) = true := beq_iff_eq.2 (by omega)
        clear h10
        go_wp2_with fail
        go_ret3
        exact ⟨by rw [HF.out]; rfl, rfl⟩
set_option maxRecDepth 20000 in
theorem ref_Get_neg (A : Option Addr) (c : Nat) (l : List UInt8) (k : Int) (w : World) (h : k < 0) :
    Calls Tryd.prog 52 #[.slice A l.length c, .int .i64 k] w fun e w' => e = .returned (.tuple #[.int .u64 (getAt l k).1, .int .i64 (getAt l k).2.1, .int .i64 (getAt l k).2.2]) ∧ w = w' := by
  have HF := Lib.hid (getAt_neg (l := l) h)
  have e0 : decide (k < 0) = true := decide_eq_true h
  go_enter Tryd.func52, Tryd.ntmps52
  go_wp2_with fail
  go_ret3
  exact ⟨by rw [HF.out]; rfl, rfl⟩
set_option maxRecDepth 20000 in
theorem ref_Get_out (A : Option Addr) (c : Nat) (l : List UInt8) (k : Int) (w : World) (h0 : ¬ k < 0) (h : (l.length : Int) ≤ k) :
    Calls Tryd.prog 52 #[.slice A l.length c, .int .i64 k] w fun e w' => e = .returned (.tuple #[.int .u64 (getAt l k).1, .int .i64 (getAt l k).2.1, .int .i64 (getAt l k).2.2]) ∧ w = w' := by
  have HF := Lib.hid (getAt_out (l := l) h0 h)
  have e0 : decide (k < 0) = false := decide_eq_false h0
  have e1 : decide ((l.length : Int) ≤ k) = true := decide_eq_true h
  go_enter Tryd.func52, Tryd.ntmps52
  go_wp2_with fail
  go_ret3
  exact ⟨by rw [HF.out]; rfl, rfl⟩
theorem ref_Get (A : Option Addr) (c : Nat) (l : List UInt8) (k : Int) (w : World) (hl : Bs w A l) (hc : l.length ≤ c) (hm : l.length ≤ 9223372036854775000) :
    Calls Tryd.prog 52 #[.slice A l.length c, .int .i64 k] w fun e w' => e = .returned (.tuple #[.int .u64 (getAt l k).1, .int .i64 (getAt l k).2.1, .int .i64 (getAt l k).2.2]) ∧ w = w' := by
  by_cases h0 : k < 0
  · exact ref_Get_neg A c l k w h0
  · by_cases h1 : (l.length : Int) ≤ k
    · exact ref_Get_out A c l k w h0 h1
    · obtain ⟨n, rfl⟩ := Int.eq_ofNat_of_zero_le (Int.not_lt.1 h0)
      exact ref_Get_in A c l n w hl (by omega) hc hm
/-- The same two, where what is told is known. -/
theorem leb_Get_eq (A : Option Addr) (c : Nat) (l : List UInt8) (k : Int) (w : World) (hl : Bs w A l) (hc : l.length ≤ c) (hm : l.length ≤ 9223372036854775000) {n : Nat} {nx e0 : Int} (h : getAt l k = (n, nx, e0)) :
    Calls Tryd.prog 91 #[.slice A l.length c, .int .i64 k] w fun e w' => e = .returned (.tuple #[.int .u64 n, .int .i64 nx, .int .i64 e0]) ∧ w = w' := by
  have := leb_Get A c l k w hl hc hm
  rw [h] at this
  exact this
theorem ref_Get_eq (A : Option Addr) (c : Nat) (l : List UInt8) (k : Int) (w : World) (hl : Bs w A l) (hc : l.length ≤ c) (hm : l.length ≤ 9223372036854775000) {n : Nat} {nx e0 : Int} (h : getAt l k = (n, nx, e0)) :
    Calls Tryd.prog 52 #[.slice A l.length c, .int .i64 k] w fun e w' => e = .returned (.tuple #[.int .u64 n, .int .i64 nx, .int .i64 e0]) ∧ w = w' := by
  have := ref_Get A c l k w hl hc hm
  rw [h] at this
  exact this
end Go.Proofs.YtbnfdglfakaohaaDoor
