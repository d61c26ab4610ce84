/- leb.Put, leb.Len and the reference's are the bytes of a number ('put'), and how many they are. -/
import Derived.Test.YtgpniihkggffeaaProg
import Derived.Test.YtgpniihkggffeaaBase
import Derived.Test.YtgpniihkggffeaaLebPure
import Derived.Test.YtgpniihkggffeaaShelf
set_option linter.unusedVariables false
set_option linter.unusedSimpArgs false
namespace Go.Proofs.Ytgpniihkggffeaa
open Go.RowKit

theorem rowB : RowT Try.prog 22 5 1 1 := RowT.of (z := .int .u8 0) Try.underlying22 (by kernel_rfl) rfl (by omega)

theorem or128_ : ∀ x : Fin 256, bits .or .u8 ((x.val : Nat) : Int) 128 = ((x.val % 128 + 128 : Nat) : Int) := by decide +kernel
theorem or128 (x : Int) (h0 : 0 ≤ x) (h1 : x < 256) : bits .or .u8 x 128 = x % 128 + 128 := by
  have h := or128_ ⟨x.toNat, by omega⟩
  simp only at h
  rw [show ((x.toNat : Nat) : Int) = x by omega] at h
  rw [h]
  omega

theorem xor_ones (x : Int) (h0 : 0 ≤ x) (h1 : x < 18446744073709551616) : bits .xor .u64 x 18446744073709551615 = 18446744073709551615 - x := by
  show IntKind.u64.wrap ((BitVec.ofInt 64 x ^^^ BitVec.ofInt 64 18446744073709551615).toNat : Int) = _
  have e : BitVec.ofInt 64 18446744073709551615 = BitVec.allOnes 64 := by decide +kernel
  rw [e, BitVec.xor_allOnes, BitVec.toNat_not, IntKind.wrap_u64]
  have e2 : (BitVec.ofInt 64 x).toNat = x.toNat := by rw [BitVec.toNat_ofInt]; omega
  rw [e2]; omega
theorem xor_zero (x : Int) (h0 : 0 ≤ x) (h1 : x < 18446744073709551616) : bits .xor .u64 x 0 = x := by
  rw [u64_xor x 0 h0 h1 (by omega) (by omega)]
  simp; omega
theorem xor_i64_neg (x : Int) (h0 : 0 ≤ x) (h1 : x < 9223372036854775808) : bits .xor .i64 x (-1) = -1 - x := by
  show IntKind.i64.wrap ((BitVec.ofInt 64 x ^^^ BitVec.ofInt 64 (-1)).toNat : Int) = _
  have e : BitVec.ofInt 64 (-1) = BitVec.allOnes 64 := by decide +kernel
  rw [e, BitVec.xor_allOnes, BitVec.toNat_not, IntKind.wrap_i64]
  have e2 : (BitVec.ofInt 64 x).toNat = x.toNat := by rw [BitVec.toNat_ofInt]; omega
  rw [e2]; omega
theorem xor_i64_zero (x : Int) (h0 : 0 ≤ x) (h1 : x < 9223372036854775808) : bits .xor .i64 x 0 = x := by
  show IntKind.i64.wrap ((BitVec.ofInt 64 x ^^^ BitVec.ofInt 64 0).toNat : Int) = _
  have e : BitVec.ofInt 64 0 = 0#64 := by decide +kernel
  rw [e, BitVec.xor_zero, IntKind.wrap_i64]
  have e2 : (BitVec.ofInt 64 x).toNat = x.toNat := by rw [BitVec.toNat_ofInt]; omega
  rw [e2]; omega
theorem and_one (u : Nat) (h : u < 18446744073709551616) : bits .and .u64 (u : Int) 1 = ((u % 2 : Nat) : Int) := by
  have := bits_and_u64_nat u 1 h (by omega)
  rw [show ((1 : Nat) : Int) = 1 from rfl] at this
  rw [this, Nat.and_one_is_mod]

theorem zig_bits (n : Int) (h1 : -9223372036854775808 ≤ n) (h2 : n ≤ 9223372036854775807) :
    bits .xor .u64 (IntKind.u64.wrap (IntKind.u64.wrap n * 2)) (IntKind.u64.wrap (n / 9223372036854775808)) = (zig n : Int) := by
  simp only [IntKind.wrap_u64]
  unfold zig
  by_cases h : 0 ≤ n
  · rw [if_pos h, show n / 9223372036854775808 % 18446744073709551616 = 0 by omega, xor_zero _ (by omega) (by omega)]
    omega
  · rw [if_neg h, show n / 9223372036854775808 % 18446744073709551616 = 18446744073709551615 by omega, xor_ones _ (by omega) (by omega)]
    omega
theorem zag_bits (u : Nat) (h : u < 18446744073709551616) :
    bits .xor .i64 ((u : Int) / 2) (wrap64 (-wrap64 (bits .and .u64 (u : Int) 1))) = zag u := by
  rw [and_one u h]
  unfold zag
  by_cases e : u % 2 = 0
  · rw [if_pos e, e, show wrap64 (-wrap64 ((0 : Nat) : Int)) = 0 by simp [wrap64], xor_i64_zero _ (by omega) (by omega)]
    omega
  · rw [if_neg e, show u % 2 = 1 by omega, show wrap64 (-wrap64 ((1 : Nat) : Int)) = -1 by simp [wrap64], xor_i64_neg _ (by omega) (by omega)]
    omega

theorem bitLen_put : ∀ (n : Nat), n < 2 ^ 64 → (put n).length = max 1 ((Lib.bitLen n + 6) / 7) := by
  intro n
  induction n using Nat.strongRecOn with
  | _ n ih =>
    intro hn
    by_cases h : n < 128
    · rw [put_lt h]
      have := Lib.bitLen_le n 7 (by omega) (by omega)
      simp; omega
    · rw [put_ge h, Lib.bitLen_shift 7 n (by omega) hn]
      have := ih (n / 128) (by omega) (by omega)
      have h1 : 1 ≤ Lib.bitLen (n / 128) := by
        rw [Lib.bitLen_half (n / 128) (by omega) (by omega)]; omega
      have e : n / 2 ^ 7 = n / 128 := rfl
      rw [e, List.length_cons, this]
      omega

set_option maxRecDepth 20000 in
theorem leb_Len (n : Nat) (hn : n < 18446744073709551616) (w : World) :
    Calls Try.prog 15 #[.int .u64 n] w fun e w' => e = .returned (.int .i64 (put n).length) ∧ w = w' := by
  have hp := bitLen_put n hn
  have h64 := Lib.bitLen_le n 64 (by omega) hn
  have hfin : max 1 (wrap64 ((wrap64 ((Lib.bitLen n : Int) + 6)).tdiv 7)) = ((put n).length : Int) := by
    rw [hp]
    unfold wrap64
    rw [Int.tdiv_eq_ediv_of_nonneg (by omega)]
    omega
  have Hfin := Lib.hid hfin
  clear hfin hp
  go_enter Try.func15, Try.ntmps15
  go_wp2_with fail
  refine (Try.bits_Len64 _ _ (by omega) (by omega)).mono ?_
  rintro e w' ⟨rfl, rfl⟩
  clear h64
  go_wp2_with fail
  go_ret
  refine ⟨?_, rfl⟩
  rw [← Hfin.out]
  rfl

set_option maxRecDepth 20000 in
theorem leb_Put (n : Nat) (hn : n < 18446744073709551616) (w : World) :
    Calls Try.prog 16 #[.int .u64 n] w fun e w' => ∃ A c, e = .returned (.slice A (put n).length c) ∧
      w'.ownsRow w.heap.size 5 1 (.slice A (put n).length c) (put n).length (cellsB (put n)) ∧ Kept w w' := by
  obtain ⟨i0, hi0, hz0, hz1, hz2⟩ := info_parts (show (Try.prog.info? 5).map (fun i => (i.zero, i.size, i.bytes)) = some (some (.int .u8 0), 1, 1) by kernel_rfl)
  have hten := put_ten hn
  go_enter Try.func16, Try.ntmps16
  go_wp2_with fail
  refine (leb_Len n hn _).mono ?_
  rintro e w' ⟨rfl, rfl⟩
  go_wp2_with (at_make; refine wpList_make_own _ rfl _ _ 22 rfl w.heap.size 5 i0 (.int .u8 0) 1 Try.underlying22 hi0 hz0 hz1 .i64 .i64 _ (put n).length rfl rfl rfl (by rw [hz2]; omega) (by unfold maxLen; omega) (Nat.le_refl _) ?_; intro w1 hown1 hg1)
  have hk1 : Kept w w1 := (Kept.refl _).grown hg1 (by simp)
  clear hz0 hi0 hz1 hz2
  go_loopg [0, 3] n (fun k u v wr => ∃ (m : Nat) (xs : List UInt8) (A : Option Addr) (c : Nat), u = .int .u64 m ∧ m ≤ k ∧ k ≤ n ∧ v = .slice A xs.length c ∧ Hid (put n = xs ++ put m) ∧ wr.ownsRow w.heap.size 5 1 (.slice A xs.length c) xs.length (cellsB xs) ∧ Kept w wr)
  case atStart => exact ⟨n, [], _, _, rfl, Nat.le_refl _, Nat.le_refl _, rfl, Lib.hid (by simp), hown1, hk1⟩
  case round =>
    obtain ⟨m, xs, A, c, rfl, hmk, hmn, rfl, HP, hown, hk⟩ := hrel
    have hx : xs.length ≤ 10 := by have := congrArg List.length HP.out; simp at this; omega
    by_cases h : m < 128
    · have HE := Lib.hid (show put n = xs ++ [UInt8.ofNat m] from HP.out.trans (by rw [put_lt h]))
      go_wp2_with (at_builtin; refine wpList_app rfl _ _ _ rfl rowB w.heap.size (cellsB xs) rfl (own_kept hown (Kept.alloc (Kept.refl _) _)) [_] rfl (Src.new1 wr _ _ rfl) (by unfold maxLen; omega) (by omega) (Kept.alloc hk _).size ?_; intro A1 c1 w2 hown2 hg2 hat2)
      have hk2 : Kept w w2 := (Kept.alloc hk _).grown hg2 (own_base hown)
      go_ret
      have e1 : (put n).length = xs.length + 1 := by rw [HE.out]; simp
      have e2 : cellsB (put n) = cellsB xs ++ [.int .u8 (m : Int)] := by
        rw [HE.out, cellsB_append]
        simp [cellsB]; omega
      exact ⟨A1, c1, by rw [e1]; rfl, by rw [e1, e2]; exact hown2, hk2⟩
    · have HE := Lib.hid (show put n = (xs ++ [UInt8.ofNat (m % 128 + 128)]) ++ put (m / 128) from HP.out.trans (by rw [put_ge h]; simp))
      go_wp2_with (at_builtin; refine wpList_app rfl _ _ _ rfl rowB w.heap.size (cellsB xs) rfl (own_kept hown (Kept.alloc (Kept.refl _) _)) [_] rfl (Src.new1 wr _ _ rfl) (by unfold maxLen; omega) (by omega) (Kept.alloc hk _).size ?_; intro A1 c1 w2 hown2 hg2 hat2)
      have hk2 : Kept w w2 := (Kept.alloc hk _).grown hg2 (own_base hown)
      go_roundg (m / 128)
      case measure => omega
      case rel =>
        have e2 : cellsB (xs ++ [UInt8.ofNat (m % 128 + 128)]) = cellsB xs ++ [.int .u8 (bits .or .u8 ((m : Int) % 256) 128)] := by
          rw [cellsB_append, or128 ((m : Int) % 256) (by omega) (by omega)]
          simp [cellsB]; omega
        exact ⟨m / 128, xs ++ [UInt8.ofNat (m % 128 + 128)], A1, c1, by go_num, Nat.le_refl _, by omega, by simp, HE, by rw [e2]; simpa using hown2, hk2⟩

set_option maxRecDepth 20000 in
theorem ref_Put (n : Nat) (hn : n < 18446744073709551616) (w : World) :
    Calls Try.prog 17 #[.int .u64 n] w fun e w' => ∃ A c, e = .returned (.slice A (put n).length c) ∧
      w'.ownsRow w.heap.size 5 1 (.slice A (put n).length c) (put n).length (cellsB (put n)) ∧ Kept w w' := by
  have hten := put_ten hn
  go_enter Try.func17, Try.ntmps17
  go_wp2_with fail
  go_loopg [0, 3] n (fun k u v wr => ∃ (m : Nat) (xs : List UInt8) (A : Option Addr) (c : Nat), u = .int .u64 m ∧ m ≤ k ∧ k ≤ n ∧ v = .slice A xs.length c ∧ Hid (put n = xs ++ put m) ∧ wr.ownsRow w.heap.size 5 1 (.slice A xs.length c) xs.length (cellsB xs) ∧ Kept w wr)
  case atStart => exact ⟨n, [], none, 0, rfl, Nat.le_refl _, Nat.le_refl _, rfl, Lib.hid (by simp), own_nil _ _ _ _, Kept.refl _⟩
  case round =>
    obtain ⟨m, xs, A, c, rfl, hmk, hmn, rfl, HP, hown, hk⟩ := hrel
    have hx : xs.length ≤ 10 := by have := congrArg List.length HP.out; simp at this; omega
    by_cases h : m < 128
    · have HE := Lib.hid (show put n = xs ++ [UInt8.ofNat m] from HP.out.trans (by rw [put_lt h]))
      go_wp2_with (at_builtin; refine wpList_app rfl _ _ _ rfl rowB w.heap.size (cellsB xs) rfl (own_kept hown (Kept.alloc (Kept.refl _) _)) [_] rfl (Src.new1 wr _ _ rfl) (by unfold maxLen; omega) (by omega) (Kept.alloc hk _).size ?_; intro A1 c1 w2 hown2 hg2 hat2)
      have hk2 : Kept w w2 := (Kept.alloc hk _).grown hg2 (own_base hown)
      go_ret
      have e1 : (put n).length = xs.length + 1 := by rw [HE.out]; simp
      have e2 : cellsB (put n) = cellsB xs ++ [.int .u8 (m : Int)] := by
        rw [HE.out, cellsB_append]
        simp [cellsB]; omega
      exact ⟨A1, c1, by rw [e1]; rfl, by rw [e1, e2]; exact hown2, hk2⟩
    · have HE := Lib.hid (show put n = (xs ++ [UInt8.ofNat (m % 128 + 128)]) ++ put (m / 128) from HP.out.trans (by rw [put_ge h]; simp))
      go_wp2_with (at_builtin; refine wpList_app rfl _ _ _ rfl rowB w.heap.size (cellsB xs) rfl (own_kept hown (Kept.alloc (Kept.refl _) _)) [_] rfl (Src.new1 wr _ _ rfl) (by unfold maxLen; omega) (by omega) (Kept.alloc hk _).size ?_; intro A1 c1 w2 hown2 hg2 hat2)
      have hk2 : Kept w w2 := (Kept.alloc hk _).grown hg2 (own_base hown)
      go_roundg (m / 128)
      case measure => omega
      case rel =>
        have e2 : cellsB (xs ++ [UInt8.ofNat (m % 128 + 128)]) = cellsB xs ++ [.int .u8 ((m : Int) % 128 + 128)] := by
          rw [cellsB_append]
          simp [cellsB]; omega
        exact ⟨m / 128, xs ++ [UInt8.ofNat (m % 128 + 128)], A1, c1, by go_num, Nat.le_refl _, by omega, by simp, HE, by rw [e2]; simpa using hown2, hk2⟩
set_option maxRecDepth 20000 in
theorem ref_Len (n : Nat) (hn : n < 18446744073709551616) (w : World) :
    Calls Try.prog 18 #[.int .u64 n] w fun e w' => e = .returned (.int .i64 (put n).length) ∧ w = w' := by
  have hten := put_ten hn
  go_enter Try.func18, Try.ntmps18
  go_wp2_with fail
  go_loop [0, 3] (fun u v => ∃ m k : Nat, u = .int .u64 m ∧ m ≤ n ∧ v = .int .i64 k ∧ k ≤ 10 ∧ Hid ((put n).length + 1 = k + (put m).length)) (fun u _ => (intOf u).toNat)
  case atStart => exact ⟨n, 1, rfl, Nat.le_refl _, rfl, by omega, Lib.hid (by omega)⟩
  case round =>
    obtain ⟨m, k, rfl, hmn, rfl, hk, HP⟩ := hrel
    have hp := put_pos m
    by_cases h : m < 128
    · have HE := Lib.hid (show (put n).length = k by have h1 := HP.out; rw [put_lt h] at h1; simpa using h1)
      go_wp2_with fail
      go_ret
      exact ⟨by rw [HE.out]; rfl, rfl⟩
    · have HE := Lib.hid (show (put n).length + 1 = (k + 1) + (put (m / 128)).length by have h1 := HP.out; rw [put_ge h] at h1; simp at h1; omega)
      have hp2 := put_pos (m / 128)
      have hk2 : k + 1 ≤ 10 := by have := HE.out; omega
      go_wp2_with fail
      go_round
      case rel => exact ⟨m / 128, k + 1, by go_num, by omega, by go_num, hk2, HE⟩
      case measure => simp [intOf]; omega

set_option maxRecDepth 20000 in
theorem leb_Zig (n : Int) (h1 : -9223372036854775808 ≤ n) (h2 : n ≤ 9223372036854775807) (w : World) :
    Calls Try.prog 14 #[.int .i64 n] w fun e w' => e = .returned (.int .u64 (zig n)) ∧ w = w' := by
  have H := Lib.hid (zig_bits n h1 h2)
  go_enter Try.func14, Try.ntmps14
  go_wp2_with fail
  go_ret
  exact ⟨by rw [← H.out]; rfl, rfl⟩
set_option maxRecDepth 20000 in
theorem ref_Zig (n : Int) (h1 : -9223372036854775808 ≤ n) (h2 : n ≤ 9223372036854775807) (w : World) :
    Calls Try.prog 19 #[.int .i64 n] w fun e w' => e = .returned (.int .u64 (zig n)) ∧ w = w' := by
  have H : Hid ((zig n : Int) = if 0 ≤ n then 2 * n else 2 * -(n + 1) + 1) := by unfold Hid zig; split <;> omega
  by_cases h : 0 ≤ n
  · go_enter Try.func19, Try.ntmps19
    go_wp2_with fail
    go_ret
    exact ⟨by rw [H.out, if_pos h]; rfl, rfl⟩
  · go_enter Try.func19, Try.ntmps19
    go_wp2_with fail
    go_ret
    exact ⟨by rw [H.out, if_neg (Int.not_le.2 h)]; rfl, rfl⟩
set_option maxRecDepth 20000 in
theorem leb_Zag (u : Nat) (h2 : u < 18446744073709551616) (w : World) :
    Calls Try.prog 13 #[.int .u64 u] w fun e w' => e = .returned (.int .i64 (zag u)) ∧ w = w' := by
  have H := Lib.hid (zag_bits u h2)
  go_enter Try.func13, Try.ntmps13
  go_wp2_with fail
  go_ret
  exact ⟨by rw [← H.out]; rfl, rfl⟩
set_option maxRecDepth 20000 in
theorem ref_Zag (u : Nat) (h2 : u < 18446744073709551616) (w : World) :
    Calls Try.prog 20 #[.int .u64 u] w fun e w' => e = .returned (.int .i64 (zag u)) ∧ w = w' := by
  have H : Hid (zag u = if u % 2 = 0 then (u : Int) / 2 else -((u : Int) / 2) - 1) := by unfold Hid zag; split <;> omega
  by_cases h : u % 2 = 0
  · have hb : ((u : Int) % 2 == 0) = true := beq_iff_eq.2 (by omega)
    go_enter Try.func20, Try.ntmps20
    go_wp2_with fail
    go_ret
    exact ⟨by rw [H.out, if_pos h]; rfl, rfl⟩
  · have hb : ((u : Int) % 2 == 0) = false := beq_eq_false_iff_ne.2 (by omega)
    have H2 := Lib.hid h
    clear h
    go_enter Try.func20, Try.ntmps20
    go_wp2_with fail
    go_ret
    exact ⟨by rw [H.out, if_neg H2.out]; rfl, rfl⟩
end Go.Proofs.Ytgpniihkggffeaa
