/- The walks of the laws of layer 3: each answers true. -/
import Derived.Test.YtgpniihkggffeaaLebRef
import Derived.Test.YtgpniihkggffeaaSame
import Derived.Test.YtgpniihkggffeaaBase2
set_option linter.unusedVariables false
set_option linter.unusedSimpArgs false
namespace Go.Proofs.Ytgpniihkggffeaa
open Go.RowKit

set_option maxRecDepth 20000 in
theorem live_calls (w : World) : Calls Try.prog 11 #[] w fun e w' => e = .returned (.bool true) ∧ Kept w w' := by
  go_enter Try.func11, Try.ntmps11
  go_wp2_with fail
  refine (leb_Get_eq _ _ [172, 2, 7] _ _ (by exact Bs.new' _ _ _ _ _ _ rfl (by simp)) (by simp) (by simp) (n := 300) (nx := 2) (e0 := 0) (by decide)).mono ?_
  rintro e w1 ⟨rfl, rfl⟩
  go_wp2_with fail
  refine (leb_Get_eq _ _ [128, 0] _ _ (by exact Bs.new' _ _ _ _ _ _ rfl (by simp)) (by simp) (by simp) (n := 0) (nx := 0) (e0 := 5) (by decide)).mono ?_
  rintro e w1 ⟨rfl, rfl⟩
  go_wp2_with fail
  refine (leb_Len 300 (by omega) _).mono ?_
  rintro e w1 ⟨rfl, rfl⟩
  have hp : (put 300).length = 2 := by simp [put]
  rw [hp]
  clear hp
  go_wp2_with fail
  refine (leb_Zig (-1) (by omega) (by omega) _).mono ?_
  rintro e w1 ⟨rfl, rfl⟩
  rw [show zig (-1) = 1 by decide]
  go_wp2_with fail
  refine (leb_Zag 1 (by omega) _).mono ?_
  rintro e w1 ⟨rfl, rfl⟩
  rw [show zag 1 = -1 by decide]
  go_wp2_with fail
  go_ret
  exact ⟨rfl, ((Kept.refl w).alloc _).alloc _⟩

set_option maxRecDepth 20000 in
theorem LebGets_walk (A : Option Addr) (c : Nat) (l : List UInt8) (k : Int) (w : World) (hl : Bs w A l) (hc : l.length ≤ c) (hm : c ≤ 140737488351232) :
    Calls Try.prog 3 #[.slice A l.length c, .int .i64 k] w fun e w' => e = .returned (.bool true) ∧ Kept w w' := by
  obtain ⟨n, nx, e0, hg⟩ : ∃ n nx e0, getAt l k = (n, nx, e0) := ⟨_, _, _, rfl⟩
  have HG := Lib.hid hg
  clear hg
  go_enter Try.func3, Try.ntmps3
  have k0 := (Kept.refl w).alloc (.cells #[] 5)
  go_wp2_with (at_builtin; refine wpList_app0 rfl _ _ _ rfl rowB w.heap.size rfl (own_new w _ 1 0 _ rfl (by unfold maxLen; omega)) (cellsB l) rfl (Src.bytes (hl.kept k0)) (by unfold maxLen; omega) (by omega) k0.size ?_; intro A1 c1 w1 hown1 hg1 hat1)
  have k1 : Kept w w1 := k0.app (own_new w _ 1 0 _ rfl (by unfold maxLen; omega)) (Nat.le_refl _) hg1
  have hl1 : Bs w1 A l := hl.kept k1
  have hl2 : Bs w1 A1 l := Bs.own hown1
  refine (leb_Get_eq _ _ l _ _ hl1 hc (by omega) HG.out).mono ?_
  rintro e w2 ⟨rfl, rfl⟩
  go_wp2_with fail
  refine (ref_Get_eq _ _ l _ _ hl2 (own_cap hown1) (by omega) HG.out).mono ?_
  rintro e w2 ⟨rfl, rfl⟩
  go_wp2_with fail
  refine (live_calls _).mono ?_
  rintro e w2 ⟨rfl, k2⟩
  go_wp2_with fail
  refine (same_calls A A1 c c1 l l _ (hl1.kept k2) (hl2.kept k2) (by omega)).mono ?_
  rintro e w3 ⟨rfl, nq, rfl⟩
  rw [decide_eq_true rfl]
  go_wp2_with fail
  go_ret
  exact ⟨rfl, (k1.trans k2).drewN _⟩

set_option maxRecDepth 20000 in
theorem LebNumbers_walk (w : World) :
    Calls Try.prog 5 #[] w fun e w' => e = .returned (.bool true) ∧ Kept w w' := by
  go_enter Try.func5, Try.ntmps5
  go_wp2_with fail
  refine (leb_Get_eq none 0 [] 0 _ (Bs.nil _ _) (by simp) (by simp) (n := 0) (nx := 0) (e0 := 30) (by decide)).mono ?_
  rintro e w1 ⟨rfl, rfl⟩
  go_wp2_with fail
  refine (leb_Put 18446744073709551615 (by omega) _).mono ?_
  rintro e w1 ⟨A, c, rfl, hown, k1⟩
  have hp : (put 18446744073709551615).length = 10 := by simp [put]
  rw [hp] at hown ⊢
  clear hp
  go_wp2_with fail
  refine (leb_Zig (-9223372036854775808) (by omega) (by omega) _).mono ?_
  rintro e w2 ⟨rfl, rfl⟩
  rw [show ((zig (-9223372036854775808) : Nat) : Int) = 18446744073709551615 by decide]
  go_wp2_with fail
  go_ret
  exact ⟨rfl, k1⟩

theorem near_law (n m : Int) (h1 : -9223372036854775808 ≤ n) (h2 : n ≤ 9223372036854775807) (h3 : -9223372036854775808 ≤ m) (h4 : m ≤ 9223372036854775807)
    (h : ¬ (if m < 0 then -(m + 1) else m) < (if n < 0 then -(n + 1) else n)) : (put (zig n)).length ≤ (put (zig m)).length := by
  by_cases hz : zig n ≤ zig m
  · exact put_mono _ _ hz
  · -- only n = -(m + 1), m from 0 on
    have hd : zig n / 128 = zig m / 128 ∧ (zig m < 128 ↔ zig n < 128) := by
      unfold zig at hz ⊢
      by_cases hn : 0 ≤ n <;> by_cases hm : 0 ≤ m <;> simp only [hn, hm, if_true, if_false] at hz ⊢ <;> split at h <;> split at h <;> omega
    by_cases hl : zig n < 128
    · rw [put_lt hl, put_lt (hd.2.2 hl)]; simp
    · rw [put_ge hl, put_ge (fun h5 => hl (hd.2.1 h5)), hd.1]; simp
theorem one_law (n : Int) (h1 : -9223372036854775808 ≤ n) (h2 : n ≤ 9223372036854775807) (h : ¬ 63 < (if n < 0 then -(n + 1) else n)) : (put (zig n)).length = 1 := by
  have : zig n < 128 := by unfold zig; split at h <;> split <;> omega
  rw [put_lt this]; rfl

set_option maxRecDepth 20000 in
set_option maxHeartbeats 2000000 in
theorem LebSigns_11 (n m a b : Int) (u : Nat) (w : World) (h1 : -9223372036854775808 ≤ n) (h2 : n ≤ 9223372036854775807) (h3 : -9223372036854775808 ≤ m) (h4 : m ≤ 9223372036854775807) (h5 : u < 18446744073709551616)
    (ha : (if n < 0 then -(n + 1) else n) = a) (hb : (if m < 0 then -(m + 1) else m) = b) (hab : b < a) (h63 : 63 < a) :
    Calls Try.prog 4 #[.int .i64 n, .int .i64 m, .int .u64 u] w fun e w' => e = .returned (.bool true) ∧ Kept w w' := by
  have hz1 := zig_lt h1 (by omega : n < 9223372036854775808)
  have hz2 := zig_lt h3 (by omega : m < 9223372036854775808)
  have hr := zag_range h5
  by_cases hn : n < 0 <;> by_cases hm : m < 0 <;> simp only [hn, hm, if_true, if_false] at ha hb
  all_goals
    first | (have hx : ¬ n < 0 := hn; subst ha) | skip
    first | (have hx : ¬ m < 0 := hm; subst hb) | skip
    go_enter Try.func4, Try.ntmps4
    go_wp2_with fail
    refine (leb_Zig n h1 h2 _).mono ?_
    rintro e w1 ⟨rfl, rfl⟩
    go_wp2_with fail
    refine (leb_Zag (zig n) hz1 _).mono ?_
    rintro e w1 ⟨rfl, rfl⟩
    rw [zag_zig]
    go_wp2_with fail
    refine (leb_Zag u h5 _).mono ?_
    rintro e w1 ⟨rfl, rfl⟩
    go_wp2_with fail
    refine (leb_Zig (zag u) hr.1 (by omega) _).mono ?_
    rintro e w1 ⟨rfl, rfl⟩
    rw [zig_zag]
    go_wp2_with fail
    refine (live_calls _).mono ?_
    rintro e w1 ⟨rfl, k1⟩
    go_wp2_with fail
    go_ret
    exact ⟨rfl, k1⟩

set_option maxRecDepth 20000 in
set_option maxHeartbeats 2000000 in
theorem LebSigns_10 (n m a b : Int) (u : Nat) (w : World) (h1 : -9223372036854775808 ≤ n) (h2 : n ≤ 9223372036854775807) (h3 : -9223372036854775808 ≤ m) (h4 : m ≤ 9223372036854775807) (h5 : u < 18446744073709551616)
    (ha : (if n < 0 then -(n + 1) else n) = a) (hb : (if m < 0 then -(m + 1) else m) = b) (hab : b < a) (h63 : ¬ 63 < a) (hd1 : ((((put (zig n)).length : Nat) : Int) == 1) = true) :
    Calls Try.prog 4 #[.int .i64 n, .int .i64 m, .int .u64 u] w fun e w' => e = .returned (.bool true) ∧ Kept w w' := by
  have hz1 := zig_lt h1 (by omega : n < 9223372036854775808)
  have hz2 := zig_lt h3 (by omega : m < 9223372036854775808)
  have hr := zag_range h5
  by_cases hn : n < 0 <;> by_cases hm : m < 0 <;> simp only [hn, hm, if_true, if_false] at ha hb
  all_goals
    first | (have hx : ¬ n < 0 := hn; subst ha) | skip
    first | (have hx : ¬ m < 0 := hm; subst hb) | skip
    go_enter Try.func4, Try.ntmps4
    go_wp2_with fail
    refine (leb_Zig n h1 h2 _).mono ?_
    rintro e w1 ⟨rfl, rfl⟩
    go_wp2_with fail
    refine (leb_Zag (zig n) hz1 _).mono ?_
    rintro e w1 ⟨rfl, rfl⟩
    rw [zag_zig]
    go_wp2_with fail
    refine (leb_Zag u h5 _).mono ?_
    rintro e w1 ⟨rfl, rfl⟩
    go_wp2_with fail
    refine (leb_Zig (zag u) hr.1 (by omega) _).mono ?_
    rintro e w1 ⟨rfl, rfl⟩
    rw [zig_zag]
    go_wp2_with fail
    refine (leb_Zig n h1 h2 _).mono ?_
    rintro e w1 ⟨rfl, rfl⟩
    go_wp2_with fail
    refine (leb_Len (zig n) hz1 _).mono ?_
    rintro e w1 ⟨rfl, rfl⟩
    go_wp2_with fail
    refine (live_calls _).mono ?_
    rintro e w1 ⟨rfl, k1⟩
    go_wp2_with fail
    go_ret
    exact ⟨rfl, k1⟩

set_option maxRecDepth 20000 in
set_option maxHeartbeats 2000000 in
theorem LebSigns_01 (n m a b : Int) (u : Nat) (w : World) (h1 : -9223372036854775808 ≤ n) (h2 : n ≤ 9223372036854775807) (h3 : -9223372036854775808 ≤ m) (h4 : m ≤ 9223372036854775807) (h5 : u < 18446744073709551616)
    (ha : (if n < 0 then -(n + 1) else n) = a) (hb : (if m < 0 then -(m + 1) else m) = b) (hab : ¬ b < a) (hd : decide ((put (zig n)).length ≤ (put (zig m)).length) = true) (h63 : 63 < a) :
    Calls Try.prog 4 #[.int .i64 n, .int .i64 m, .int .u64 u] w fun e w' => e = .returned (.bool true) ∧ Kept w w' := by
  have hz1 := zig_lt h1 (by omega : n < 9223372036854775808)
  have hz2 := zig_lt h3 (by omega : m < 9223372036854775808)
  have hr := zag_range h5
  by_cases hn : n < 0 <;> by_cases hm : m < 0 <;> simp only [hn, hm, if_true, if_false] at ha hb
  all_goals
    first | (have hx : ¬ n < 0 := hn; subst ha) | skip
    first | (have hx : ¬ m < 0 := hm; subst hb) | skip
    go_enter Try.func4, Try.ntmps4
    go_wp2_with fail
    refine (leb_Zig n h1 h2 _).mono ?_
    rintro e w1 ⟨rfl, rfl⟩
    go_wp2_with fail
    refine (leb_Zag (zig n) hz1 _).mono ?_
    rintro e w1 ⟨rfl, rfl⟩
    rw [zag_zig]
    go_wp2_with fail
    refine (leb_Zag u h5 _).mono ?_
    rintro e w1 ⟨rfl, rfl⟩
    go_wp2_with fail
    refine (leb_Zig (zag u) hr.1 (by omega) _).mono ?_
    rintro e w1 ⟨rfl, rfl⟩
    rw [zig_zag]
    go_wp2_with fail
    refine (leb_Zig n h1 h2 _).mono ?_
    rintro e w1 ⟨rfl, rfl⟩
    go_wp2_with fail
    refine (leb_Len (zig n) hz1 _).mono ?_
    rintro e w1 ⟨rfl, rfl⟩
    go_wp2_with fail
    refine (leb_Zig m h3 h4 _).mono ?_
    rintro e w1 ⟨rfl, rfl⟩
    go_wp2_with fail
    refine (leb_Len (zig m) hz2 _).mono ?_
    rintro e w1 ⟨rfl, rfl⟩
    go_wp2_with fail
    refine (live_calls _).mono ?_
    rintro e w1 ⟨rfl, k1⟩
    go_wp2_with fail
    go_ret
    exact ⟨rfl, k1⟩

set_option maxRecDepth 20000 in
set_option maxHeartbeats 2000000 in
theorem LebSigns_00 (n m a b : Int) (u : Nat) (w : World) (h1 : -9223372036854775808 ≤ n) (h2 : n ≤ 9223372036854775807) (h3 : -9223372036854775808 ≤ m) (h4 : m ≤ 9223372036854775807) (h5 : u < 18446744073709551616)
    (ha : (if n < 0 then -(n + 1) else n) = a) (hb : (if m < 0 then -(m + 1) else m) = b) (hab : ¬ b < a) (hd : decide ((put (zig n)).length ≤ (put (zig m)).length) = true) (h63 : ¬ 63 < a) (hd1 : ((((put (zig n)).length : Nat) : Int) == 1) = true) :
    Calls Try.prog 4 #[.int .i64 n, .int .i64 m, .int .u64 u] w fun e w' => e = .returned (.bool true) ∧ Kept w w' := by
  have hz1 := zig_lt h1 (by omega : n < 9223372036854775808)
  have hz2 := zig_lt h3 (by omega : m < 9223372036854775808)
  have hr := zag_range h5
  by_cases hn : n < 0 <;> by_cases hm : m < 0 <;> simp only [hn, hm, if_true, if_false] at ha hb
  all_goals
    first | (have hx : ¬ n < 0 := hn; subst ha) | skip
    first | (have hx : ¬ m < 0 := hm; subst hb) | skip
    go_enter Try.func4, Try.ntmps4
    go_wp2_with fail
    refine (leb_Zig n h1 h2 _).mono ?_
    rintro e w1 ⟨rfl, rfl⟩
    go_wp2_with fail
    refine (leb_Zag (zig n) hz1 _).mono ?_
    rintro e w1 ⟨rfl, rfl⟩
    rw [zag_zig]
    go_wp2_with fail
    refine (leb_Zag u h5 _).mono ?_
    rintro e w1 ⟨rfl, rfl⟩
    go_wp2_with fail
    refine (leb_Zig (zag u) hr.1 (by omega) _).mono ?_
    rintro e w1 ⟨rfl, rfl⟩
    rw [zig_zag]
    go_wp2_with fail
    refine (leb_Zig n h1 h2 _).mono ?_
    rintro e w1 ⟨rfl, rfl⟩
    go_wp2_with fail
    refine (leb_Len (zig n) hz1 _).mono ?_
    rintro e w1 ⟨rfl, rfl⟩
    go_wp2_with fail
    refine (leb_Zig m h3 h4 _).mono ?_
    rintro e w1 ⟨rfl, rfl⟩
    go_wp2_with fail
    refine (leb_Len (zig m) hz2 _).mono ?_
    rintro e w1 ⟨rfl, rfl⟩
    go_wp2_with fail
    refine (leb_Zig n h1 h2 _).mono ?_
    rintro e w1 ⟨rfl, rfl⟩
    go_wp2_with fail
    refine (leb_Len (zig n) hz1 _).mono ?_
    rintro e w1 ⟨rfl, rfl⟩
    go_wp2_with fail
    refine (live_calls _).mono ?_
    rintro e w1 ⟨rfl, k1⟩
    go_wp2_with fail
    go_ret
    exact ⟨rfl, k1⟩

theorem LebSigns_walk (n m : Int) (u : Nat) (w : World) (h1 : -9223372036854775808 ≤ n) (h2 : n ≤ 9223372036854775807) (h3 : -9223372036854775808 ≤ m) (h4 : m ≤ 9223372036854775807) (h5 : u < 18446744073709551616) :
    Calls Try.prog 4 #[.int .i64 n, .int .i64 m, .int .u64 u] w fun e w' => e = .returned (.bool true) ∧ Kept w w' := by
  have HN := near_law n m h1 h2 h3 h4
  have HO := one_law n h1 h2
  by_cases hab : (if m < 0 then -(m + 1) else m) < (if n < 0 then -(n + 1) else n) <;> by_cases h63 : 63 < (if n < 0 then -(n + 1) else n)
  · exact LebSigns_11 n m _ _ u w h1 h2 h3 h4 h5 rfl rfl hab h63
  · exact LebSigns_10 n m _ _ u w h1 h2 h3 h4 h5 rfl rfl hab h63 (beq_iff_eq.2 (by have := HO h63; omega))
  · exact LebSigns_01 n m _ _ u w h1 h2 h3 h4 h5 rfl rfl hab (decide_eq_true (HN hab)) h63
  · exact LebSigns_00 n m _ _ u w h1 h2 h3 h4 h5 rfl rfl hab (decide_eq_true (HN hab)) h63 (beq_iff_eq.2 (by have := HO h63; omega))

set_option maxRecDepth 20000 in
theorem LebPuts_walk (n : Nat) (s : Int) (w : World) (hn : n < 18446744073709551616) (h1 : -9223372036854775808 ≤ s) (h2 : s ≤ 9223372036854775807) :
    Calls Try.prog 6 #[.int .u64 n, .int .i64 s] w fun e w' => e = .returned (.bool true) ∧ Kept w w' := by
  have hten := put_ten hn
  go_enter Try.func6, Try.ntmps6
  go_wp2_with fail
  refine (leb_Put n hn _).mono ?_
  rintro e w1 ⟨A, c, rfl, hown1, k1⟩
  go_wp2_with fail
  refine (ref_Put n hn _).mono ?_
  rintro e w2 ⟨B, d, rfl, hown2, k2⟩
  go_wp2_with fail
  refine (live_calls _).mono ?_
  rintro e w3 ⟨rfl, k3⟩
  go_wp2_with fail
  refine (same_calls A B c d (put n) (put n) _ (Bs.own (own_kept hown1 (k2.trans k3))) (Bs.own (own_kept hown2 k3)) (by omega)).mono ?_
  rintro e w4 ⟨rfl, nq, rfl⟩
  rw [decide_eq_true rfl]
  go_wp2_with fail
  refine (leb_Len n hn _).mono ?_
  rintro e w4 ⟨rfl, rfl⟩
  go_wp2_with fail
  refine (ref_Len n hn _).mono ?_
  rintro e w4 ⟨rfl, rfl⟩
  go_wp2_with fail
  refine (leb_Zig s h1 h2 _).mono ?_
  rintro e w4 ⟨rfl, rfl⟩
  go_wp2_with fail
  refine (ref_Zig s h1 h2 _).mono ?_
  rintro e w4 ⟨rfl, rfl⟩
  go_wp2_with fail
  refine (leb_Zag n hn _).mono ?_
  rintro e w4 ⟨rfl, rfl⟩
  go_wp2_with fail
  refine (ref_Zag n hn _).mono ?_
  rintro e w4 ⟨rfl, rfl⟩
  go_wp2_with fail
  go_ret
  exact ⟨rfl, ((k1.trans k2).trans k3).drewN _⟩

set_option maxRecDepth 20000 in
theorem LebUnlike_walk (n m : Nat) (w : World) (hn : n < 18446744073709551616) (hm : m < 18446744073709551616) :
    Calls Try.prog 8 #[.int .u64 n, .int .u64 m] w fun e w' => e = .returned (.bool true) ∧ Kept w w' := by
  have hn10 := put_ten hn
  have hm10 := put_ten hm
  have hnp := put_pos n
  have hmp := put_pos m
  go_enter Try.func8, Try.ntmps8
  go_wp2_with fail
  refine (leb_Put n hn _).mono ?_
  rintro e w1 ⟨A, c, rfl, hown1, k1⟩
  go_wp2_with fail
  refine (leb_Put m hm _).mono ?_
  rintro e w2 ⟨B, d, rfl, hown2, k2⟩
  have hc := own_cap hown1
  have hd := own_cap hown2
  obtain ⟨g, cap, hv, hbg, hglt⟩ := hown1.form hnp
  injection hv with hA hlx hcx
  subst hA hcx
  clear hlx
  clear hbg hglt
  have hkm : ∃ k, k = min (put n).length (put m).length := ⟨_, rfl⟩
  obtain ⟨k, hkm⟩ := hkm
  have hb1 : Bs w2 (some ⟨g, 0, none⟩) ((put n).take k) := (Bs.own (own_kept hown1 k2)).pre _
  have hb2 : Bs w2 B ((put m).take k) := (Bs.own hown2).pre _
  have hq1 : k ≤ (put n).length := by omega
  have hq2 : k ≤ (put m).length := by omega
  have hk0 : 0 < k := by omega
  obtain ⟨bb, hbb⟩ : ∃ bb, bb = decide (n = m) := ⟨_, rfl⟩
  have hnm : ((n : Int) == (m : Int)) = bb := by
    rw [hbb, Bool.eq_iff_iff]; simp; omega
  have hbeg : Hid (decide ((put n).take k = (put m).take k) = bb) := by
    show decide _ = bb
    rw [hbb, decide_eq_decide]
    exact ⟨fun h => put_begins hn hm hq1 hq2 (by omega) h, fun h => by rw [h]⟩
  clear hbb
  by_cases hlt : (put m).length < (put n).length
  case' pos => have b1 : decide ((put m).length < (put n).length) = true := decide_eq_true hlt; obtain rfl : k = (put m).length := by omega
  case' neg => have b1 : decide ((put m).length < (put n).length) = false := decide_eq_false hlt; obtain rfl : k = (put n).length := by omega
  all_goals
    clear hkm
    go_wp2_with fail
    go_quiet ((go_at_call 12; refine Calls.quiet_of (same_cut _ _ _ _ (put n) (put m) _ _ (hb1.kept ((Kept.refl w2).drewN _)) (hb2.kept ((Kept.refl w2).drewN _)) hq1 hq2 (by omega))))
    rw [hbeg.out]
    go_wp2_with fail
    go_loopw [9] (fun u wr => ∃ (j : Nat) (xs : List Value), u = .int .i64 j ∧ j ≤ (put n).length ∧ wr.ownsRow w.heap.size 5 1 (.slice (some ⟨g, 0, none⟩) (put n).length c) (put n).length xs ∧ Kept w wr) (fun u _ => (put n).length - (intOf u).toNat)
    case atStart => exact ⟨0, _, rfl, Nat.zero_le _, own_kept hown1 (k2.drewN _), (k1.trans k2).drewN _⟩
    case round =>
      obtain ⟨j, xs, rfl, hj, hown, hk⟩ := hrel
      have hxl : xs.length = (put n).length := by simpa using hown.1
      by_cases hjl : j < (put n).length
      · have hc1 : wr.cell? ⟨g, j, none⟩ = some (xs[j]'(by omega)) := by rw [hown.cellAt j (by omega)]; exact List.getElem?_eq_getElem (by omega)
        have hf1 := hown.frozenAt j
        have hst := hown.stored j (.int .u8 0)
        have hk2 : Kept w (wr.setCell ⟨g, j, none⟩ (.int .u8 0)) := hk.setCell (own_base hown g rfl) _
        have HS := Lib.hid hst
        clear hst
        go_wp2_with fail
        go_roundw
        case rel => exact ⟨j + 1, _, by go_num, by omega, HS.out.1, hk2⟩
        case measure => simp [intOf]; omega
      · go_wp2_with fail
        refine (leb_Put n hn _).mono ?_
        rintro e w3 ⟨A3, c3, rfl, hown3, k3⟩
        go_wp2_with fail
        refine (ref_Put n hn _).mono ?_
        rintro e w4 ⟨A4, c4, rfl, hown4, k4⟩
        go_wp2_with fail
        refine (live_calls _).mono ?_
        rintro e w5 ⟨rfl, k5⟩
        go_wp2_with fail
        refine (same_calls _ _ _ _ (put n) (put n) _ (Bs.own (own_kept hown3 (k4.trans k5))) (Bs.own (own_kept hown4 k5)) (by omega)).mono ?_
        rintro e w6 ⟨rfl, nq2, rfl⟩
        rw [decide_eq_true rfl]
        go_wp2_with fail
        go_ret
        exact ⟨rfl, (((hk.trans k3).trans k4).trans k5).drewN _⟩
end Go.Proofs.Ytgpniihkggffeaa
