/- Merged: LebPure, Leb, LebGet. -/
import Derived.Test.YtfheoidnahhnlaaGreatDoorZ18
import Derived.Test.YtfheoidnahhnlaaGreatDoorProg
namespace Go.Proofs.YtfheoidnahhnlaaGreatDoor
def put (n : Nat) : List UInt8 :=
  if h : n < 128 then [UInt8.ofNat n] else UInt8.ofNat (n % 128 + 128) :: put (n / 128)
termination_by n
decreasing_by omega
theorem put_lt {n : Nat} (h : n < 128) : put n = [UInt8.ofNat n] := by rw [put, dif_pos h]
theorem put_ge {n : Nat} (h : ¬ n < 128) : put n = UInt8.ofNat (n % 128 + 128) :: put (n / 128) := by rw [put, dif_neg h]
theorem put_pos (n : Nat) : 0 < (put n).length := by
  by_cases h : n < 128
  · rw [put_lt h]; simp
  · rw [put_ge h]; simp
theorem put_len (k : Nat) : ∀ n, 0 < k → n < 128 ^ k → (put n).length ≤ k := by
  induction k with
  | zero => intro n h; omega
  | succ k ih =>
    intro n _ hn
    by_cases h : n < 128
    · rw [put_lt h]; simp
    · rw [put_ge h]
      have hk : 0 < k := by
        rcases Nat.eq_zero_or_pos k with h0 | h0
        · subst h0; simp at hn; omega
        · exact h0
      have := ih (n / 128) hk (by rw [Nat.pow_succ] at hn; exact Nat.div_lt_of_lt_mul (by omega))
      simp; omega
theorem put_ten {n : Nat} (h : n < 18446744073709551616) : (put n).length ≤ 10 := put_len 10 n (by omega) (by omega)
def getR : Nat → List UInt8 → Nat × Nat × Int
  | _, [] => (0, 0, 30)
  | k, c :: s =>
    if (k = 9 ∧ 1 < c.toNat) ∨ (c.toNat = 0 ∧ 0 < k) then (0, 0, 5)
    else if c.toNat < 128 then (c.toNat, 1, 0)
    else if (getR (k + 1) s).2.2 = 0 then (c.toNat - 128 + 128 * (getR (k + 1) s).1, (getR (k + 1) s).2.1 + 1, 0) else getR (k + 1) s
def get (l : List UInt8) : Nat × Nat × Int := getR 0 l
theorem get_nil : get [] = (0, 0, 30) := rfl
theorem pow_down {k n : Nat} (hk : k < 9) (h : n < 2 ^ (64 - 7 * k)) : n / 128 < 2 ^ (64 - 7 * (k + 1)) := by
  have e : 64 - 7 * k = (64 - 7 * (k + 1)) + 7 := by omega
  rw [e, Nat.pow_add] at h
  exact Nat.div_lt_of_lt_mul (by omega)
theorem pow_up {k n : Nat} (hk : k < 9) (c : Nat) (hc : c < 128) (h : n < 2 ^ (64 - 7 * (k + 1))) : c + 128 * n < 2 ^ (64 - 7 * k) := by
  have e : 64 - 7 * k = (64 - 7 * (k + 1)) + 7 := by omega
  rw [e, Nat.pow_add]
  omega
theorem getR_put : ∀ (n k : Nat) (t : List UInt8), k ≤ 9 → n < 2 ^ (64 - 7 * k) → (0 < k → 0 < n) → getR k (put n ++ t) = (n, (put n).length, 0) := by
  intro n
  induction n using Nat.strongRecOn with
  | _ n ih =>
    intro k t hk hn h0
    by_cases h : n < 128
    · rw [put_lt h]
      have e : (UInt8.ofNat n).toNat = n := by simp; omega
      simp only [List.cons_append, List.nil_append, getR, e, List.length_singleton]
      rw [if_neg, if_pos h]
      rintro (⟨rfl, h1⟩ | ⟨h1, h2⟩)
      · simp at hn; omega
      · have := h0 h2; omega
    · rw [put_ge h]
      have e : (UInt8.ofNat (n % 128 + 128)).toNat = n % 128 + 128 := by simp; omega
      have hk9 : k < 9 := by
        rcases Nat.lt_or_ge k 9 with h1 | h1
        · exact h1
        · have : k = 9 := by omega
          subst this
          simp at hn; omega
      have hr := ih (n / 128) (by omega) (k + 1) t (by omega) (pow_down hk9 hn) (fun _ => by omega)
      simp only [List.cons_append, getR, e, List.length_cons]
      rw [if_neg (by omega), if_neg (by omega), hr]
      simp only [if_true]
      have : n % 128 + 128 - 128 + 128 * (n / 128) = n := by omega
      rw [this]
theorem get_put {n : Nat} (t : List UInt8) (hn : n < 18446744073709551616) : get (put n ++ t) = (n, (put n).length, 0) :=
  getR_put n 0 t (by omega) (by simpa using hn) (by omega)
theorem getR_ok : ∀ (s : List UInt8) (k n u : Nat), k ≤ 9 → getR k s = (n, u, 0) → 0 < u ∧ u ≤ s.length ∧ s.take u = put n ∧ n < 2 ^ (64 - 7 * k) ∧ (0 < k → 0 < n) := by
  intro s
  induction s with
  | nil => intro k n u _ h; simp [getR] at h
  | cons c s ih =>
    intro k n u hk h
    simp only [getR] at h
    have hc := c.toNat_lt
    by_cases h1 : (k = 9 ∧ 1 < c.toNat) ∨ (c.toNat = 0 ∧ 0 < k)
    · rw [if_pos h1] at h; simp at h
    · rw [if_neg h1] at h
      by_cases h2 : c.toNat < 128
      · rw [if_pos h2] at h
        simp only [Prod.mk.injEq, and_true] at h
        obtain ⟨rfl, rfl⟩ := h
        refine ⟨by omega, by simp, ?_, ?_, by omega⟩
        · rw [put_lt h2]; simp
        · rcases Nat.lt_or_ge k 9 with h9 | h9
          · have : 2 ^ 7 ≤ 2 ^ (64 - 7 * k) := Nat.pow_le_pow_right (by omega) (by omega)
            omega
          · have : k = 9 := by omega
            subst this
            simp; omega
      · rw [if_neg h2] at h
        by_cases h3 : (getR (k + 1) s).2.2 = 0
        · rw [if_pos h3] at h
          simp only [Prod.mk.injEq, and_true] at h
          obtain ⟨rfl, rfl⟩ := h
          have hk9 : k < 9 := by
            rcases Nat.lt_or_ge k 9 with h9 | h9
            · exact h9
            · exact absurd (Or.inl ⟨by omega, by omega⟩) h1
          obtain ⟨i1, i2, i3, i4, i5⟩ := ih (k + 1) (getR (k + 1) s).1 (getR (k + 1) s).2.1 (by omega) (by rw [← h3])
          have i6 := i5 (by omega)
          refine ⟨by omega, by simp; omega, ?_, pow_up hk9 _ (by omega) i4, by omega⟩
          rw [put_ge (by omega)]
          have e1 : (c.toNat - 128 + 128 * (getR (k + 1) s).1) % 128 + 128 = c.toNat := by omega
          have e2 : (c.toNat - 128 + 128 * (getR (k + 1) s).1) / 128 = (getR (k + 1) s).1 := by omega
          rw [e1, e2, List.take_succ_cons, i3]
          simp
        · rw [if_neg h3] at h
          rw [h] at h3
          exact absurd rfl h3
theorem get_ok {s : List UInt8} {n u : Nat} (h : get s = (n, u, 0)) : 0 < u ∧ u ≤ s.length ∧ s.take u = put n ∧ n < 18446744073709551616 := by
  obtain ⟨h1, h2, h3, h4, _⟩ := getR_ok s 0 n u (by omega) h
  exact ⟨h1, h2, h3, by simpa using h4⟩
theorem getR_err : ∀ (s : List UInt8) (k : Nat), (getR k s).2.2 ≠ 0 → (getR k s).1 = 0 ∧ (getR k s).2.1 = 0 := by
  intro s
  induction s with
  | nil => intro k _; simp [getR]
  | cons c s ih =>
    intro k h
    simp only [getR] at h ⊢
    split
    · simp
    · rename_i h1
      rw [if_neg h1] at h
      split
      · rename_i h2; rw [if_pos h2] at h; simp at h
      · rename_i h2
        rw [if_neg h2] at h
        split
        · rename_i h3; rw [if_pos h3] at h; simp at h
        · rename_i h3; exact ih _ h3
def glue (j acc : Nat) (r : Nat × Nat × Int) : Nat × Nat × Int := if r.2.2 = 0 then (acc + 2 ^ (7 * j) * r.1, j + r.2.1, 0) else r
theorem glue_start (s : List UInt8) : get s = glue 0 0 (getR 0 s) := by
  unfold glue get
  split
  · rename_i h
    simp only [Nat.mul_zero, Nat.pow_zero, Nat.one_mul, Nat.zero_add]
    rw [← h]
  · rfl
theorem glue_form {s t : List UInt8} {j acc : Nat} {b : UInt8} (h : get s = glue j acc (getR j (b :: t))) (hb : (j = 9 ∧ 1 < b.toNat) ∨ (b.toNat = 0 ∧ 0 < j)) : get s = (0, 0, 5) := by
  rw [h, getR, if_pos hb]; rfl
theorem glue_ok {s t : List UInt8} {j acc : Nat} {b : UInt8} (h : get s = glue j acc (getR j (b :: t))) (hb : ¬ ((j = 9 ∧ 1 < b.toNat) ∨ (b.toNat = 0 ∧ 0 < j))) (h1 : b.toNat < 128) :
    get s = (acc + b.toNat * 2 ^ (7 * j), j + 1, 0) := by
  rw [h, getR, if_neg hb, if_pos h1]
  simp [glue, Nat.mul_comm]
theorem glue_more {s t : List UInt8} {j acc : Nat} {b : UInt8} (h : get s = glue j acc (getR j (b :: t))) (hb : ¬ ((j = 9 ∧ 1 < b.toNat) ∨ (b.toNat = 0 ∧ 0 < j))) (h1 : ¬ b.toNat < 128) :
    get s = glue (j + 1) (acc + (b.toNat - 128) * 2 ^ (7 * j)) (getR (j + 1) t) := by
  rw [h, getR, if_neg hb, if_neg h1]
  unfold glue
  by_cases h3 : (getR (j + 1) t).2.2 = 0
  · simp only [h3, if_true]
    have e : 2 ^ (7 * (j + 1)) = 128 * 2 ^ (7 * j) := by rw [show 7 * (j + 1) = 7 * j + 7 by omega, Nat.pow_add]; omega
    rw [e]
    simp only [Prod.mk.injEq, and_true]
    refine ⟨?_, by omega⟩
    rw [Nat.mul_add, Nat.add_assoc, Nat.mul_comm (b.toNat - 128)]
    congr 2
    rw [← Nat.mul_assoc, Nat.mul_comm (2 ^ (7 * j)) 128]
  · simp only [h3, if_false]
theorem glue_end {s : List UInt8} {j acc : Nat} (h : get s = glue j acc (getR j [])) : get s = (0, 0, 30) := by
  rw [h, getR]; rfl
def horner : List UInt8 → Nat
  | [] => 0
  | c :: t => c.toNat % 128 + 128 * horner t
theorem horner_snoc : ∀ (l : List UInt8) (c : UInt8), horner (l ++ [c]) = horner l + (c.toNat % 128) * 2 ^ (7 * l.length)
  | [], c => by simp [horner]
  | b :: t, c => by
    simp only [List.cons_append, horner, horner_snoc t c, List.length_cons]
    rw [show 7 * (t.length + 1) = 7 * t.length + 7 by omega, Nat.pow_add, Nat.mul_add, Nat.add_assoc]
    congr 2
    rw [show (2 : Nat) ^ 7 = 128 from rfl, Nat.mul_comm (2 ^ (7 * t.length)) 128, ← Nat.mul_assoc, ← Nat.mul_assoc, Nat.mul_comm 128 (c.toNat % 128)]
theorem horner_lt : ∀ (l : List UInt8), horner l < 2 ^ (7 * l.length)
  | [] => by simp [horner]
  | b :: t => by
    have := horner_lt t
    simp only [horner, List.length_cons]
    rw [show 7 * (t.length + 1) = 7 * t.length + 7 by omega, Nat.pow_add]
    omega
theorem horner_drop_le (l : List UInt8) : ∀ i, horner (l.drop i) ≤ horner l := by
  induction l with
  | nil => intro i; simp
  | cons b t ih =>
    intro i
    cases i with
    | zero => simp
    | succ i => have := ih i; simp only [List.drop_succ_cons, horner]; omega
theorem take_snoc {s : List UInt8} {k : Nat} {b : UInt8} (h : s[k]? = some b) : s.take (k + 1) = s.take k ++ [b] := by
  obtain ⟨h1, h2⟩ := List.getElem?_eq_some_iff.1 h
  rw [List.take_succ_eq_append_getElem h1, h2]
theorem drop_cons {s : List UInt8} {k : Nat} {b : UInt8} (h : s[k]? = some b) : s.drop k = b :: s.drop (k + 1) := by
  obtain ⟨h1, h2⟩ := List.getElem?_eq_some_iff.1 h
  rw [List.drop_eq_getElem_cons h1, h2]
def Lead (s : List UInt8) (k : Nat) : Prop := ∀ i b, i < k → s[i]? = some b → 128 ≤ b.toNat
theorem Lead.succ {s : List UInt8} {k : Nat} {b : UInt8} (h : Lead s k) (hb : s[k]? = some b) (h1 : 128 ≤ b.toNat) : Lead s (k + 1) := by
  intro i c hi hc
  rcases Nat.lt_or_ge i k with h2 | h2
  · exact h i c h2 hc
  · obtain rfl : i = k := by omega
    rw [hb] at hc
    obtain rfl := Option.some.inj hc
    exact h1
theorem lead_glue {s : List UInt8} : ∀ (k : Nat), Lead s k → k ≤ 9 → k ≤ s.length → get s = glue k (horner (s.take k)) (getR k (s.drop k)) := by
  intro k
  induction k with
  | zero => intro _ _ _; simpa [horner] using glue_start s
  | succ k ih =>
    intro h hk hl
    have hb : s[k]? = some s[k] := List.getElem?_eq_getElem (by omega)
    have h1 := h k _ (by omega) hb
    have := ih (fun i c hi hc => h i c (by omega) hc) (by omega) (by omega)
    rw [drop_cons hb] at this
    have hg := glue_more this (by omega) (by omega)
    rw [hg, take_snoc hb, horner_snoc, List.length_take, Nat.min_eq_left (by omega)]
    have e : (s[k]).toNat % 128 = (s[k]).toNat - 128 := by have := (s[k]).toNat_lt; omega
    rw [e]
theorem lead_form {s : List UInt8} {k : Nat} {b : UInt8} (h : Lead s k) (hk : k ≤ 9) (hb : s[k]? = some b) (h1 : (k = 9 ∧ 1 < b.toNat) ∨ (b.toNat = 0 ∧ 0 < k)) : get s = (0, 0, 5) := by
  have hl : k < s.length := (List.getElem?_eq_some_iff.1 hb).1
  have := lead_glue k h hk (by omega)
  rw [drop_cons hb] at this
  exact glue_form this h1
theorem lead_ok {s : List UInt8} {k : Nat} {b : UInt8} (h : Lead s k) (hk : k ≤ 9) (hb : s[k]? = some b) (h1 : ¬ ((k = 9 ∧ 1 < b.toNat) ∨ (b.toNat = 0 ∧ 0 < k))) (h2 : b.toNat < 128) : get s = (horner (s.take (k + 1)), k + 1, 0) := by
  have hl : k < s.length := (List.getElem?_eq_some_iff.1 hb).1
  have := lead_glue k h hk (by omega)
  rw [drop_cons hb] at this
  rw [glue_ok this h1 h2, take_snoc hb, horner_snoc, List.length_take, Nat.min_eq_left (by omega), Nat.mod_eq_of_lt h2]
theorem lead_short {s : List UInt8} {k : Nat} (h : Lead s k) (hk : k ≤ 9) (hl : k = s.length) : get s = (0, 0, 30) := by
  have := lead_glue k h hk (by omega)
  rw [List.drop_of_length_le (by omega)] at this
  exact glue_end this
def getAt (l : List UInt8) (at_ : Int) : Nat × Int × Int :=
  if at_ < 0 then (0, 0, 30) else if (get (l.drop at_.toNat)).2.2 = 0 then ((get (l.drop at_.toNat)).1, at_ + ((get (l.drop at_.toNat)).2.1 : Int), 0) else (0, 0, (get (l.drop at_.toNat)).2.2)
theorem getAt_neg {l : List UInt8} {at_ : Int} (h : at_ < 0) : getAt l at_ = (0, 0, 30) := by rw [getAt, if_pos h]
theorem getAt_out {l : List UInt8} {at_ : Int} (h0 : ¬ at_ < 0) (h : (l.length : Int) ≤ at_) : getAt l at_ = (0, 0, 30) := by
  rw [getAt, if_neg h0, List.drop_of_length_le (by omega), get_nil]; rfl
theorem getAt_err {l : List UInt8} {k : Nat} {e : Int} (h : get (l.drop k) = (0, 0, e)) (he : e ≠ 0) : getAt l (k : Int) = (0, 0, e) := by
  rw [getAt, if_neg (by omega), Int.toNat_natCast, h, if_neg he]
theorem getAt_ok {l : List UInt8} {k n u : Nat} (h : get (l.drop k) = (n, u, 0)) : getAt l (k : Int) = (n, (k : Int) + (u : Int), 0) := by
  rw [getAt, if_neg (by omega), Int.toNat_natCast, h]; rfl
theorem getAt_inv {l : List UInt8} {at_ : Int} {n : Nat} {next : Int} (h : getAt l at_ = (n, next, 0)) : ∃ k u : Nat, at_ = k ∧ next = ((k + u : Nat) : Int) ∧ get (l.drop k) = (n, u, 0) := by
  unfold getAt at h
  by_cases h0 : at_ < 0
  · rw [if_pos h0] at h; simp at h
  · rw [if_neg h0] at h
    by_cases h1 : (get (l.drop at_.toNat)).2.2 = 0
    · rw [if_pos h1] at h
      simp only [Prod.mk.injEq, and_true] at h
      obtain ⟨rfl, rfl⟩ := h
      exact ⟨at_.toNat, (get (l.drop at_.toNat)).2.1, by omega, by omega, by rw [← h1]⟩
    · rw [if_neg h1] at h
      simp only [Prod.mk.injEq] at h
      exact absurd h.2.2 h1
theorem getAt_fail {l : List UInt8} {at_ : Int} (h : (getAt l at_).2.2 ≠ 0) : getAt l at_ = (0, 0, (getAt l at_).2.2) := by
  unfold getAt at h ⊢
  by_cases h0 : at_ < 0
  · simp [h0]
  · rw [if_neg h0] at h ⊢
    by_cases h1 : (get (l.drop at_.toNat)).2.2 = 0
    · rw [if_pos h1] at h; simp at h
    · rw [if_neg h1]
def zig (n : Int) : Nat := if 0 ≤ n then (2 * n).toNat else (-2 * n - 1).toNat
def zag (u : Nat) : Int := if u % 2 = 0 then (u / 2 : Nat) else -((u / 2 : Nat) : Int) - 1
theorem zag_zig (n : Int) : zag (zig n) = n := by
  unfold zag zig
  split <;> split <;> omega
theorem zig_zag (u : Nat) : zig (zag u) = u := by
  unfold zag zig
  split <;> split <;> omega
theorem zig_lt {n : Int} (h1 : -9223372036854775808 ≤ n) (h2 : n < 9223372036854775808) : zig n < 18446744073709551616 := by
  unfold zig; split <;> omega
theorem zag_range {u : Nat} (h : u < 18446744073709551616) : -9223372036854775808 ≤ zag u ∧ zag u < 9223372036854775808 := by
  unfold zag; split <;> omega
end Go.Proofs.YtfheoidnahhnlaaGreatDoor
set_option linter.unusedVariables false
set_option linter.unusedSimpArgs false
namespace Go.Proofs.YtfheoidnahhnlaaGreatDoor
open Go.RowKit
theorem rowB : RowT Tryz.prog 29 5 1 1 := RowT.of (z := .int .u8 0) Tryz.underlying29 (by kernel_rfl) rfl (by omega)
theorem or128_ : ∀ x : Fin 256, bits .or .u8 ((x.val : Nat) : Int) 128 = ((x.val % 128 + 128 : Nat) : Int) := by decide +kernel
theorem or128 (x : Int) (h0 : 0 ≤ x) (h1 : x < 256) : bits .or .u8 x 128 = x % 128 + 128 := by
  have h := or128_ ⟨x.toNat, by omega⟩
  simp only at h
  rw [show ((x.toNat : Nat) : Int) = x by omega] at h
  rw [h]
  omega
theorem xor_ones (x : Int) (h0 : 0 ≤ x) (h1 : x < 18446744073709551616) : bits .xor .u64 x 18446744073709551615 = 18446744073709551615 - x := by
  show IntKind.u64.wrap ((BitVec.ofInt 64 x ^^^ BitVec.ofInt 64 18446744073709551615).toNat : Int) = _
  have e : BitVec.ofInt 64 18446744073709551615 = BitVec.allOnes 64 := by decide +kernel
  rw [e, BitVec.xor_allOnes, BitVec.toNat_not, IntKind.wrap_u64]
  have e2 : (BitVec.ofInt 64 x).toNat = x.toNat := by rw [BitVec.toNat_ofInt]; omega
  rw [e2]; omega
theorem xor_zero (x : Int) (h0 : 0 ≤ x) (h1 : x < 18446744073709551616) : bits .xor .u64 x 0 = x := by
  rw [u64_xor x 0 h0 h1 (by omega) (by omega)]
  simp; omega
theorem xor_i64_neg (x : Int) (h0 : 0 ≤ x) (h1 : x < 9223372036854775808) : bits .xor .i64 x (-1) = -1 - x := by
  show IntKind.i64.wrap ((BitVec.ofInt 64 x ^^^ BitVec.ofInt 64 (-1)).toNat : Int) = _
  have e : BitVec.ofInt 64 (-1) = BitVec.allOnes 64 := by decide +kernel
  rw [e, BitVec.xor_allOnes, BitVec.toNat_not, IntKind.wrap_i64]
  have e2 : (BitVec.ofInt 64 x).toNat = x.toNat := by rw [BitVec.toNat_ofInt]; omega
  rw [e2]; omega
theorem xor_i64_zero (x : Int) (h0 : 0 ≤ x) (h1 : x < 9223372036854775808) : bits .xor .i64 x 0 = x := by
  show IntKind.i64.wrap ((BitVec.ofInt 64 x ^^^ BitVec.ofInt 64 0).toNat : Int) = _
  have e : BitVec.ofInt 64 0 = 0#64 := by decide +kernel
  rw [e, BitVec.xor_zero, IntKind.wrap_i64]
  have e2 : (BitVec.ofInt 64 x).toNat = x.toNat := by rw [BitVec.toNat_ofInt]; omega
  rw [e2]; omega
theorem and_one (u : Nat) (h : u < 18446744073709551616) : bits .and .u64 (u : Int) 1 = ((u % 2 : Nat) : Int) := by
  have := bits_and_u64_nat u 1 h (by omega)
  rw [show ((1 : Nat) : Int) = 1 from rfl] at this
  rw [this, Nat.and_one_is_mod]
theorem zig_bits (n : Int) (h1 : -9223372036854775808 ≤ n) (h2 : n ≤ 9223372036854775807) :
    bits .xor .u64 (IntKind.u64.wrap (IntKind.u64.wrap n * 2)) (IntKind.u64.wrap (n / 9223372036854775808)) = (zig n : Int) := by
  simp only [IntKind.wrap_u64]
  unfold zig
  by_cases h : 0 ≤ n
  · rw [if_pos h, show n / 9223372036854775808 % 18446744073709551616 = 0 by omega, xor_zero _ (by omega) (by omega)]
    omega
  · rw [if_neg h, show n / 9223372036854775808 % 18446744073709551616 = 18446744073709551615 by omega, xor_ones _ (by omega) (by omega)]
    omega
theorem zag_bits (u : Nat) (h : u < 18446744073709551616) :
    bits .xor .i64 ((u : Int) / 2) (wrap64 (-wrap64 (bits .and .u64 (u : Int) 1))) = zag u := by
  rw [and_one u h]
  unfold zag
  by_cases e : u % 2 = 0
  · rw [if_pos e, e, show wrap64 (-wrap64 ((0 : Nat) : Int)) = 0 by simp [wrap64], xor_i64_zero _ (by omega) (by omega)]
    omega
  · rw [if_neg e, show u % 2 = 1 by omega, show wrap64 (-wrap64 ((1 : Nat) : Int)) = -1 by simp [wrap64], xor_i64_neg _ (by omega) (by omega)]
    omega
theorem bitLen_put : ∀ (n : Nat), n < 2 ^ 64 → (put n).length = max 1 ((Lib.bitLen n + 6) / 7) := by
  intro n
  induction n using Nat.strongRecOn with
  | _ n ih =>
    intro hn
    by_cases h : n < 128
    · rw [put_lt h]
      have := Lib.bitLen_le n 7 (by omega) (by omega)
      simp; omega
    · rw [put_ge h, Lib.bitLen_shift 7 n (by omega) hn]
      have := ih (n / 128) (by omega) (by omega)
      have h1 : 1 ≤ Lib.bitLen (n / 128) := by
        rw [Lib.bitLen_half (n / 128) (by omega) (by omega)]; omega
      have e : n / 2 ^ 7 = n / 128 := rfl
      rw [e, List.length_cons, this]
      omega
set_option maxRecDepth 20000 in
theorem leb_Len (n : Nat) (hn : n < 18446744073709551616) (w : World) :
    Calls Tryz.prog 56 #[.int .u64 n] w fun e w' => e = .returned (.int .i64 (put n).length) ∧ w = w' := by
  have hp := bitLen_put n hn
  have h64 := Lib.bitLen_le n 64 (by omega) hn
  have hfin : max 1 (wrap64 ((wrap64 ((Lib.bitLen n : Int) + 6)).tdiv 7)) = ((put n).length : Int) := by
    rw [hp]
    unfold wrap64
    rw [Int.tdiv_eq_ediv_of_nonneg (by omega)]
    omega
  have Hfin := Lib.hid hfin
  clear hfin hp
  go_enter Tryz.func56, Tryz.ntmps56
  go_wp2_with fail
  refine (Tryz.bits_Len64 _ _ (by omega) (by omega)).mono ?_
  rintro e w' ⟨rfl, rfl⟩
  clear h64
  go_wp2_with fail
  go_ret
  refine ⟨?_, rfl⟩
  rw [← Hfin.out]
  rfl
set_option maxRecDepth 20000 in
theorem leb_Put (n : Nat) (hn : n < 18446744073709551616) (w : World) :
    Calls Tryz.prog 35 #[.int .u64 n] w fun e w' => ∃ A c, e = .returned (.slice A (put n).length c) ∧
      w'.ownsRow w.heap.size 5 1 (.slice A (put n).length c) (put n).length (cellsB (put n)) ∧ Kept w w' := by
  obtain ⟨i0, hi0, hz0, hz1, hz2⟩ := info_parts (show (Tryz.prog.info? 5).map (fun i => (i.zero, i.size, i.bytes)) = some (some (.int .u8 0), 1, 1) by kernel_rfl)
  have hten := put_ten hn
  go_enter Tryz.func35, Tryz.ntmps35
  go_wp2_with fail
  refine (leb_Len n hn _).mono ?_
  rintro e w' ⟨rfl, rfl⟩
  go_wp2_with (at_make; refine wpList_make_own _ rfl _ _ 29 rfl w.heap.size 5 i0 (.int .u8 0) 1 Tryz.underlying29 hi0 hz0 hz1 .i64 .i64 _ (put n).length rfl rfl rfl (by rw [hz2]; omega) (by unfold maxLen; omega) (Nat.le_refl _) ?_; intro w1 hown1 hg1)
  have hk1 : Kept w w1 := (Kept.refl _).grown hg1 (by simp)
  clear hz0 hi0 hz1 hz2
  go_loopg [0, 3] n (fun k u v wr => ∃ (m : Nat) (xs : List UInt8) (A : Option Addr) (c : Nat), u = .int .u64 m ∧ m ≤ k ∧ k ≤ n ∧ v = .slice A xs.length c ∧ Hid (put n = xs ++ put m) ∧ wr.ownsRow w.heap.size 5 1 (.slice A xs.length c) xs.length (cellsB xs) ∧ Kept w wr)
  case atStart => exact ⟨n, [], _, _, rfl, Nat.le_refl _, Nat.le_refl _, rfl, Lib.hid (by simp), hown1, hk1⟩
  case round =>
    obtain ⟨m, xs, A, c, rfl, hmk, hmn, rfl, HP, hown, hk⟩ := hrel
    have hx : xs.length ≤ 10 := by have := congrArg List.length HP.out; simp at this; omega
    by_cases h : m < 128
    · have HE := Lib.hid (show put n = xs ++ [UInt8.ofNat m] from HP.out.trans (by rw [put_lt h]))
      go_wp2_with (at_builtin; refine wpList_app rfl _ _ _ rfl rowB w.heap.size (cellsB xs) rfl (own_kept hown (Kept.alloc (Kept.refl _) _)) [_] rfl (Src.new1 wr _ _ rfl) (by unfold maxLen; omega) (by omega) (Kept.alloc hk _).size ?_; intro A1 c1 w2 hown2 hg2 hat2)
      have hk2 : Kept w w2 := (Kept.alloc hk _).grown hg2 (own_base hown)
      go_ret
      have e1 : (put n).length = xs.length + 1 := by rw [HE.out]; simp
      have e2 : cellsB (put n) = cellsB xs ++ [.int .u8 (m : Int)] := by
        rw [HE.out, cellsB_append]
        simp [cellsB]; omega
      exact ⟨A1, c1, by rw [e1]; rfl, by rw [e1, e2]; exact hown2, hk2⟩
    · have HE := Lib.hid (show put n = (xs ++ [UInt8.ofNat (m % 128 + 128)]) ++ put (m / 128) from HP.out.trans (by rw [put_ge h]; simp))
      go_wp2_with (at_builtin; refine wpList_app rfl _ _ _ rfl rowB w.heap.size (cellsB xs) rfl (own_kept hown (Kept.alloc (Kept.refl _) _)) [_] rfl (Src.new1 wr _ _ rfl) (by unfold maxLen; omega) (by omega) (Kept.alloc hk _).size ?_; intro A1 c1 w2 hown2 hg2 hat2)
      have hk2 : Kept w w2 := (Kept.alloc hk _).grown hg2 (own_base hown)
      go_roundg (m / 128)
      case measure => omega
      case rel =>
        have e2 : cellsB (xs ++ [UInt8.ofNat (m % 128 + 128)]) = cellsB xs ++ [.int .u8 (bits .or .u8 ((m : Int) % 256) 128)] := by
          rw [cellsB_append, or128 ((m : Int) % 256) (by omega) (by omega)]
          simp [cellsB]; omega
        exact ⟨m / 128, xs ++ [UInt8.ofNat (m % 128 + 128)], A1, c1, by go_num, Nat.le_refl _, by omega, by simp, HE, by rw [e2]; simpa using hown2, hk2⟩
set_option maxRecDepth 20000 in
theorem ref_Put (n : Nat) (hn : n < 18446744073709551616) (w : World) :
    Calls Tryz.prog 62 #[.int .u64 n] w fun e w' => ∃ A c, e = .returned (.slice A (put n).length c) ∧
      w'.ownsRow w.heap.size 5 1 (.slice A (put n).length c) (put n).length (cellsB (put n)) ∧ Kept w w' := by
  have hten := put_ten hn
  go_enter Tryz.func62, Tryz.ntmps62
  go_wp2_with fail
  go_loopg [0, 3] n (fun k u v wr => ∃ (m : Nat) (xs : List UInt8) (A : Option Addr) (c : Nat), u = .int .u64 m ∧ m ≤ k ∧ k ≤ n ∧ v = .slice A xs.length c ∧ Hid (put n = xs ++ put m) ∧ wr.ownsRow w.heap.size 5 1 (.slice A xs.length c) xs.length (cellsB xs) ∧ Kept w wr)
  case atStart => exact ⟨n, [], none, 0, rfl, Nat.le_refl _, Nat.le_refl _, rfl, Lib.hid (by simp), own_nil _ _ _ _, Kept.refl _⟩
  case round =>
    obtain ⟨m, xs, A, c, rfl, hmk, hmn, rfl, HP, hown, hk⟩ := hrel
    have hx : xs.length ≤ 10 := by have := congrArg List.length HP.out; simp at this; omega
    by_cases h : m < 128
    · have HE := Lib.hid (show put n = xs ++ [UInt8.ofNat m] from HP.out.trans (by rw [put_lt h]))
      go_wp2_with (at_builtin; refine wpList_app rfl _ _ _ rfl rowB w.heap.size (cellsB xs) rfl (own_kept hown (Kept.alloc (Kept.refl _) _)) [_] rfl (Src.new1 wr _ _ rfl) (by unfold maxLen; omega) (by omega) (Kept.alloc hk _).size ?_; intro A1 c1 w2 hown2 hg2 hat2)
      have hk2 : Kept w w2 := (Kept.alloc hk _).grown hg2 (own_base hown)
      go_ret
      have e1 : (put n).length = xs.length + 1 := by rw [HE.out]; simp
      have e2 : cellsB (put n) = cellsB xs ++ [.int .u8 (m : Int)] := by
        rw [HE.out, cellsB_append]
        simp [cellsB]; omega
      exact ⟨A1, c1, by rw [e1]; rfl, by rw [e1, e2]; exact hown2, hk2⟩
    · have HE := Lib.hid (show put n = (xs ++ [UInt8.ofNat (m % 128 + 128)]) ++ put (m / 128) from HP.out.trans (by rw [put_ge h]; simp))
      go_wp2_with (at_builtin; refine wpList_app rfl _ _ _ rfl rowB w.heap.size (cellsB xs) rfl (own_kept hown (Kept.alloc (Kept.refl _) _)) [_] rfl (Src.new1 wr _ _ rfl) (by unfold maxLen; omega) (by omega) (Kept.alloc hk _).size ?_; intro A1 c1 w2 hown2 hg2 hat2)
      have hk2 : Kept w w2 := (Kept.alloc hk _).grown hg2 (own_base hown)
      go_roundg (m / 128)
      case measure => omega
      case rel =>
        have e2 : cellsB (xs ++ [UInt8.ofNat (m % 128 + 128)]) = cellsB xs ++ [.int .u8 ((m : Int) % 128 + 128)] := by
          rw [cellsB_append]
          simp [cellsB]; omega
        exact ⟨m / 128, xs ++ [UInt8.ofNat (m % 128 + 128)], A1, c1, by go_num, Nat.le_refl _, by omega, by simp, HE, by rw [e2]; simpa using hown2, hk2⟩
set_option maxRecDepth 20000 in
theorem leb_Zig (n : Int) (h1 : -9223372036854775808 ≤ n) (h2 : n ≤ 9223372036854775807) (w : World) :
    Calls Tryz.prog 98 #[.int .i64 n] w fun e w' => e = .returned (.int .u64 (zig n)) ∧ w = w' := by
  have H := Lib.hid (zig_bits n h1 h2)
  go_enter Tryz.func98, Tryz.ntmps98
  go_wp2_with fail
  go_ret
  exact ⟨by rw [← H.out]; rfl, rfl⟩
set_option maxRecDepth 20000 in
theorem ref_Zig (n : Int) (h1 : -9223372036854775808 ≤ n) (h2 : n ≤ 9223372036854775807) (w : World) :
    Calls Tryz.prog 88 #[.int .i64 n] w fun e w' => e = .returned (.int .u64 (zig n)) ∧ w = w' := by
  have H : Hid ((zig n : Int) = if 0 ≤ n then 2 * n else 2 * -(n + 1) + 1) := by unfold Hid zig; split <;> omega
  by_cases h : 0 ≤ n
  · go_enter Tryz.func88, Tryz.ntmps88
    go_wp2_with fail
    go_ret
    exact ⟨by rw [H.out, if_pos h]; rfl, rfl⟩
  · go_enter Tryz.func88, Tryz.ntmps88
    go_wp2_with fail
    go_ret
    exact ⟨by rw [H.out, if_neg (Int.not_le.2 h)]; rfl, rfl⟩
set_option maxRecDepth 20000 in
theorem leb_Zag (u : Nat) (h2 : u < 18446744073709551616) (w : World) :
    Calls Tryz.prog 100 #[.int .u64 u] w fun e w' => e = .returned (.int .i64 (zag u)) ∧ w = w' := by
  have H := Lib.hid (zag_bits u h2)
  go_enter Tryz.func100, Tryz.ntmps100
  go_wp2_with fail
  go_ret
  exact ⟨by rw [← H.out]; rfl, rfl⟩
set_option maxRecDepth 20000 in
theorem ref_Zag (u : Nat) (h2 : u < 18446744073709551616) (w : World) :
    Calls Tryz.prog 90 #[.int .u64 u] w fun e w' => e = .returned (.int .i64 (zag u)) ∧ w = w' := by
  have H : Hid (zag u = if u % 2 = 0 then (u : Int) / 2 else -((u : Int) / 2) - 1) := by unfold Hid zag; split <;> omega
  by_cases h : u % 2 = 0
  · have hb : ((u : Int) % 2 == 0) = true := beq_iff_eq.2 (by omega)
    go_enter Tryz.func90, Tryz.ntmps90
    go_wp2_with fail
    go_ret
    exact ⟨by rw [H.out, if_pos h]; rfl, rfl⟩
  · have hb : ((u : Int) % 2 == 0) = false := beq_eq_false_iff_ne.2 (by omega)
    have H2 := Lib.hid h
    clear h
    go_enter Tryz.func90, Tryz.ntmps90
    go_wp2_with fail
    go_ret
    exact ⟨by rw [H.out, if_neg H2.out]; rfl, rfl⟩
end Go.Proofs.YtfheoidnahhnlaaGreatDoor
set_option linter.unusedVariables false
set_option linter.unusedSimpArgs false
namespace Go.Proofs.YtfheoidnahhnlaaGreatDoor
open Go.RowKit
theorem or_shift (acc b j : Nat) (hj : j ≤ 9) (h1 : acc < 2 ^ (7 * j)) (h2 : b < 128) (h3 : j = 9 → b ≤ 1) :
    bits .or .u64 (acc : Int) (IntKind.u64.wrap ((b : Int) * 2 ^ (7 * j))) = ((acc + b * 2 ^ (7 * j) : Nat) : Int) := by
  have e : ((b : Int) * 2 ^ (7 * j)) = ((b * 2 ^ (7 * j) : Nat) : Int) := by push_cast; rfl
  have hlt : b * 2 ^ (7 * j) < 18446744073709551616 := by
    rcases Nat.lt_or_ge j 9 with h9 | h9
    · have a1 : b * 2 ^ (7 * j) ≤ 127 * 2 ^ 56 := Nat.mul_le_mul (by omega) (Nat.pow_le_pow_right (by omega) (by omega))
      omega
    · obtain rfl : j = 9 := by omega
      have := h3 rfl
      have a1 : b * 2 ^ (7 * 9) ≤ 1 * 2 ^ 63 := Nat.mul_le_mul (by omega) (Nat.le_refl _)
      omega
  have ha : acc < 18446744073709551616 := by
    have : 2 ^ (7 * j) ≤ 2 ^ 63 := Nat.pow_le_pow_right (by omega) (by omega)
    omega
  rw [e, IntKind.wrap_u64, show ((b * 2 ^ (7 * j) : Nat) : Int) % 18446744073709551616 = ((b * 2 ^ (7 * j) : Nat) : Int) by omega, u64_or_nat _ _ ha hlt]
  congr 1
  rw [Nat.or_comm, Nat.mul_comm, ← Nat.two_pow_add_eq_or_of_lt h1, Nat.add_comm]
theorem and127_ : ∀ x : Fin 256, bits .and .u8 ((x.val : Nat) : Int) 127 = ((x.val % 128 : Nat) : Int) := by decide +kernel
theorem and127 (x : Nat) (h1 : x < 256) : bits .and .u8 (x : Int) 127 = ((x % 128 : Nat) : Int) := and127_ ⟨x, h1⟩
set_option maxRecDepth 20000 in
set_option maxHeartbeats 1000000 in
theorem leb_Get_in (A : Option Addr) (c : Nat) (l : List UInt8) (k : Nat) (w : World) (hl : Bs w A l) (hk : k < l.length) (hc : l.length ≤ c) (hm : l.length ≤ 9223372036854775000) :
    Calls Tryz.prog 26 #[.slice A l.length c, .int .i64 k] w fun e w' => e = .returned (.tuple #[.int .u64 (getAt l k).1, .int .i64 (getAt l k).2.1, .int .i64 (getAt l k).2.2]) ∧ w = w' := by
  go_enter Tryz.func26, Tryz.ntmps26
  have i0 : ¬ ((k : Int) < 0) := by omega
  have i1 : ¬ ((l.length : Int) ≤ (k : Int)) := by omega
  go_wp2_with fail
  go_step3
  go_wp2_with fail
  go_step3
  go_wp2_with fail
  go_loopg [25, 7, 8] 10 (fun g u v x wr => ∃ j : Nat, u = .int .i64 j ∧ v = .int .u64 ((horner ((l.drop k).take j) : Nat) : Int) ∧ x = .int .i64 30 ∧ g + j = 10 ∧ j ≤ 9 ∧ j + k ≤ l.length ∧ Hid (w = wr) ∧ Lead (l.drop k) j)
  case atStart => exact ⟨0, rfl, rfl, rfl, rfl, by omega, by omega, Lib.hid rfl, fun i b h => absurd h (by omega)⟩
  case round =>
    obtain ⟨j, rfl, rfl, rfl, hg, hj, hjk, HW, HL⟩ := hrel
    obtain rfl := HW.out
    clear HW
    have hhl := horner_lt ((l.drop k).take j)
    rw [show ((l.drop k).take j).length = j by simp; omega] at hhl
    obtain ⟨acc, hacc⟩ : ∃ acc, acc = horner ((l.drop k).take j) := ⟨_, rfl⟩
    rw [← hacc] at hhl ⊢
    have HA := Lib.hid hacc
    clear hacc
    by_cases hlt : j + k < l.length
    · obtain ⟨ad, b, rfl, hb, HB, hb1⟩ := hl.byte (k + j) (by omega)
      rw [← add_add] at hb
      have HB2 : Hid ((l.drop k)[j]? = some b) := by unfold Hid; rw [List.getElem?_drop]; exact HB.out
      have j1 : (j : Int) < ((l.length - k : Nat) : Int) := by omega
      have j2 : (0 : Int) ≤ (j : Int) := by omega
      by_cases hform : (j = 9 ∧ 1 < b.toNat) ∨ (b.toNat = 0 ∧ 0 < j)
      · have HF := Lib.hid (getAt_err (l := l) (k := k) (lead_form HL hj HB2.out hform) (by omega))
        rcases hform with ⟨h9, h1⟩ | ⟨h0, h1⟩
        · have e9 : ((j : Int) == 9) = true := beq_iff_eq.2 (by omega)
          have e1 : decide (1 < ((b.toNat : Nat) : Int)) = true := decide_eq_true (by omega)
          clear h9 h1
          go_wp2_with fail
          try simp only [Exit.noGoto]
          go_ret3
          exact ⟨by rw [HF.out]; rfl, rfl⟩
        · have H0 := Lib.hid h0
          by_cases h9 : j = 9
          · have e9 : ((j : Int) == 9) = true := beq_iff_eq.2 (by omega)
            have e1 : decide (1 < ((b.toNat : Nat) : Int)) = false := decide_eq_false (by omega)
            have e0 : (((b.toNat : Nat) : Int) == 0) = true := beq_iff_eq.2 (by omega)
            have e2 : decide (0 < j) = true := decide_eq_true (by omega)
            clear h9 h0 h1
            go_wp2_with fail
            try simp only [Exit.noGoto]
            go_ret3
            exact ⟨by rw [HF.out]; rfl, rfl⟩
          · have e9 : ((j : Int) == 9) = false := beq_eq_false_iff_ne.2 (by omega)
            have e0 : (((b.toNat : Nat) : Int) == 0) = true := beq_iff_eq.2 (by omega)
            have e2 : decide (0 < j) = true := decide_eq_true (by omega)
            clear h9 h0 h1
            go_wp2_with fail
            try simp only [Exit.noGoto]
            go_ret3
            exact ⟨by rw [HF.out]; rfl, rfl⟩
      · by_cases h128 : b.toNat < 128
        · have HF := Lib.hid (getAt_ok (l := l) (lead_ok HL hj HB2.out hform h128))
          have HV : Hid (bits .or .u64 (acc : Int) (IntKind.u64.wrap ((b.toNat : Int) * 2 ^ (7 * j))) = ((horner ((l.drop k).take (j + 1)) : Nat) : Int)) := by
            unfold Hid
            rw [or_shift acc b.toNat j hj hhl h128 (fun h9 => by omega), take_snoc HB2.out, horner_snoc, ← HA.out, Nat.mod_eq_of_lt h128]
            simp [show min j (l.length - k) = j by omega]
          have e4 : decide (((b.toNat : Nat) : Int) < 128) = true := decide_eq_true (by omega)
          by_cases h9 : j = 9
          · have e9 : ((j : Int) == 9) = true := beq_iff_eq.2 (by omega)
            have e1 : decide (1 < ((b.toNat : Nat) : Int)) = false := decide_eq_false (by omega)
            have e0 : (((b.toNat : Nat) : Int) == 0) = false := beq_eq_false_iff_ne.2 (by omega)
            clear h9 h128 hform
            go_wp2_with fail
            try simp only [Exit.noGoto]
            go_ret3
            exact ⟨by rw [HF.out]; simp only; rw [← HV.out]; go_num, rfl⟩
          · have e9 : ((j : Int) == 9) = false := beq_eq_false_iff_ne.2 (by omega)
            by_cases h0 : b.toNat = 0
            · have e0 : (((b.toNat : Nat) : Int) == 0) = true := beq_iff_eq.2 (by omega)
              have e2 : decide (0 < j) = false := decide_eq_false (by omega)
              clear h9 h0 h128 hform
              go_wp2_with fail
              try simp only [Exit.noGoto]
              go_ret3
              exact ⟨by rw [HF.out]; simp only; rw [← HV.out]; go_num, rfl⟩
            · have e0 : (((b.toNat : Nat) : Int) == 0) = false := beq_eq_false_iff_ne.2 (by omega)
              clear h9 h0 h128 hform
              go_wp2_with fail
              try simp only [Exit.noGoto]
              go_ret3
              exact ⟨by rw [HF.out]; simp only; rw [← HV.out]; go_num, rfl⟩
        · have HL2 : Lead (l.drop k) (j + 1) := HL.succ HB2.out (by omega)
          have HV : Hid (bits .or .u64 (acc : Int) (IntKind.u64.wrap (IntKind.u64.wrap (bits .and .u8 (b.toNat : Int) 127) * 2 ^ (7 * j))) = ((horner ((l.drop k).take (j + 1)) : Nat) : Int)) := by
            unfold Hid
            rw [and127 _ hb1, IntKind.wrap_u64 ((b.toNat % 128 : Nat) : Int), show ((b.toNat % 128 : Nat) : Int) % 18446744073709551616 = ((b.toNat % 128 : Nat) : Int) by omega, or_shift acc (b.toNat % 128) j hj hhl (by omega) (fun h9 => by omega), take_snoc HB2.out, horner_snoc, ← HA.out]
            simp [show min j (l.length - k) = j by omega]
          have j9 : j + 1 ≤ 9 := by omega
          have e4 : decide (((b.toNat : Nat) : Int) < 128) = false := decide_eq_false (by omega)
          have e9 : ((j : Int) == 9) = false := beq_eq_false_iff_ne.2 (by omega)
          have e0 : (((b.toNat : Nat) : Int) == 0) = false := beq_eq_false_iff_ne.2 (by omega)
          clear h128 hform
          go_wp2_with fail
          go_roundg (gk - 1)
          case measure => omega
          case rel => exact ⟨j + 1, by go_num, by rw [← HV.out], rfl, by omega, j9, by omega, Lib.hid rfl, HL2⟩
    · have HF := Lib.hid (getAt_err (l := l) (k := k) (lead_short HL hj (by simp; omega)) (by omega))
      have j1 : ¬ (j : Int) < ((l.length - k : Nat) : Int) := by omega
      go_wp2_with fail
      try simp only [Exit.noGoto]
      go_ret3
      exact ⟨by rw [HF.out]; rfl, rfl⟩
set_option maxRecDepth 20000 in
theorem leb_Get_neg (A : Option Addr) (c : Nat) (l : List UInt8) (k : Int) (w : World) (h : k < 0) :
    Calls Tryz.prog 26 #[.slice A l.length c, .int .i64 k] w fun e w' => e = .returned (.tuple #[.int .u64 (getAt l k).1, .int .i64 (getAt l k).2.1, .int .i64 (getAt l k).2.2]) ∧ w = w' := by
  have HF := Lib.hid (getAt_neg (l := l) h)
  have e0 : decide (k < 0) = true := decide_eq_true h
  go_enter Tryz.func26, Tryz.ntmps26
  go_wp2_with fail
  go_step3
  go_wp2_with fail
  try simp only [Exit.noGoto]
  go_ret3
  exact ⟨by rw [HF.out]; rfl, rfl⟩
set_option maxRecDepth 20000 in
theorem leb_Get_out (A : Option Addr) (c : Nat) (l : List UInt8) (k : Int) (w : World) (h0 : ¬ k < 0) (h : (l.length : Int) ≤ k) :
    Calls Tryz.prog 26 #[.slice A l.length c, .int .i64 k] w fun e w' => e = .returned (.tuple #[.int .u64 (getAt l k).1, .int .i64 (getAt l k).2.1, .int .i64 (getAt l k).2.2]) ∧ w = w' := by
  have HF := Lib.hid (getAt_out (l := l) h0 h)
  have e0 : decide (k < 0) = false := decide_eq_false h0
  have e1 : decide ((l.length : Int) ≤ k) = true := decide_eq_true h
  go_enter Tryz.func26, Tryz.ntmps26
  go_wp2_with fail
  go_step3
  go_wp2_with fail
  try simp only [Exit.noGoto]
  go_ret3
  exact ⟨by rw [HF.out]; rfl, rfl⟩
theorem leb_Get (A : Option Addr) (c : Nat) (l : List UInt8) (k : Int) (w : World) (hl : Bs w A l) (hc : l.length ≤ c) (hm : l.length ≤ 9223372036854775000) :
    Calls Tryz.prog 26 #[.slice A l.length c, .int .i64 k] w fun e w' => e = .returned (.tuple #[.int .u64 (getAt l k).1, .int .i64 (getAt l k).2.1, .int .i64 (getAt l k).2.2]) ∧ w = w' := by
  by_cases h0 : k < 0
  · exact leb_Get_neg A c l k w h0
  · by_cases h1 : (l.length : Int) ≤ k
    · exact leb_Get_out A c l k w h0 h1
    · obtain ⟨n, rfl⟩ := Int.eq_ofNat_of_zero_le (Int.not_lt.1 h0)
      exact leb_Get_in A c l n w hl (by omega) hc hm
end Go.Proofs.YtfheoidnahhnlaaGreatDoor
