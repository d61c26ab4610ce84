/- Merged: Ty, LebPure, BlkPure. -/
import Derived.Test.YtilpiclmdmnlkaaZ12
import Derived.Test.YtilpiclmdmnlkaaProg
/- What the types are, and which functions have a body: each by the kernel. Printed by ty.sh. -/
set_option linter.unusedVariables false
namespace Go.Proofs.Ytilpiclmdmnlkaa
theorem ty2 : tyOf Try.prog 2 = some ⟨1, false, .s (.int .i64 0), .int .i64⟩ := by kernel_rfl
theorem ty3 : tyOf Try.prog 3 = some ⟨1, false, .s (.int .i64 0), .int .i64⟩ := by kernel_rfl
theorem ty4 : tyOf Try.prog 4 = some ⟨1, false, .s (.bool false), .other⟩ := by kernel_rfl
theorem ty5 : tyOf Try.prog 5 = some ⟨1, false, .s (.int .u8 0), .int .u8⟩ := by kernel_rfl
theorem ty6 : tyOf Try.prog 6 = some ⟨1, false, .s (.int .u8 0), .int .u8⟩ := by kernel_rfl
theorem ty7 : tyOf Try.prog 7 = some ⟨4, true, .agg [.s (.int .i64 0), .s (.int .i64 0), .s (.bool false), .s (.int .u8 0)], .struct [(0, 1, some false), (1, 1, some false), (2, 1, some false), (3, 1, some false)]⟩ := by kernel_rfl
theorem ty8 : tyOf Try.prog 8 = some ⟨4, true, .agg [.s (.int .i64 0), .s (.int .i64 0), .s (.bool false), .s (.int .u8 0)], .struct [(0, 1, some false), (1, 1, some false), (2, 1, some false), (3, 1, some false)]⟩ := by kernel_rfl
theorem ty9 : tyOf Try.prog 9 = some ⟨1, false, .s (.string ⟨#[]⟩), .string⟩ := by kernel_rfl
theorem ty10 : tyOf Try.prog 10 = some ⟨1, false, .s (.string ⟨#[]⟩), .string⟩ := by kernel_rfl
theorem ty11 : tyOf Try.prog 11 = some ⟨1, false, .s (.string ⟨#[]⟩), .string⟩ := by kernel_rfl
theorem ty12 : tyOf Try.prog 12 = some ⟨1, false, .s (.int .u64 0), .int .u64⟩ := by kernel_rfl
theorem ty13 : tyOf Try.prog 13 = some ⟨2, true, .agg [.s (.string ⟨#[]⟩), .s (.int .u64 0)], .struct [(0, 1, some false), (1, 1, some false)]⟩ := by kernel_rfl
theorem ty14 : tyOf Try.prog 14 = some ⟨2, true, .agg [.s (.string ⟨#[]⟩), .s (.int .u64 0)], .struct [(0, 1, some false), (1, 1, some false)]⟩ := by kernel_rfl
theorem ty15 : tyOf Try.prog 15 = some ⟨1, false, .s (.pointer none), .other⟩ := by kernel_rfl
theorem ty16 : tyOf Try.prog 16 = some ⟨1, false, .s (.pointer none), .other⟩ := by kernel_rfl
theorem ty17 : tyOf Try.prog 17 = some ⟨1, false, .s (.pointer none), .other⟩ := by kernel_rfl
theorem ty18 : tyOf Try.prog 18 = some ⟨1, true, .agg [.s (.pointer none)], .struct [(0, 1, some false)]⟩ := by kernel_rfl
theorem ty19 : tyOf Try.prog 19 = some ⟨1, true, .agg [.s (.pointer none)], .struct [(0, 1, some false)]⟩ := by kernel_rfl
theorem ty20 : tyOf Try.prog 20 = some ⟨1, false, .s (.nilIface), .iface⟩ := by kernel_rfl
theorem ty21 : tyOf Try.prog 21 = some ⟨1, false, .s (.int .i32 0), .int .i32⟩ := by kernel_rfl
theorem ty22 : tyOf Try.prog 22 = some ⟨1, false, .s (.slice none 0 0), .slice 25 3 40⟩ := by kernel_rfl
theorem ty23 : tyOf Try.prog 23 = some ⟨1, false, .s (.slice none 0 0), .slice 5 1 1⟩ := by kernel_rfl
theorem ty24 : tyOf Try.prog 24 = some ⟨3, true, .agg [.s (.slice none 0 0), .s (.int .i64 0), .s (.int .i64 0)], .struct [(0, 1, some false), (1, 1, some false), (2, 1, some false)]⟩ := by kernel_rfl
theorem ty25 : tyOf Try.prog 25 = some ⟨3, true, .agg [.s (.slice none 0 0), .s (.int .i64 0), .s (.int .i64 0)], .struct [(0, 1, some false), (1, 1, some false), (2, 1, some false)]⟩ := by kernel_rfl
theorem ty27 : tyOf Try.prog 27 = some ⟨1, false, .s (.int .u64 0), .int .u64⟩ := by kernel_rfl
theorem ty28 : tyOf Try.prog 28 = some ⟨1, false, .s (.int .i64 0), .int .i64⟩ := by kernel_rfl
theorem ty37 : tyOf Try.prog 37 = some ⟨1, false, .s (.map none), .other⟩ := by kernel_rfl
theorem ty38 : tyOf Try.prog 38 = some ⟨4, true, .agg [.s (.int .u8 0), .s (.int .u8 0), .s (.int .u8 0), .s (.int .u8 0)], .array 4 1 (some false)⟩ := by kernel_rfl
theorem ty41 : tyOf Try.prog 41 = some ⟨1, false, .s (.slice none 0 0), .slice 3 1 8⟩ := by kernel_rfl
theorem ty48 : tyOf Try.prog 48 = some ⟨1, false, .s (.int .u64 0), .int .u64⟩ := by kernel_rfl
theorem ty51 : tyOf Try.prog 51 = some ⟨4, true, .agg [.s (.pointer none), .s (.pointer none), .s (.pointer none), .s (.string ⟨#[]⟩)], .struct [(0, 1, some false), (1, 1, some false), (2, 1, some false), (3, 1, some false)]⟩ := by kernel_rfl
theorem ty52 : tyOf Try.prog 52 = some ⟨4, true, .agg [.s (.pointer none), .s (.pointer none), .s (.pointer none), .s (.string ⟨#[]⟩)], .struct [(0, 1, some false), (1, 1, some false), (2, 1, some false), (3, 1, some false)]⟩ := by kernel_rfl
theorem ty57 : tyOf Try.prog 57 = some ⟨1, false, .s (.int .u32 0), .int .u32⟩ := by kernel_rfl
theorem ty58 : tyOf Try.prog 58 = some ⟨1, false, .s (.int .u8 0), .int .u8⟩ := by kernel_rfl
theorem ty59 : tyOf Try.prog 59 = some ⟨1, false, .s (.int .u8 0), .int .u8⟩ := by kernel_rfl
theorem ty61 : tyOf Try.prog 61 = some ⟨1, false, .s (.pointer none), .other⟩ := by kernel_rfl
theorem ty62 : tyOf Try.prog 62 = some ⟨1, false, .s (.int .i32 0), .int .i32⟩ := by kernel_rfl
theorem ty63 : tyOf Try.prog 63 = some ⟨1, false, .s (.int .i32 0), .int .i32⟩ := by kernel_rfl
theorem ty64 : tyOf Try.prog 64 = some ⟨11, true, .agg [.s (.int .u64 0), .s (.int .u64 0), .s (.int .u32 0), .s (.int .u8 0), .s (.int .u8 0), .s (.int .u8 0), .s (.int .u8 0), .s (.nilFunc), .s (.pointer none), .s (.int .i32 0), .s (.int .i32 0)], .struct [(0, 1, some false), (1, 1, some false), (2, 1, some false), (3, 1, some false), (4, 1, some false), (5, 1, some false), (6, 1, some false), (7, 1, some false), (8, 1, some false), (9, 1, some false), (10, 1, some false)]⟩ := by kernel_rfl
theorem ty65 : tyOf Try.prog 65 = some ⟨11, true, .agg [.s (.int .u64 0), .s (.int .u64 0), .s (.int .u32 0), .s (.int .u8 0), .s (.int .u8 0), .s (.int .u8 0), .s (.int .u8 0), .s (.nilFunc), .s (.pointer none), .s (.int .i32 0), .s (.int .i32 0)], .struct [(0, 1, some false), (1, 1, some false), (2, 1, some false), (3, 1, some false), (4, 1, some false), (5, 1, some false), (6, 1, some false), (7, 1, some false), (8, 1, some false), (9, 1, some false), (10, 1, some false)]⟩ := by kernel_rfl
theorem ty66 : tyOf Try.prog 66 = some ⟨1, false, .s (.pointer none), .other⟩ := by kernel_rfl
theorem hb0 : hasBody Try.prog 0 = false := by kernel_rfl
theorem hb1 : hasBody Try.prog 1 = false := by kernel_rfl
theorem hb2 : hasBody Try.prog 2 = true := by kernel_rfl
theorem hb3 : hasBody Try.prog 3 = true := by kernel_rfl
theorem hb4 : hasBody Try.prog 4 = true := by kernel_rfl
theorem hb5 : hasBody Try.prog 5 = true := by kernel_rfl
theorem hb6 : hasBody Try.prog 6 = true := by kernel_rfl
theorem hb7 : hasBody Try.prog 7 = true := by kernel_rfl
theorem hb8 : hasBody Try.prog 8 = true := by kernel_rfl
theorem hb9 : hasBody Try.prog 9 = true := by kernel_rfl
theorem hb10 : hasBody Try.prog 10 = true := by kernel_rfl
theorem hb11 : hasBody Try.prog 11 = true := by kernel_rfl
theorem hb12 : hasBody Try.prog 12 = true := by kernel_rfl
theorem hb13 : hasBody Try.prog 13 = true := by kernel_rfl
theorem hb14 : hasBody Try.prog 14 = true := by kernel_rfl
theorem hb15 : hasBody Try.prog 15 = true := by kernel_rfl
theorem hb16 : hasBody Try.prog 16 = true := by kernel_rfl
theorem hb17 : hasBody Try.prog 17 = true := by kernel_rfl
theorem hb18 : hasBody Try.prog 18 = true := by kernel_rfl
theorem hb19 : hasBody Try.prog 19 = false := by kernel_rfl
theorem hb20 : hasBody Try.prog 20 = false := by kernel_rfl
theorem hb21 : hasBody Try.prog 21 = false := by kernel_rfl
theorem hb22 : hasBody Try.prog 22 = false := by kernel_rfl
theorem hb23 : hasBody Try.prog 23 = false := by kernel_rfl
theorem hb24 : hasBody Try.prog 24 = false := by kernel_rfl
theorem hb25 : hasBody Try.prog 25 = false := by kernel_rfl
theorem hb26 : hasBody Try.prog 26 = false := by kernel_rfl
theorem hb27 : hasBody Try.prog 27 = false := by kernel_rfl
theorem hb28 : hasBody Try.prog 28 = false := by kernel_rfl
theorem hb29 : hasBody Try.prog 29 = false := by kernel_rfl
theorem hb30 : hasBody Try.prog 30 = false := by kernel_rfl
theorem hb31 : hasBody Try.prog 31 = false := by kernel_rfl
theorem hb32 : hasBody Try.prog 32 = false := by kernel_rfl
theorem hb33 : hasBody Try.prog 33 = false := by kernel_rfl
theorem hb34 : hasBody Try.prog 34 = false := by kernel_rfl
end Go.Proofs.Ytilpiclmdmnlkaa
/- Numbers as bytes, seven bits a byte: the bytes of a number, the number that bytes begin with, and that the two are each other's; plain lists and numbers, no program. -/
namespace Go.Proofs.Ytilpiclmdmnlkaa

/-- The bytes of n. -/
def put (n : Nat) : List UInt8 :=
  if h : n < 128 then [UInt8.ofNat n] else UInt8.ofNat (n % 128 + 128) :: put (n / 128)
termination_by n
decreasing_by omega

theorem put_lt {n : Nat} (h : n < 128) : put n = [UInt8.ofNat n] := by rw [put, dif_pos h]
theorem put_ge {n : Nat} (h : ¬ n < 128) : put n = UInt8.ofNat (n % 128 + 128) :: put (n / 128) := by rw [put, dif_neg h]

theorem put_pos (n : Nat) : 0 < (put n).length := by
  by_cases h : n < 128
  · rw [put_lt h]; simp
  · rw [put_ge h]; simp

/-- at most k bytes where n is below 128 ^ k -/
theorem put_len (k : Nat) : ∀ n, 0 < k → n < 128 ^ k → (put n).length ≤ k := by
  induction k with
  | zero => intro n h; omega
  | succ k ih =>
    intro n _ hn
    by_cases h : n < 128
    · rw [put_lt h]; simp
    · rw [put_ge h]
      have hk : 0 < k := by
        rcases Nat.eq_zero_or_pos k with h0 | h0
        · subst h0; simp at hn; omega
        · exact h0
      have := ih (n / 128) hk (by rw [Nat.pow_succ] at hn; exact Nat.div_lt_of_lt_mul (by omega))
      simp; omega
theorem put_ten {n : Nat} (h : n < 18446744073709551616) : (put n).length ≤ 10 := put_len 10 n (by omega) (by omega)

/-- What bytes begin with: a number, how many bytes it has, an error; k bytes of it stand ahead. -/
def getR : Nat → List UInt8 → Nat × Nat × Int
  | _, [] => (0, 0, 30)
  | k, c :: s =>
    if (k = 9 ∧ 1 < c.toNat) ∨ (c.toNat = 0 ∧ 0 < k) then (0, 0, 5)
    else if c.toNat < 128 then (c.toNat, 1, 0)
    else if (getR (k + 1) s).2.2 = 0 then (c.toNat - 128 + 128 * (getR (k + 1) s).1, (getR (k + 1) s).2.1 + 1, 0) else getR (k + 1) s

/-- The number that l begins with. -/
def get (l : List UInt8) : Nat × Nat × Int := getR 0 l

theorem get_nil : get [] = (0, 0, 30) := rfl

theorem pow_down {k n : Nat} (hk : k < 9) (h : n < 2 ^ (64 - 7 * k)) : n / 128 < 2 ^ (64 - 7 * (k + 1)) := by
  have e : 64 - 7 * k = (64 - 7 * (k + 1)) + 7 := by omega
  rw [e, Nat.pow_add] at h
  exact Nat.div_lt_of_lt_mul (by omega)
theorem pow_up {k n : Nat} (hk : k < 9) (c : Nat) (hc : c < 128) (h : n < 2 ^ (64 - 7 * (k + 1))) : c + 128 * n < 2 ^ (64 - 7 * k) := by
  have e : 64 - 7 * k = (64 - 7 * (k + 1)) + 7 := by omega
  rw [e, Nat.pow_add]
  omega

/-- a number's bytes are read as it, whatever stands behind them -/
theorem getR_put : ∀ (n k : Nat) (t : List UInt8), k ≤ 9 → n < 2 ^ (64 - 7 * k) → (0 < k → 0 < n) → getR k (put n ++ t) = (n, (put n).length, 0) := by
  intro n
  induction n using Nat.strongRecOn with
  | _ n ih =>
    intro k t hk hn h0
    by_cases h : n < 128
    · rw [put_lt h]
      have e : (UInt8.ofNat n).toNat = n := by simp; omega
      simp only [List.cons_append, List.nil_append, getR, e, List.length_singleton]
      rw [if_neg, if_pos h]
      rintro (⟨rfl, h1⟩ | ⟨h1, h2⟩)
      · simp at hn; omega
      · have := h0 h2; omega
    · rw [put_ge h]
      have e : (UInt8.ofNat (n % 128 + 128)).toNat = n % 128 + 128 := by simp; omega
      have hk9 : k < 9 := by
        rcases Nat.lt_or_ge k 9 with h1 | h1
        · exact h1
        · have : k = 9 := by omega
          subst this
          simp at hn; omega
      have hr := ih (n / 128) (by omega) (k + 1) t (by omega) (pow_down hk9 hn) (fun _ => by omega)
      simp only [List.cons_append, getR, e, List.length_cons]
      rw [if_neg (by omega), if_neg (by omega), hr]
      simp only [if_true]
      have : n % 128 + 128 - 128 + 128 * (n / 128) = n := by omega
      rw [this]

theorem get_put {n : Nat} (t : List UInt8) (hn : n < 18446744073709551616) : get (put n ++ t) = (n, (put n).length, 0) :=
  getR_put n 0 t (by omega) (by simpa using hn) (by omega)

/-- what is read has just the bytes that were read -/
theorem getR_ok : ∀ (s : List UInt8) (k n u : Nat), k ≤ 9 → getR k s = (n, u, 0) → 0 < u ∧ u ≤ s.length ∧ s.take u = put n ∧ n < 2 ^ (64 - 7 * k) ∧ (0 < k → 0 < n) := by
  intro s
  induction s with
  | nil => intro k n u _ h; simp [getR] at h
  | cons c s ih =>
    intro k n u hk h
    simp only [getR] at h
    have hc := c.toNat_lt
    by_cases h1 : (k = 9 ∧ 1 < c.toNat) ∨ (c.toNat = 0 ∧ 0 < k)
    · rw [if_pos h1] at h; simp at h
    · rw [if_neg h1] at h
      by_cases h2 : c.toNat < 128
      · rw [if_pos h2] at h
        simp only [Prod.mk.injEq, and_true] at h
        obtain ⟨rfl, rfl⟩ := h
        refine ⟨by omega, by simp, ?_, ?_, by omega⟩
        · rw [put_lt h2]; simp
        · rcases Nat.lt_or_ge k 9 with h9 | h9
          · have : 2 ^ 7 ≤ 2 ^ (64 - 7 * k) := Nat.pow_le_pow_right (by omega) (by omega)
            omega
          · have : k = 9 := by omega
            subst this
            simp; omega
      · rw [if_neg h2] at h
        by_cases h3 : (getR (k + 1) s).2.2 = 0
        · rw [if_pos h3] at h
          simp only [Prod.mk.injEq, and_true] at h
          obtain ⟨rfl, rfl⟩ := h
          have hk9 : k < 9 := by
            rcases Nat.lt_or_ge k 9 with h9 | h9
            · exact h9
            · exact absurd (Or.inl ⟨by omega, by omega⟩) h1
          obtain ⟨i1, i2, i3, i4, i5⟩ := ih (k + 1) (getR (k + 1) s).1 (getR (k + 1) s).2.1 (by omega) (by rw [← h3])
          have i6 := i5 (by omega)
          refine ⟨by omega, by simp; omega, ?_, pow_up hk9 _ (by omega) i4, by omega⟩
          rw [put_ge (by omega)]
          have e1 : (c.toNat - 128 + 128 * (getR (k + 1) s).1) % 128 + 128 = c.toNat := by omega
          have e2 : (c.toNat - 128 + 128 * (getR (k + 1) s).1) / 128 = (getR (k + 1) s).1 := by omega
          rw [e1, e2, List.take_succ_cons, i3]
          simp
        · rw [if_neg h3] at h
          rw [h] at h3
          exact absurd rfl h3

theorem get_ok {s : List UInt8} {n u : Nat} (h : get s = (n, u, 0)) : 0 < u ∧ u ≤ s.length ∧ s.take u = put n ∧ n < 18446744073709551616 := by
  obtain ⟨h1, h2, h3, h4, _⟩ := getR_ok s 0 n u (by omega) h
  exact ⟨h1, h2, h3, by simpa using h4⟩

/-- an error comes with nothing -/
theorem getR_err : ∀ (s : List UInt8) (k : Nat), (getR k s).2.2 ≠ 0 → (getR k s).1 = 0 ∧ (getR k s).2.1 = 0 := by
  intro s
  induction s with
  | nil => intro k _; simp [getR]
  | cons c s ih =>
    intro k h
    simp only [getR] at h ⊢
    split
    · simp
    · rename_i h1
      rw [if_neg h1] at h
      split
      · rename_i h2; rw [if_pos h2] at h; simp at h
      · rename_i h2
        rw [if_neg h2] at h
        split
        · rename_i h3; rw [if_pos h3] at h; simp at h
        · rename_i h3; exact ih _ h3
theorem getR_errs : ∀ (s : List UInt8) (k : Nat), (getR k s).2.2 = 0 ∨ (getR k s).2.2 = 5 ∨ (getR k s).2.2 = 30 := by
  intro s
  induction s with
  | nil => intro k; simp [getR]
  | cons c s ih =>
    intro k
    simp only [getR]
    split
    · simp
    · split
      · simp
      · split
        · simp
        · exact ih _

/-! ### reading, round by round -/
/-- What is told once j bytes have come to acc, and r is what stands behind them. -/
def glue (j acc : Nat) (r : Nat × Nat × Int) : Nat × Nat × Int := if r.2.2 = 0 then (acc + 2 ^ (7 * j) * r.1, j + r.2.1, 0) else r

theorem glue_start (s : List UInt8) : get s = glue 0 0 (getR 0 s) := by
  unfold glue get
  split
  · rename_i h
    simp only [Nat.mul_zero, Nat.pow_zero, Nat.one_mul, Nat.zero_add]
    rw [← h]
  · rfl
theorem glue_form {s t : List UInt8} {j acc : Nat} {b : UInt8} (h : get s = glue j acc (getR j (b :: t))) (hb : (j = 9 ∧ 1 < b.toNat) ∨ (b.toNat = 0 ∧ 0 < j)) : get s = (0, 0, 5) := by
  rw [h, getR, if_pos hb]; rfl
theorem glue_ok {s t : List UInt8} {j acc : Nat} {b : UInt8} (h : get s = glue j acc (getR j (b :: t))) (hb : ¬ ((j = 9 ∧ 1 < b.toNat) ∨ (b.toNat = 0 ∧ 0 < j))) (h1 : b.toNat < 128) :
    get s = (acc + b.toNat * 2 ^ (7 * j), j + 1, 0) := by
  rw [h, getR, if_neg hb, if_pos h1]
  simp [glue, Nat.mul_comm]
theorem glue_more {s t : List UInt8} {j acc : Nat} {b : UInt8} (h : get s = glue j acc (getR j (b :: t))) (hb : ¬ ((j = 9 ∧ 1 < b.toNat) ∨ (b.toNat = 0 ∧ 0 < j))) (h1 : ¬ b.toNat < 128) :
    get s = glue (j + 1) (acc + (b.toNat - 128) * 2 ^ (7 * j)) (getR (j + 1) t) := by
  rw [h, getR, if_neg hb, if_neg h1]
  unfold glue
  by_cases h3 : (getR (j + 1) t).2.2 = 0
  · simp only [h3, if_true]
    have e : 2 ^ (7 * (j + 1)) = 128 * 2 ^ (7 * j) := by rw [show 7 * (j + 1) = 7 * j + 7 by omega, Nat.pow_add]; omega
    rw [e]
    simp only [Prod.mk.injEq, and_true]
    refine ⟨?_, by omega⟩
    rw [Nat.mul_add, Nat.add_assoc, Nat.mul_comm (b.toNat - 128)]
    congr 2
    rw [← Nat.mul_assoc, Nat.mul_comm (2 ^ (7 * j)) 128]
  · simp only [h3, if_false]
theorem glue_end {s : List UInt8} {j acc : Nat} (h : get s = glue j acc (getR j [])) : get s = (0, 0, 30) := by
  rw [h, getR]; rfl

/-! ### the same, by the bytes at the head that are 128 or more -/
def horner : List UInt8 → Nat
  | [] => 0
  | c :: t => c.toNat % 128 + 128 * horner t
theorem horner_snoc : ∀ (l : List UInt8) (c : UInt8), horner (l ++ [c]) = horner l + (c.toNat % 128) * 2 ^ (7 * l.length)
  | [], c => by simp [horner]
  | b :: t, c => by
    simp only [List.cons_append, horner, horner_snoc t c, List.length_cons]
    rw [show 7 * (t.length + 1) = 7 * t.length + 7 by omega, Nat.pow_add, Nat.mul_add, Nat.add_assoc]
    congr 2
    rw [show (2 : Nat) ^ 7 = 128 from rfl, Nat.mul_comm (2 ^ (7 * t.length)) 128, ← Nat.mul_assoc, ← Nat.mul_assoc, Nat.mul_comm 128 (c.toNat % 128)]
theorem horner_lt : ∀ (l : List UInt8), horner l < 2 ^ (7 * l.length)
  | [] => by simp [horner]
  | b :: t => by
    have := horner_lt t
    simp only [horner, List.length_cons]
    rw [show 7 * (t.length + 1) = 7 * t.length + 7 by omega, Nat.pow_add]
    omega
theorem horner_drop_le (l : List UInt8) : ∀ i, horner (l.drop i) ≤ horner l := by
  induction l with
  | nil => intro i; simp
  | cons b t ih =>
    intro i
    cases i with
    | zero => simp
    | succ i => have := ih i; simp only [List.drop_succ_cons, horner]; omega
theorem take_snoc {s : List UInt8} {k : Nat} {b : UInt8} (h : s[k]? = some b) : s.take (k + 1) = s.take k ++ [b] := by
  obtain ⟨h1, h2⟩ := List.getElem?_eq_some_iff.1 h
  rw [List.take_succ_eq_append_getElem h1, h2]
theorem drop_cons {s : List UInt8} {k : Nat} {b : UInt8} (h : s[k]? = some b) : s.drop k = b :: s.drop (k + 1) := by
  obtain ⟨h1, h2⟩ := List.getElem?_eq_some_iff.1 h
  rw [List.drop_eq_getElem_cons h1, h2]

/-- the first k bytes of s are 128 or more -/
def Lead (s : List UInt8) (k : Nat) : Prop := ∀ i b, i < k → s[i]? = some b → 128 ≤ b.toNat
theorem Lead.succ {s : List UInt8} {k : Nat} {b : UInt8} (h : Lead s k) (hb : s[k]? = some b) (h1 : 128 ≤ b.toNat) : Lead s (k + 1) := by
  intro i c hi hc
  rcases Nat.lt_or_ge i k with h2 | h2
  · exact h i c h2 hc
  · obtain rfl : i = k := by omega
    rw [hb] at hc
    obtain rfl := Option.some.inj hc
    exact h1
theorem lead_glue {s : List UInt8} : ∀ (k : Nat), Lead s k → k ≤ 9 → k ≤ s.length → get s = glue k (horner (s.take k)) (getR k (s.drop k)) := by
  intro k
  induction k with
  | zero => intro _ _ _; simpa [horner] using glue_start s
  | succ k ih =>
    intro h hk hl
    have hb : s[k]? = some s[k] := List.getElem?_eq_getElem (by omega)
    have h1 := h k _ (by omega) hb
    have := ih (fun i c hi hc => h i c (by omega) hc) (by omega) (by omega)
    rw [drop_cons hb] at this
    have hg := glue_more this (by omega) (by omega)
    rw [hg, take_snoc hb, horner_snoc, List.length_take, Nat.min_eq_left (by omega)]
    have e : (s[k]).toNat % 128 = (s[k]).toNat - 128 := by have := (s[k]).toNat_lt; omega
    rw [e]
theorem lead_form {s : List UInt8} {k : Nat} {b : UInt8} (h : Lead s k) (hk : k ≤ 9) (hb : s[k]? = some b) (h1 : (k = 9 ∧ 1 < b.toNat) ∨ (b.toNat = 0 ∧ 0 < k)) : get s = (0, 0, 5) := by
  have hl : k < s.length := (List.getElem?_eq_some_iff.1 hb).1
  have := lead_glue k h hk (by omega)
  rw [drop_cons hb] at this
  exact glue_form this h1
theorem lead_ok {s : List UInt8} {k : Nat} {b : UInt8} (h : Lead s k) (hk : k ≤ 9) (hb : s[k]? = some b) (h1 : ¬ ((k = 9 ∧ 1 < b.toNat) ∨ (b.toNat = 0 ∧ 0 < k))) (h2 : b.toNat < 128) : get s = (horner (s.take (k + 1)), k + 1, 0) := by
  have hl : k < s.length := (List.getElem?_eq_some_iff.1 hb).1
  have := lead_glue k h hk (by omega)
  rw [drop_cons hb] at this
  rw [glue_ok this h1 h2, take_snoc hb, horner_snoc, List.length_take, Nat.min_eq_left (by omega), Nat.mod_eq_of_lt h2]
theorem lead_short {s : List UInt8} {k : Nat} (h : Lead s k) (hk : k ≤ 9) (hl : k = s.length) : get s = (0, 0, 30) := by
  have := lead_glue k h hk (by omega)
  rw [List.drop_of_length_le (by omega)] at this
  exact glue_end this

/-- leb.Get: the number at a place, the place behind it, the error. -/
def getAt (l : List UInt8) (at_ : Int) : Nat × Int × Int :=
  if at_ < 0 then (0, 0, 30) else if (get (l.drop at_.toNat)).2.2 = 0 then ((get (l.drop at_.toNat)).1, at_ + ((get (l.drop at_.toNat)).2.1 : Int), 0) else (0, 0, (get (l.drop at_.toNat)).2.2)
theorem getAt_neg {l : List UInt8} {at_ : Int} (h : at_ < 0) : getAt l at_ = (0, 0, 30) := by rw [getAt, if_pos h]
theorem getAt_out {l : List UInt8} {at_ : Int} (h0 : ¬ at_ < 0) (h : (l.length : Int) ≤ at_) : getAt l at_ = (0, 0, 30) := by
  rw [getAt, if_neg h0, List.drop_of_length_le (by omega), get_nil]; rfl
theorem getAt_err {l : List UInt8} {k : Nat} {e : Int} (h : get (l.drop k) = (0, 0, e)) (he : e ≠ 0) : getAt l (k : Int) = (0, 0, e) := by
  rw [getAt, if_neg (by omega), Int.toNat_natCast, h, if_neg he]
theorem getAt_ok {l : List UInt8} {k n u : Nat} (h : get (l.drop k) = (n, u, 0)) : getAt l (k : Int) = (n, (k : Int) + (u : Int), 0) := by
  rw [getAt, if_neg (by omega), Int.toNat_natCast, h]; rfl
/-- what is told of a number that is read -/
theorem getAt_inv {l : List UInt8} {at_ : Int} {n : Nat} {next : Int} (h : getAt l at_ = (n, next, 0)) : ∃ k u : Nat, at_ = k ∧ next = ((k + u : Nat) : Int) ∧ get (l.drop k) = (n, u, 0) := by
  unfold getAt at h
  by_cases h0 : at_ < 0
  · rw [if_pos h0] at h; simp at h
  · rw [if_neg h0] at h
    by_cases h1 : (get (l.drop at_.toNat)).2.2 = 0
    · rw [if_pos h1] at h
      simp only [Prod.mk.injEq, and_true] at h
      obtain ⟨rfl, rfl⟩ := h
      exact ⟨at_.toNat, (get (l.drop at_.toNat)).2.1, by omega, by omega, by rw [← h1]⟩
    · rw [if_neg h1] at h
      simp only [Prod.mk.injEq] at h
      exact absurd h.2.2 h1
theorem getAt_fail {l : List UInt8} {at_ : Int} (h : (getAt l at_).2.2 ≠ 0) : getAt l at_ = (0, 0, (getAt l at_).2.2) := by
  unfold getAt at h ⊢
  by_cases h0 : at_ < 0
  · simp [h0]
  · rw [if_neg h0] at h ⊢
    by_cases h1 : (get (l.drop at_.toNat)).2.2 = 0
    · rw [if_pos h1] at h; simp at h
    · rw [if_neg h1]

/-- neither's bytes begin the other's -/
theorem put_begins {n m : Nat} (hn : n < 18446744073709551616) (hm : m < 18446744073709551616) {k : Nat} (h1 : k ≤ (put n).length) (h2 : k ≤ (put m).length) (h3 : k = (put n).length ∨ k = (put m).length)
    (h : (put n).take k = (put m).take k) : n = m := by
  have key : ∀ {n m : Nat}, n < 18446744073709551616 → m < 18446744073709551616 → (put n).length ≤ (put m).length → (put n).take (put n).length = (put m).take (put n).length → n = m := by
    intro n m hn hm hle h
    have hp : put m = put n ++ (put m).drop (put n).length := by
      conv => lhs; rw [← List.take_append_drop (put n).length (put m), ← h, List.take_length]
    have g1 := get_put (n := m) [] hm
    rw [List.append_nil, hp, get_put _ hn] at g1
    simpa using congrArg Prod.fst g1
  rcases h3 with h3 | h3
  · subst h3; exact key hn hm h2 h
  · subst h3; exact (key hm hn h1 h.symm).symm
theorem put_inj {n m : Nat} (hn : n < 18446744073709551616) (hm : m < 18446744073709551616) (h : put n = put m) : n = m :=
  put_begins hn hm (Nat.le_refl _) (by rw [h]; exact Nat.le_refl _) (.inl rfl) (by rw [h])

/-- numbers with more bytes are no smaller -/
theorem put_mono : ∀ (m n : Nat), n ≤ m → (put n).length ≤ (put m).length := by
  intro m
  induction m using Nat.strongRecOn with
  | _ m ih =>
    intro n h
    by_cases hm : m < 128
    · rw [put_lt hm, put_lt (by omega)]; simp
    · rw [put_ge hm]
      by_cases hn : n < 128
      · rw [put_lt hn]; simp
      · rw [put_ge hn]
        have := ih (m / 128) (by omega) (n / 128) (by omega)
        simp; omega

/-- a number with a sign as one without, and back -/
def zig (n : Int) : Nat := if 0 ≤ n then (2 * n).toNat else (-2 * n - 1).toNat
def zag (u : Nat) : Int := if u % 2 = 0 then (u / 2 : Nat) else -((u / 2 : Nat) : Int) - 1
theorem zag_zig (n : Int) : zag (zig n) = n := by
  unfold zag zig
  split <;> split <;> omega
theorem zig_zag (u : Nat) : zig (zag u) = u := by
  unfold zag zig
  split <;> split <;> omega
theorem zig_lt {n : Int} (h1 : -9223372036854775808 ≤ n) (h2 : n < 9223372036854775808) : zig n < 18446744073709551616 := by
  unfold zig; split <;> omega
theorem zag_range {u : Nat} (h : u < 18446744073709551616) : -9223372036854775808 ≤ zag u ∧ zag u < 9223372036854775808 := by
  unfold zag; split <;> omega
end Go.Proofs.Ytilpiclmdmnlkaa
/- Bytes packed and taken back, in plain data: what Unpack and Pack compute. No program. -/
set_option linter.unusedVariables false
namespace Go.Proofs.Ytilpiclmdmnlkaa

/-! ### Taken back -/
/-- So many bytes more, each the one that stands back ahead of it. -/
def rep (out : List UInt8) (back : Nat) : Nat → List UInt8
  | 0 => out
  | n + 1 => rep (out ++ [out.getD (out.length - back) 0]) back n
theorem rep_len (back : Nat) : ∀ (n : Nat) (out : List UInt8), (rep out back n).length = out.length + n
  | 0, out => rfl
  | n + 1, out => by rw [rep, rep_len back n]; simp; omega
theorem rep_succ (back : Nat) : ∀ (n : Nat) (out : List UInt8), rep out back (n + 1) = rep out back n ++ [(rep out back n).getD ((rep out back n).length - back) 0]
  | 0, out => rfl
  | n + 1, out => by rw [rep, rep_succ back n]; rfl
/-- One token at a place: the number there, what is made, the place behind it; or an error. -/
def tok (p : List UInt8) (k : Nat) (out : List UInt8) : Nat × List UInt8 × Int :=
  match get (p.drop k) with
  | (n, u, e) =>
    if e ≠ 0 then (0, [], e) else
    if n % 2 = 0 then
      if n / 2 = 0 then (0, [], 5) else
      if 2048 - out.length < n / 2 then (0, [], 2) else
      if p.length - (k + u) < n / 2 then (0, [], 30) else
      (k + u + n / 2, out ++ (p.drop (k + u)).take (n / 2), 0)
    else
      if n / 2 < 4 ∨ 255 < n / 2 then (0, [], 5) else
      match get (p.drop (k + u)) with
      | (d, v, f) =>
        if f ≠ 0 then (0, [], f) else
        if d < 1 ∨ 1024 < d ∨ out.length < d then (0, [], 5) else
        if 2048 - out.length < n / 2 then (0, [], 2) else
        (k + u + v, rep out d (n / 2), 0)
/-- Token by token. -/
def unL (p : List UInt8) : Nat → Nat → List UInt8 → List UInt8 × Int
  | 0, _, out => (out, 0)
  | f + 1, k, out => if k < p.length then (if (tok p k out).2.2 ≠ 0 then ([], (tok p k out).2.2) else unL p f (tok p k out).1 (tok p k out).2.1) else (out, 0)
def unp (p : List UInt8) : List UInt8 × Int :=
  if p.length = 0 then ([], 4) else
  if 1 < (p.getD 0 0).toNat then ([], 5) else
  if (p.getD 0 0).toNat = 0 then (if 2049 < p.length then ([], 2) else (p.drop 1, 0)) else
  unL p p.length 1 []
theorem get_used {s : List UInt8} {n u : Nat} (h : get s = (n, u, 0)) : 0 < u ∧ u ≤ s.length := ⟨(get_ok h).1, (get_ok h).2.1⟩
/-- A token goes on, stays within the bytes, and makes no more than may be. -/
theorem tok_ok {p : List UInt8} {k : Nat} {out : List UInt8} (h : (tok p k out).2.2 = 0) : k < (tok p k out).1 ∧ (tok p k out).1 ≤ p.length ∧ (out.length ≤ 2048 → (tok p k out).2.1.length ≤ 2048) := by
  unfold tok at h ⊢
  rcases hg : get (p.drop k) with ⟨n, u, e⟩
  rw [hg] at h
  dsimp only at h ⊢
  by_cases he : e ≠ 0
  · rw [if_pos he] at h; exact absurd h he
  rw [if_neg he] at h ⊢
  obtain rfl : e = 0 := by simpa using he
  obtain ⟨u1, u2⟩ := get_used hg
  rw [List.length_drop] at u2
  by_cases hn : n % 2 = 0
  · rw [if_pos hn] at h ⊢
    by_cases h1 : n / 2 = 0
    · rw [if_pos h1] at h; cases h
    rw [if_neg h1] at h ⊢
    by_cases h2 : 2048 - out.length < n / 2
    · rw [if_pos h2] at h; cases h
    rw [if_neg h2] at h ⊢
    by_cases h3 : p.length - (k + u) < n / 2
    · rw [if_pos h3] at h; cases h
    rw [if_neg h3]
    refine ⟨?_, ?_, fun ho => ?_⟩
    · show k < k + u + n / 2; omega
    · show k + u + n / 2 ≤ _; omega
    · show (out ++ _).length ≤ 2048
      rw [List.length_append, List.length_take, List.length_drop]; omega
  · rw [if_neg hn] at h ⊢
    by_cases h1 : n / 2 < 4 ∨ 255 < n / 2
    · rw [if_pos h1] at h; cases h
    rw [if_neg h1] at h ⊢
    rcases hg2 : get (p.drop (k + u)) with ⟨d, v, f⟩
    rw [hg2] at h
    dsimp only at h ⊢
    by_cases hf : f ≠ 0
    · rw [if_pos hf] at h; exact absurd h hf
    rw [if_neg hf] at h ⊢
    obtain rfl : f = 0 := by simpa using hf
    obtain ⟨v1, v2⟩ := get_used hg2
    rw [List.length_drop] at v2
    by_cases h2 : d < 1 ∨ 1024 < d ∨ out.length < d
    · rw [if_pos h2] at h; cases h
    rw [if_neg h2] at h ⊢
    by_cases h3 : 2048 - out.length < n / 2
    · rw [if_pos h3] at h; cases h
    rw [if_neg h3]
    refine ⟨?_, ?_, fun ho => ?_⟩
    · show k < k + u + v; omega
    · show k + u + v ≤ _; omega
    · show (rep out d (n / 2)).length ≤ 2048
      rw [rep_len]; omega
theorem unL_out (p : List UInt8) : ∀ (f k : Nat) (out : List UInt8), out.length ≤ 2048 → (unL p f k out).1.length ≤ 2048 ∧ ((unL p f k out).2 ≠ 0 → (unL p f k out).1 = [])
  | 0, k, out, h => ⟨h, fun e => absurd rfl e⟩
  | f + 1, k, out, h => by
    unfold unL
    split
    · split
      · exact ⟨by simp, fun _ => rfl⟩
      · rename_i h1 h2
        exact unL_out p f _ _ ((tok_ok (by simpa using h2)).2.2 h)
    · exact ⟨h, fun e => absurd rfl e⟩
theorem unp_out (p : List UInt8) : (unp p).1.length ≤ 2048 ∧ ((unp p).2 ≠ 0 → (unp p).1 = []) := by
  unfold unp
  split
  · exact ⟨by simp, fun _ => rfl⟩
  · split
    · exact ⟨by simp, fun _ => rfl⟩
    · split
      · split
        · exact ⟨by simp, fun _ => rfl⟩
        · exact ⟨by rw [List.length_drop]; omega, fun e => absurd rfl e⟩
      · exact unL_out p _ _ _ (by simp)
/-- One token at a place, then the rest. -/
theorem unL_step {p : List UInt8} {f k k' : Nat} {out out' : List UInt8} (hk : k < p.length) (h : tok p k out = (k', out', 0)) : unL p (f + 1) k out = unL p f k' out' := by
  rw [unL, if_pos hk, if_neg (by rw [h]; simp), h]
theorem unL_stop {p : List UInt8} {f k : Nat} {out : List UInt8} (hk : ¬ k < p.length) : unL p f k out = (out, 0) := by
  cases f with
  | zero => rfl
  | succ f => rw [unL, if_neg hk]
/-- Enough rounds are enough. -/
theorem unL_more (p : List UInt8) : ∀ (f g k : Nat) (out : List UInt8), p.length ≤ k + f → p.length ≤ k + g → unL p f k out = unL p g k out
  | 0, g, k, out, h1, h2 => by rw [unL_stop (by omega), unL_stop (by omega)]
  | f + 1, 0, k, out, h1, h2 => by rw [unL_stop (by omega), unL_stop (by omega)]
  | f + 1, g + 1, k, out, h1, h2 => by
    unfold unL
    split
    · split
      · rfl
      · rename_i h3 h4
        have := (tok_ok (p := p) (k := k) (out := out) (by simpa using h4)).1
        exact unL_more p f g _ _ (by omega) (by omega)
    · rfl
/-- Tokens read from a place on: Tks p k out m n: from place k, out made, one comes to place m, n made. -/
inductive Tks (p : List UInt8) : Nat → List UInt8 → Nat → List UInt8 → Prop
  | nil (k : Nat) (out : List UInt8) : Tks p k out k out
  | cons {k k' m : Nat} {out out' n : List UInt8} (hk : k < p.length) (h : tok p k out = (k', out', 0)) (r : Tks p k' out' m n) : Tks p k out m n
theorem Tks.trans {p : List UInt8} {a b c : Nat} {x y z : List UInt8} (h : Tks p a x b y) (k : Tks p b y c z) : Tks p a x c z := by
  induction h with
  | nil => exact k
  | cons h1 h2 _ ih => exact .cons h1 h2 (ih k)
theorem Tks.unL {p : List UInt8} {k m : Nat} {out n : List UInt8} (h : Tks p k out m n) : ∀ f, p.length ≤ k + f → Go.Proofs.Ytilpiclmdmnlkaa.unL p f k out = Go.Proofs.Ytilpiclmdmnlkaa.unL p p.length m n := by
  induction h with
  | nil k out => exact fun f hf => unL_more p _ _ _ _ hf (by omega)
  | cons hk h r ih =>
    intro f hf
    cases f with
    | zero => omega
    | succ f =>
      rw [unL_step hk h]
      rename_i k k' m out out' n
      have := (tok_ok (p := p) (k := k) (out := out) (by rw [h])).1
      rw [h] at this
      exact ih f (by dsimp only at this; omega)
/-- What tokens lead to the end is what Unpack makes. -/
theorem Tks.unp {p : List UInt8} {n : List UInt8} (h : Tks p 1 [] p.length n) (h0 : p[0]? = some 1) : Go.Proofs.Ytilpiclmdmnlkaa.unp p = (n, 0) := by
  have hl := (List.getElem?_eq_some_iff.1 h0).1
  have e : p.getD 0 0 = 1 := by rw [List.getD_eq_getElem?_getD, h0]; rfl
  unfold Go.Proofs.Ytilpiclmdmnlkaa.unp
  rw [if_neg (by omega), e, if_neg (by decide), if_neg (by decide), h.unL _ (by omega), unL_stop (by omega)]
/-- A token of bytes as they are. -/
theorem tok_lit {P s R out : List UInt8} (h0 : 0 < s.length) (h1 : out.length + s.length ≤ 2048) : tok (P ++ (put (2 * s.length) ++ s) ++ R) P.length out = (P.length + (put (2 * s.length)).length + s.length, out ++ s, 0) := by
  have e : (P ++ (put (2 * s.length) ++ s) ++ R).drop P.length = put (2 * s.length) ++ (s ++ R) := by
    rw [List.append_assoc, List.drop_left, List.append_assoc]
  have e2 : (P ++ (put (2 * s.length) ++ s) ++ R).drop (P.length + (put (2 * s.length)).length) = s ++ R := by
    rw [← List.drop_drop, e, List.drop_left]
  unfold tok
  rw [e, get_put _ (by omega)]
  dsimp only
  rw [if_neg (by simp), if_pos (by omega), if_neg (by omega), if_neg (by omega), if_neg (by simp; omega), e2]
  have e3 : 2 * s.length / 2 = s.length := by omega
  rw [e3, List.take_left]
/-- A token of bytes that come again. -/
theorem tok_back {P R out : List UInt8} {n d : Nat} (h0 : 4 ≤ n) (h1 : n ≤ 255) (h2 : 1 ≤ d) (h3 : d ≤ 1024) (h4 : d ≤ out.length) (h5 : out.length + n ≤ 2048) : tok (P ++ (put (2 * n + 1) ++ put d) ++ R) P.length out = (P.length + (put (2 * n + 1)).length + (put d).length, rep out d n, 0) := by
  have e : (P ++ (put (2 * n + 1) ++ put d) ++ R).drop P.length = put (2 * n + 1) ++ (put d ++ R) := by
    rw [List.append_assoc, List.drop_left, List.append_assoc]
  have e2 : (P ++ (put (2 * n + 1) ++ put d) ++ R).drop (P.length + (put (2 * n + 1)).length) = put d ++ R := by
    rw [← List.drop_drop, e, List.drop_left]
  unfold tok
  rw [e, get_put _ (by omega)]
  dsimp only
  rw [if_neg (by simp), if_neg (by omega), if_neg (by omega), e2, get_put _ (by omega)]
  dsimp only
  have e3 : (2 * n + 1) / 2 = n := by omega
  rw [if_neg (by simp), if_neg (by omega), if_neg (by omega), e3]
/-- Bytes that come again in b. -/
theorem rep_take {b : List UInt8} {k d : Nat} (h1 : 1 ≤ d) (h2 : d ≤ k) : ∀ (n : Nat), k + n ≤ b.length → (∀ i, i < n → b[k + i]? = b[k + i - d]?) → rep (b.take k) d n = b.take (k + n)
  | 0, _, _ => rfl
  | n + 1, h3, h4 => by
    rw [rep_succ, rep_take h1 h2 n (by omega) (fun i hi => h4 i (by omega))]
    have hx := h4 n (by omega)
    have hk : k + n < b.length := by omega
    have e1 : (b.take (k + n)).length = k + n := by rw [List.length_take]; omega
    have e2 : (b.take (k + n)).getD ((b.take (k + n)).length - d) 0 = b[k + n] := by
      rw [e1, List.getD_eq_getElem?_getD, List.getElem?_take_of_lt (by omega), ← hx, List.getElem?_eq_getElem hk]
      rfl
    rw [e2, ← Nat.add_assoc, List.take_add_one, List.getElem?_eq_getElem hk]
    rfl
theorem unL_err {p out : List UInt8} {k : Nat} {e : Int} (hk : k < p.length) (h : tok p k out = (0, [], e)) (he : e ≠ 0) : unL p p.length k out = ([], e) := by
  obtain ⟨f, hf⟩ : ∃ f, p.length = f + 1 := ⟨p.length - 1, by omega⟩
  rw [hf, unL, if_pos hk, if_pos (by rw [h]; exact he), h]
theorem unL_next {p out out' : List UInt8} {k k' : Nat} (hk : k < p.length) (h : tok p k out = (k', out', 0)) : unL p p.length k out = unL p p.length k' out' :=
  (Tks.cons hk h (.nil _ _)).unL _ (by omega)
end Go.Proofs.Ytilpiclmdmnlkaa
