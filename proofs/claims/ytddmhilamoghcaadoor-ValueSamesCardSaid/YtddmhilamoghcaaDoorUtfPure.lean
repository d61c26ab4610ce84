/- Right UTF-8: by the model's decoder, and step by step as the document says it. No program. -/
import Derived.Lib.DecodeNEq
import Derived.Laws.RangeAny
import Derived.Shelf.Unicode.DecodeAny
set_option linter.unusedVariables false
set_option linter.unusedSimpArgs false
namespace Go.Proofs.YtddmhilamoghcaaDoor

/-- The document's step at a place: m bytes are left, the first are these; how many are read, or 0. -/
def stepN (m b0 b1 b2 b3 : Nat) : Nat :=
  if b0 < 128 then 1
  else if 192 ≤ b0 ∧ b0 < 224 then
    (if 1 < m ∧ (128 ≤ b1 ∧ b1 < 192) then
      (if (b0 - 192) * 64 + (b1 - 128) < 128 then 0 else 2) else 0)
  else if 224 ≤ b0 ∧ b0 < 240 then
    (if 1 < m ∧ (128 ≤ b1 ∧ b1 < 192) then if 2 < m ∧ (128 ≤ b2 ∧ b2 < 192) then
      (if ((b0 - 224) * 64 + (b1 - 128)) * 64 + (b2 - 128) < 2048 ∨ (55296 ≤ ((b0 - 224) * 64 + (b1 - 128)) * 64 + (b2 - 128) ∧ ((b0 - 224) * 64 + (b1 - 128)) * 64 + (b2 - 128) ≤ 57343) then 0 else 3) else 0 else 0)
  else if 240 ≤ b0 ∧ b0 < 248 then
    (if 1 < m ∧ (128 ≤ b1 ∧ b1 < 192) then if 2 < m ∧ (128 ≤ b2 ∧ b2 < 192) then if 3 < m ∧ (128 ≤ b3 ∧ b3 < 192) then
      (if (((b0 - 240) * 64 + (b1 - 128)) * 64 + (b2 - 128)) * 64 + (b3 - 128) < 65536 ∨ 1114111 < (((b0 - 240) * 64 + (b1 - 128)) * 64 + (b2 - 128)) * 64 + (b3 - 128) then 0 else 4) else 0 else 0 else 0)
  else 0

/-- It is what the decoder says. -/
theorem step_decode (m b0 b1 b2 b3 : Nat) (h0 : b0 < 256) (h1 : b1 < 256) (h2 : b2 < 256) (h3 : b3 < 256) :
    stepN m b0 b1 b2 b3 = if (Lib.decodeN m b0 b1 b2 b3).1 = 65533 ∧ (Lib.decodeN m b0 b1 b2 b3).2 = 1 then 0 else (Lib.decodeN m b0 b1 b2 b3).2 := by
  by_cases c1 : b0 < 128
  · simp [stepN, Lib.decodeN, c1]; omega
  by_cases c2 : b0 / 32 = 6
  · by_cases d1 : 1 < m ∧ b1 / 64 = 2
    · have e1 : (b0 - 192) * 64 + (b1 - 128) = b0 % 32 * 64 + b1 % 64 := by omega
      have x1 : 192 ≤ b0 ∧ b0 < 224 := by omega
      have x2 : 1 < m ∧ (128 ≤ b1 ∧ b1 < 192) := by omega
      simp only [stepN, Lib.decodeN, c1, c2, d1, x1, x2, e1, if_true, if_false, and_true, true_and, and_self]
      split <;> split <;> simp_all <;> omega
    · have x1 : 192 ≤ b0 ∧ b0 < 224 := by omega
      have x2 : ¬ (1 < m ∧ (128 ≤ b1 ∧ b1 < 192)) := by omega
      have y1 : ¬ b0 / 16 = 14 := by omega
      have y2 : ¬ b0 / 8 = 30 := by omega
      simp only [stepN, Lib.decodeN, c1, c2, d1, x1, x2, y1, y2, if_true, if_false, and_true, true_and, and_self, false_and]
  by_cases c3 : b0 / 16 = 14
  · have x0 : ¬ (192 ≤ b0 ∧ b0 < 224) := by omega
    have x1 : 224 ≤ b0 ∧ b0 < 240 := by omega
    have y2 : ¬ b0 / 8 = 30 := by omega
    by_cases d1 : 1 < m ∧ b1 / 64 = 2
    · have x2 : 1 < m ∧ (128 ≤ b1 ∧ b1 < 192) := by omega
      by_cases d2 : 2 < m ∧ b2 / 64 = 2
      · have x3 : 2 < m ∧ (128 ≤ b2 ∧ b2 < 192) := by omega
        have e1 : ((b0 - 224) * 64 + (b1 - 128)) * 64 + (b2 - 128) = b0 % 16 * 4096 + b1 % 64 * 64 + b2 % 64 := by omega
        simp only [stepN, Lib.decodeN, c1, c2, c3, d1, d2, x0, x1, x2, x3, e1, if_true, if_false, and_true, true_and, and_self, false_and]
        have : b0 % 16 * 4096 + b1 % 64 * 64 + b2 % 64 ≤ 65535 := by omega
        generalize b0 % 16 * 4096 + b1 % 64 * 64 + b2 % 64 = c at *
        by_cases hA : c < 2048 ∨ (55296 ≤ c ∧ c ≤ 57343)
        · have hB : ¬ (c ≥ 2048 ∧ (c < 55296 ∨ 57344 ≤ c ∧ c ≤ 1114111)) := by omega
          simp only [hA, hB, if_true, if_false, and_self]
        · have hB : c ≥ 2048 ∧ (c < 55296 ∨ 57344 ≤ c ∧ c ≤ 1114111) := by omega
          rw [if_neg hA, if_pos hB]; simp
      · have x3 : ¬ (2 < m ∧ (128 ≤ b2 ∧ b2 < 192)) := by omega
        simp only [stepN, Lib.decodeN, c1, c2, c3, d1, d2, x0, x1, x2, x3, y2, if_true, if_false, and_true, true_and, and_self, false_and, and_false]
    · have x2 : ¬ (1 < m ∧ (128 ≤ b1 ∧ b1 < 192)) := by omega
      simp only [stepN, Lib.decodeN, c1, c2, c3, d1, x0, x1, x2, y2, if_true, if_false, and_true, true_and, and_self, false_and, and_false]
  by_cases c4 : b0 / 8 = 30
  · have x0 : ¬ (192 ≤ b0 ∧ b0 < 224) := by omega
    have x00 : ¬ (224 ≤ b0 ∧ b0 < 240) := by omega
    have x1 : 240 ≤ b0 ∧ b0 < 248 := by omega
    by_cases d1 : 1 < m ∧ b1 / 64 = 2
    · have x2 : 1 < m ∧ (128 ≤ b1 ∧ b1 < 192) := by omega
      by_cases d2 : 2 < m ∧ b2 / 64 = 2
      · have x3 : 2 < m ∧ (128 ≤ b2 ∧ b2 < 192) := by omega
        by_cases d3 : 3 < m ∧ b3 / 64 = 2
        · have x4 : 3 < m ∧ (128 ≤ b3 ∧ b3 < 192) := by omega
          have e1 : (((b0 - 240) * 64 + (b1 - 128)) * 64 + (b2 - 128)) * 64 + (b3 - 128) = b0 % 8 * 262144 + b1 % 64 * 4096 + b2 % 64 * 64 + b3 % 64 := by omega
          simp only [stepN, Lib.decodeN, c1, c2, c3, c4, d1, d2, d3, x0, x00, x1, x2, x3, x4, e1, if_true, if_false, and_true, true_and, and_self, false_and]
          generalize b0 % 8 * 262144 + b1 % 64 * 4096 + b2 % 64 * 64 + b3 % 64 = c at *
          by_cases hA : c < 65536 ∨ 1114111 < c
          · have hB : ¬ (c ≥ 65536 ∧ (c < 55296 ∨ 57344 ≤ c ∧ c ≤ 1114111)) := by omega
            simp only [hA, hB, if_true, if_false, and_self]
          · have hB : c ≥ 65536 ∧ (c < 55296 ∨ 57344 ≤ c ∧ c ≤ 1114111) := by omega
            rw [if_neg hA, if_pos hB]; simp
        · have x4 : ¬ (3 < m ∧ (128 ≤ b3 ∧ b3 < 192)) := by omega
          simp only [stepN, Lib.decodeN, c1, c2, c3, c4, d1, d2, d3, x0, x00, x1, x2, x3, x4, if_true, if_false, and_true, true_and, and_self, false_and, and_false]
      · have x3 : ¬ (2 < m ∧ (128 ≤ b2 ∧ b2 < 192)) := by omega
        simp only [stepN, Lib.decodeN, c1, c2, c3, c4, d1, d2, x0, x00, x1, x2, x3, if_true, if_false, and_true, true_and, and_self, false_and, and_false]
    · have x2 : ¬ (1 < m ∧ (128 ≤ b1 ∧ b1 < 192)) := by omega
      simp only [stepN, Lib.decodeN, c1, c2, c3, c4, d1, x0, x00, x1, x2, if_true, if_false, and_true, true_and, and_self, false_and, and_false]
  have x0 : ¬ (192 ≤ b0 ∧ b0 < 224) := by omega
  have x00 : ¬ (224 ≤ b0 ∧ b0 < 240) := by omega
  have x1 : ¬ (240 ≤ b0 ∧ b0 < 248) := by omega
  simp only [stepN, Lib.decodeN, c1, c2, c3, c4, x0, x00, x1, if_true, if_false, and_true, true_and, and_self, false_and, and_false]

/-- The step at a place of a text. -/
def stepAt (s : ByteArray) (i : Nat) : Nat := stepN (s.size - i) (s.get! i).toNat (s.get! (i + 1)).toNat (s.get! (i + 2)).toNat (s.get! (i + 3)).toNat
theorem stepAt_decode (s : ByteArray) (i : Nat) : stepAt s i = if (Utf8.decode s i).1 = 65533 ∧ (Utf8.decode s i).2 = 1 then 0 else (Utf8.decode s i).2 := by
  rw [Lib.decode_at]
  exact step_decode _ _ _ _ _ (UInt8.toNat_lt _) (UInt8.toNat_lt _) (UInt8.toNat_lt _) (UInt8.toNat_lt _)
theorem step_le (m b0 b1 b2 b3 : Nat) (hm : 0 < m) : stepN m b0 b1 b2 b3 ≤ m := by
  unfold stepN
  repeat' split
  all_goals omega
theorem step_m (m m' b0 b1 b2 b3 : Nat) (hm : m ≤ m') (h : stepN m b0 b1 b2 b3 ≠ 0) : stepN m' b0 b1 b2 b3 = stepN m b0 b1 b2 b3 := by
  have k1 : 1 < m → 1 < m' := fun h => by omega
  have k2 : 2 < m → 2 < m' := fun h => by omega
  have k3 : 3 < m → 3 < m' := fun h => by omega
  revert h
  unfold stepN
  repeat' split
  all_goals first | (intro h; rfl) | (intro h; exact absurd rfl h) | (intro h; exfalso; omega) | skip

/-- Is what stands from place i on right UTF-8? -/
def utfFrom (s : ByteArray) (i : Nat) : Bool := if h : i < s.size then (if h0 : stepAt s i = 0 then false else utfFrom s (i + stepAt s i)) else true
termination_by s.size - i
def utf (s : ByteArray) : Bool := utfFrom s 0
theorem utfFrom_end (s : ByteArray) (i : Nat) (h : ¬ i < s.size) : utfFrom s i = true := by rw [utfFrom]; simp [h]
theorem utfFrom_bad (s : ByteArray) (i : Nat) (h : i < s.size) (h0 : stepAt s i = 0) : utfFrom s i = false := by rw [utfFrom]; simp [h, h0]
theorem utfFrom_on (s : ByteArray) (i : Nat) (h : i < s.size) (h0 : stepAt s i ≠ 0) : utfFrom s i = utfFrom s (i + stepAt s i) := by
  conv => lhs; rw [utfFrom]
  simp [h, h0]
theorem stepAt_le (s : ByteArray) (i : Nat) (h : i < s.size) : i + stepAt s i ≤ s.size := by
  have := step_le (s.size - i) (s.get! i).toNat (s.get! (i + 1)).toNat (s.get! (i + 2)).toNat (s.get! (i + 3)).toNat (by omega)
  unfold stepAt
  omega
end Go.Proofs.YtddmhilamoghcaaDoor
