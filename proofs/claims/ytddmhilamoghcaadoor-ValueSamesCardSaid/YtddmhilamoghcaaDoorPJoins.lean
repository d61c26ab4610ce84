/- Right UTF-8 with any text behind it. No program. -/
import Derived.Test.YtddmhilamoghcaaDoorUtfPure
set_option linter.unusedVariables false
set_option linter.unusedSimpArgs false
namespace Go.Proofs.YtddmhilamoghcaaDoor
theorem step_same (m b0 b1 b2 b3 c1 c2 c3 : Nat) (h1 : 1 < m → b1 = c1) (h2 : 2 < m → b2 = c2) (h3 : 3 < m → b3 = c3) : stepN m b0 b1 b2 b3 = stepN m b0 c1 c2 c3 := by
  by_cases k1 : 1 < m
  · obtain rfl := h1 k1
    by_cases k2 : 2 < m
    · obtain rfl := h2 k2
      by_cases k3 : 3 < m
      · obtain rfl := h3 k3
        rfl
      · simp only [stepN, k3, false_and, if_false]
    · have k3 : ¬ 3 < m := by omega
      simp only [stepN, k2, k3, false_and, if_false]
  · have k2 : ¬ 2 < m := by omega
    have k3 : ¬ 3 < m := by omega
    simp only [stepN, k1, k2, k3, false_and, if_false]
theorem get_get (s : ByteArray) (i : Nat) : s.get! i = (s.data[i]?).getD default := by
  cases s
  show _ = _
  simp only [ByteArray.get!]
  rw [Array.getElem!_eq_getD, Array.getD_eq_getD_getElem?]
theorem get_left (a b : ByteArray) (i : Nat) (h : i < a.size) : (a ++ b).get! i = a.get! i := by
  have h' : i < a.data.size := h
  rw [get_get, get_get, ByteArray.data_append, Array.getElem?_append_left h']
theorem get_right (a b : ByteArray) (i : Nat) : (a ++ b).get! (a.size + i) = b.get! i := by
  have h' : a.data.size ≤ a.size + i := by show a.size ≤ _; omega
  rw [get_get, get_get, ByteArray.data_append, Array.getElem?_append_right h']
  have : a.size + i - a.data.size = i := by show a.size + i - a.size = i; omega
  rw [this]
theorem step_right (a b : ByteArray) (i : Nat) : stepAt (a ++ b) (a.size + i) = stepAt b i := by
  unfold stepAt
  rw [get_right, Nat.add_assoc, get_right, Nat.add_assoc, get_right, Nat.add_assoc, get_right, ByteArray.size_append, Nat.add_sub_add_left]
theorem utf_right (a b : ByteArray) : ∀ n i, b.size - i < n → utfFrom (a ++ b) (a.size + i) = utfFrom b i
  | 0, _, h => absurd h (Nat.not_lt_zero _)
  | n + 1, i, h => by
    by_cases hi : i < b.size
    · have hi' : a.size + i < (a ++ b).size := by rw [ByteArray.size_append]; omega
      by_cases h0 : stepAt b i = 0
      · rw [utfFrom_bad _ _ hi h0, utfFrom_bad _ _ hi' (by rw [step_right]; exact h0)]
      · rw [utfFrom_on _ _ hi h0, utfFrom_on _ _ hi' (by rw [step_right]; exact h0), step_right, Nat.add_assoc]
        exact utf_right a b n _ (by omega)
    · rw [utfFrom_end _ _ hi, utfFrom_end _ _ (by rw [ByteArray.size_append]; omega)]
theorem step_left (a b : ByteArray) (i : Nat) (h : i < a.size) (h0 : stepAt a i ≠ 0) : stepAt (a ++ b) i = stepAt a i := by
  unfold stepAt at *
  rw [get_left _ _ _ h]
  rw [step_same (a.size - i) (a.get! i).toNat (a.get! (i + 1)).toNat (a.get! (i + 2)).toNat (a.get! (i + 3)).toNat ((a ++ b).get! (i + 1)).toNat ((a ++ b).get! (i + 2)).toNat ((a ++ b).get! (i + 3)).toNat
    (fun h => by rw [get_left _ _ _ (by omega)]) (fun h => by rw [get_left _ _ _ (by omega)]) (fun h => by rw [get_left _ _ _ (by omega)])] at h0 ⊢
  exact step_m _ _ _ _ _ _ (by rw [ByteArray.size_append]; omega) h0
theorem utf_left (a b : ByteArray) : ∀ n i, a.size - i < n → i ≤ a.size → utfFrom a i = true → utfFrom (a ++ b) i = utfFrom b 0
  | 0, _, h, _, _ => absurd h (Nat.not_lt_zero _)
  | n + 1, i, h, hi, hu => by
    by_cases hl : i < a.size
    · have hl' : i < (a ++ b).size := by rw [ByteArray.size_append]; omega
      by_cases h0 : stepAt a i = 0
      · rw [utfFrom_bad _ _ hl h0] at hu
        cases hu
      · rw [utfFrom_on _ _ hl h0] at hu
        rw [utfFrom_on _ _ hl' (by rw [step_left _ _ _ hl h0]; exact h0), step_left _ _ _ hl h0]
        exact utf_left a b n _ (by omega) (stepAt_le _ _ hl) hu
    · obtain rfl : i = a.size := by omega
      have := utf_right a b (b.size + 1) 0 (by omega)
      simpa using this
/-- A right text with any text behind it is right just if that is. -/
theorem utf_join (a b : ByteArray) (h : utf a = true) : utf (a ++ b) = utf b := utf_left a b (a.size + 1) 0 (by omega) (Nat.zero_le _) h
end Go.Proofs.YtddmhilamoghcaaDoor
