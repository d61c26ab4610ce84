/- Merged: OfPure, LebPure, MapPure, EncPure, NamePure, ChkPure. -/
import Derived.Test.YtknpaooloambdaaDoorZ15
/- Is a value of a type? No program. -/
set_option linter.unusedVariables false
set_option linter.unusedSimpArgs false
namespace Go.Proofs.YtknpaooloambdaaDoor
open Go
def headT : List T → T
  | u :: _ => u
  | [] => .mk 0 []
mutual
def ofV : V → T → Bool
  | .mk k _ _ _ l, u => decide (k = u.kind) && ofVs l (headT u.of)
def ofVs : List V → T → Bool
  | [], _ => true
  | x :: l, u => ofV x u && ofVs l u
end
theorem ofV_eq (k i : Int) (f : Nat) (t : ByteArray) (l : List V) (u : T) : ofV (.mk k i f t l) u = (decide (k = u.kind) && ofVs l (headT u.of)) := by rw [ofV]
theorem ofVs_of : ∀ (l : List V) (u : T), (∀ (i : Nat) (x : V), l[i]? = some x → ofV x u = true) → ofVs l u = true
  | [], _, _ => by rw [ofVs]
  | x :: l, u, h => by
    rw [ofVs, h 0 x rfl, ofVs_of l u (fun i y hy => h (i + 1) y (by simpa using hy))]; rfl
theorem ofVs_at : ∀ (l : List V) (u : T) (i : Nat) (x : V), ofVs l u = true → l[i]? = some x → ofV x u = true
  | y :: l, u, i, x, h, hx => by
    rw [ofVs, Bool.and_eq_true] at h
    cases i with
    | zero =>
      obtain rfl : y = x := by simpa using hx
      exact h.1
    | succ i => exact ofVs_at l u i x h.2 (by simpa using hx)
  | [], _, _, _, _, hx => by simp at hx
theorem chks_all : ∀ (l : List V) (d : Nat), chks l d = 0 → ∀ x ∈ l, chk x d = 0
  | y :: l, d, h, x, hx => by
    rw [chks] at h
    split at h
    · rename_i h0
      rcases List.mem_cons.1 hx with rfl | hx
      · exact h0
      · exact chks_all l d h x hx
    · rename_i h0
      exact absurd h h0
  | [], _, _, x, hx => by cases hx
/-- What a value that may be is. -/
theorem chk_ok {k i : Int} {f : Nat} {t : ByteArray} {l : List V} {d : Nat} (h : chk (.mk k i f t l) d = 0) : d ≤ 4 ∧ ownP (.mk k i f t l) ∧ t.size ≤ 1024 ∧ l.length ≤ 256 ∧ (k = 4 → utf t = true) ∧ ∀ x ∈ l, chk x (d + 1) = 0 := by
  rw [chk_eq] at h
  split at h
  · cases h
  split at h
  · cases h
  split at h
  · cases h
  split at h
  · cases h
  split at h
  · cases h
  rename_i h1 h2 h3 h4 h5
  refine ⟨by omega, Classical.not_not.1 h2, by omega, by omega, fun hk => ?_, chks_all l _ h⟩
  cases hu : utf t
  · exact absurd ⟨hk, hu⟩ h5
  · rfl
theorem own_nest {k i : Int} {f : Nat} {t : ByteArray} {l : List V} (h : ownP (.mk k i f t l)) (hl : l ≠ []) : k = 6 ∨ k = 7 := by
  have : l.length ≠ 0 := fun h => hl (List.length_eq_zero_iff.1 h)
  simp only [ownP, V.kind_mk, V.int_mk, V.float_mk, V.text_mk, V.items_mk] at h
  omega
theorem chkT_ok {k : Int} {l : List T} {d : Nat} (h : chkT (.mk k l) d = 0) : d ≤ 4 ∧ badK k l.length = false ∧ chkTs l (d + 1) = 0 := by
  rw [chkT_eq] at h
  split at h
  · cases h
  split at h
  · cases h
  rename_i h1 h2
  exact ⟨by omega, by simpa using h2, h⟩
theorem badK_no {k : Int} {n : Nat} (h : badK k n = false) : 1 ≤ k ∧ k ≤ 7 ∧ (nestK k = true → n = 1) ∧ (nestK k = false → n = 0) := by
  simp only [badK, Bool.or_eq_false_iff, decide_eq_false_iff_not, Bool.and_eq_false_iff, Bool.not_eq_false'] at h
  obtain ⟨⟨⟨h1, h2⟩, h3⟩, h4⟩ := h
  refine ⟨by omega, by omega, fun hn => ?_, fun hn => ?_⟩
  · rcases h3 with h3 | h3
    · rw [hn] at h3; cases h3
    · exact Classical.not_not.1 h3
  · rcases h4 with h4 | h4
    · rw [hn] at h4; cases h4
    · exact Classical.not_not.1 h4
theorem chkT_nest {k : Int} {l : List T} {d : Nat} (h : chkT (.mk k l) d = 0) (hk : k = 6 ∨ k = 7) : ∃ u, l = [u] ∧ chkT u (d + 1) = 0 := by
  obtain ⟨_, h2, h3⟩ := chkT_ok h
  have hn : nestK k = true := by rcases hk with rfl | rfl <;> rfl
  have h1 := (badK_no h2).2.2.1 hn
  match l, h1 with
  | [u], _ => exact ⟨u, rfl, by simpa [chkTs] using h3⟩
def isV (v : V) (t : T) : Bool := decide (chkT t 1 = 0) && decide (chk v 1 = 0) && ofV v t
end Go.Proofs.YtknpaooloambdaaDoor
/- Numbers as bytes, seven bits a byte: the bytes of a number, the number that bytes begin with, and that the two are each other's; plain lists and numbers, no program. -/
namespace Go.Proofs.YtknpaooloambdaaDoor

/-- The bytes of n. -/
def put (n : Nat) : List UInt8 :=
  if h : n < 128 then [UInt8.ofNat n] else UInt8.ofNat (n % 128 + 128) :: put (n / 128)
termination_by n
decreasing_by omega

theorem put_lt {n : Nat} (h : n < 128) : put n = [UInt8.ofNat n] := by rw [put, dif_pos h]
theorem put_ge {n : Nat} (h : ¬ n < 128) : put n = UInt8.ofNat (n % 128 + 128) :: put (n / 128) := by rw [put, dif_neg h]

theorem put_pos (n : Nat) : 0 < (put n).length := by
  by_cases h : n < 128
  · rw [put_lt h]; simp
  · rw [put_ge h]; simp

/-- at most k bytes where n is below 128 ^ k -/
theorem put_len (k : Nat) : ∀ n, 0 < k → n < 128 ^ k → (put n).length ≤ k := by
  induction k with
  | zero => intro n h; omega
  | succ k ih =>
    intro n _ hn
    by_cases h : n < 128
    · rw [put_lt h]; simp
    · rw [put_ge h]
      have hk : 0 < k := by
        rcases Nat.eq_zero_or_pos k with h0 | h0
        · subst h0; simp at hn; omega
        · exact h0
      have := ih (n / 128) hk (by rw [Nat.pow_succ] at hn; exact Nat.div_lt_of_lt_mul (by omega))
      simp; omega
theorem put_ten {n : Nat} (h : n < 18446744073709551616) : (put n).length ≤ 10 := put_len 10 n (by omega) (by omega)

/-- What bytes begin with: a number, how many bytes it has, an error; k bytes of it stand ahead. -/
def getR : Nat → List UInt8 → Nat × Nat × Int
  | _, [] => (0, 0, 30)
  | k, c :: s =>
    if (k = 9 ∧ 1 < c.toNat) ∨ (c.toNat = 0 ∧ 0 < k) then (0, 0, 5)
    else if c.toNat < 128 then (c.toNat, 1, 0)
    else if (getR (k + 1) s).2.2 = 0 then (c.toNat - 128 + 128 * (getR (k + 1) s).1, (getR (k + 1) s).2.1 + 1, 0) else getR (k + 1) s

/-- The number that l begins with. -/
def get (l : List UInt8) : Nat × Nat × Int := getR 0 l

theorem get_nil : get [] = (0, 0, 30) := rfl

theorem pow_down {k n : Nat} (hk : k < 9) (h : n < 2 ^ (64 - 7 * k)) : n / 128 < 2 ^ (64 - 7 * (k + 1)) := by
  have e : 64 - 7 * k = (64 - 7 * (k + 1)) + 7 := by omega
  rw [e, Nat.pow_add] at h
  exact Nat.div_lt_of_lt_mul (by omega)
theorem pow_up {k n : Nat} (hk : k < 9) (c : Nat) (hc : c < 128) (h : n < 2 ^ (64 - 7 * (k + 1))) : c + 128 * n < 2 ^ (64 - 7 * k) := by
  have e : 64 - 7 * k = (64 - 7 * (k + 1)) + 7 := by omega
  rw [e, Nat.pow_add]
  omega

/-- a number's bytes are read as it, whatever stands behind them -/
theorem getR_put : ∀ (n k : Nat) (t : List UInt8), k ≤ 9 → n < 2 ^ (64 - 7 * k) → (0 < k → 0 < n) → getR k (put n ++ t) = (n, (put n).length, 0) := by
  intro n
  induction n using Nat.strongRecOn with
  | _ n ih =>
    intro k t hk hn h0
    by_cases h : n < 128
    · rw [put_lt h]
      have e : (UInt8.ofNat n).toNat = n := by simp; omega
      simp only [List.cons_append, List.nil_append, getR, e, List.length_singleton]
      rw [if_neg, if_pos h]
      rintro (⟨rfl, h1⟩ | ⟨h1, h2⟩)
      · simp at hn; omega
      · have := h0 h2; omega
    · rw [put_ge h]
      have e : (UInt8.ofNat (n % 128 + 128)).toNat = n % 128 + 128 := by simp; omega
      have hk9 : k < 9 := by
        rcases Nat.lt_or_ge k 9 with h1 | h1
        · exact h1
        · have : k = 9 := by omega
          subst this
          simp at hn; omega
      have hr := ih (n / 128) (by omega) (k + 1) t (by omega) (pow_down hk9 hn) (fun _ => by omega)
      simp only [List.cons_append, getR, e, List.length_cons]
      rw [if_neg (by omega), if_neg (by omega), hr]
      simp only [if_true]
      have : n % 128 + 128 - 128 + 128 * (n / 128) = n := by omega
      rw [this]

theorem get_put {n : Nat} (t : List UInt8) (hn : n < 18446744073709551616) : get (put n ++ t) = (n, (put n).length, 0) :=
  getR_put n 0 t (by omega) (by simpa using hn) (by omega)

/-- what is read has just the bytes that were read -/
theorem getR_ok : ∀ (s : List UInt8) (k n u : Nat), k ≤ 9 → getR k s = (n, u, 0) → 0 < u ∧ u ≤ s.length ∧ s.take u = put n ∧ n < 2 ^ (64 - 7 * k) ∧ (0 < k → 0 < n) := by
  intro s
  induction s with
  | nil => intro k n u _ h; simp [getR] at h
  | cons c s ih =>
    intro k n u hk h
    simp only [getR] at h
    have hc := c.toNat_lt
    by_cases h1 : (k = 9 ∧ 1 < c.toNat) ∨ (c.toNat = 0 ∧ 0 < k)
    · rw [if_pos h1] at h; simp at h
    · rw [if_neg h1] at h
      by_cases h2 : c.toNat < 128
      · rw [if_pos h2] at h
        simp only [Prod.mk.injEq, and_true] at h
        obtain ⟨rfl, rfl⟩ := h
        refine ⟨by omega, by simp, ?_, ?_, by omega⟩
        · rw [put_lt h2]; simp
        · rcases Nat.lt_or_ge k 9 with h9 | h9
          · have : 2 ^ 7 ≤ 2 ^ (64 - 7 * k) := Nat.pow_le_pow_right (by omega) (by omega)
            omega
          · have : k = 9 := by omega
            subst this
            simp; omega
      · rw [if_neg h2] at h
        by_cases h3 : (getR (k + 1) s).2.2 = 0
        · rw [if_pos h3] at h
          simp only [Prod.mk.injEq, and_true] at h
          obtain ⟨rfl, rfl⟩ := h
          have hk9 : k < 9 := by
            rcases Nat.lt_or_ge k 9 with h9 | h9
            · exact h9
            · exact absurd (Or.inl ⟨by omega, by omega⟩) h1
          obtain ⟨i1, i2, i3, i4, i5⟩ := ih (k + 1) (getR (k + 1) s).1 (getR (k + 1) s).2.1 (by omega) (by rw [← h3])
          have i6 := i5 (by omega)
          refine ⟨by omega, by simp; omega, ?_, pow_up hk9 _ (by omega) i4, by omega⟩
          rw [put_ge (by omega)]
          have e1 : (c.toNat - 128 + 128 * (getR (k + 1) s).1) % 128 + 128 = c.toNat := by omega
          have e2 : (c.toNat - 128 + 128 * (getR (k + 1) s).1) / 128 = (getR (k + 1) s).1 := by omega
          rw [e1, e2, List.take_succ_cons, i3]
          simp
        · rw [if_neg h3] at h
          rw [h] at h3
          exact absurd rfl h3

theorem get_ok {s : List UInt8} {n u : Nat} (h : get s = (n, u, 0)) : 0 < u ∧ u ≤ s.length ∧ s.take u = put n ∧ n < 18446744073709551616 := by
  obtain ⟨h1, h2, h3, h4, _⟩ := getR_ok s 0 n u (by omega) h
  exact ⟨h1, h2, h3, by simpa using h4⟩

/-- an error comes with nothing -/
theorem getR_err : ∀ (s : List UInt8) (k : Nat), (getR k s).2.2 ≠ 0 → (getR k s).1 = 0 ∧ (getR k s).2.1 = 0 := by
  intro s
  induction s with
  | nil => intro k _; simp [getR]
  | cons c s ih =>
    intro k h
    simp only [getR] at h ⊢
    split
    · simp
    · rename_i h1
      rw [if_neg h1] at h
      split
      · rename_i h2; rw [if_pos h2] at h; simp at h
      · rename_i h2
        rw [if_neg h2] at h
        split
        · rename_i h3; rw [if_pos h3] at h; simp at h
        · rename_i h3; exact ih _ h3
theorem getR_errs : ∀ (s : List UInt8) (k : Nat), (getR k s).2.2 = 0 ∨ (getR k s).2.2 = 5 ∨ (getR k s).2.2 = 30 := by
  intro s
  induction s with
  | nil => intro k; simp [getR]
  | cons c s ih =>
    intro k
    simp only [getR]
    split
    · simp
    · split
      · simp
      · split
        · simp
        · exact ih _

/-! ### reading, round by round -/
/-- What is told once j bytes have come to acc, and r is what stands behind them. -/
def glue (j acc : Nat) (r : Nat × Nat × Int) : Nat × Nat × Int := if r.2.2 = 0 then (acc + 2 ^ (7 * j) * r.1, j + r.2.1, 0) else r

theorem glue_start (s : List UInt8) : get s = glue 0 0 (getR 0 s) := by
  unfold glue get
  split
  · rename_i h
    simp only [Nat.mul_zero, Nat.pow_zero, Nat.one_mul, Nat.zero_add]
    rw [← h]
  · rfl
theorem glue_form {s t : List UInt8} {j acc : Nat} {b : UInt8} (h : get s = glue j acc (getR j (b :: t))) (hb : (j = 9 ∧ 1 < b.toNat) ∨ (b.toNat = 0 ∧ 0 < j)) : get s = (0, 0, 5) := by
  rw [h, getR, if_pos hb]; rfl
theorem glue_ok {s t : List UInt8} {j acc : Nat} {b : UInt8} (h : get s = glue j acc (getR j (b :: t))) (hb : ¬ ((j = 9 ∧ 1 < b.toNat) ∨ (b.toNat = 0 ∧ 0 < j))) (h1 : b.toNat < 128) :
    get s = (acc + b.toNat * 2 ^ (7 * j), j + 1, 0) := by
  rw [h, getR, if_neg hb, if_pos h1]
  simp [glue, Nat.mul_comm]
theorem glue_more {s t : List UInt8} {j acc : Nat} {b : UInt8} (h : get s = glue j acc (getR j (b :: t))) (hb : ¬ ((j = 9 ∧ 1 < b.toNat) ∨ (b.toNat = 0 ∧ 0 < j))) (h1 : ¬ b.toNat < 128) :
    get s = glue (j + 1) (acc + (b.toNat - 128) * 2 ^ (7 * j)) (getR (j + 1) t) := by
  rw [h, getR, if_neg hb, if_neg h1]
  unfold glue
  by_cases h3 : (getR (j + 1) t).2.2 = 0
  · simp only [h3, if_true]
    have e : 2 ^ (7 * (j + 1)) = 128 * 2 ^ (7 * j) := by rw [show 7 * (j + 1) = 7 * j + 7 by omega, Nat.pow_add]; omega
    rw [e]
    simp only [Prod.mk.injEq, and_true]
    refine ⟨?_, by omega⟩
    rw [Nat.mul_add, Nat.add_assoc, Nat.mul_comm (b.toNat - 128)]
    congr 2
    rw [← Nat.mul_assoc, Nat.mul_comm (2 ^ (7 * j)) 128]
  · simp only [h3, if_false]
theorem glue_end {s : List UInt8} {j acc : Nat} (h : get s = glue j acc (getR j [])) : get s = (0, 0, 30) := by
  rw [h, getR]; rfl

/-! ### the same, by the bytes at the head that are 128 or more -/
def horner : List UInt8 → Nat
  | [] => 0
  | c :: t => c.toNat % 128 + 128 * horner t
theorem horner_snoc : ∀ (l : List UInt8) (c : UInt8), horner (l ++ [c]) = horner l + (c.toNat % 128) * 2 ^ (7 * l.length)
  | [], c => by simp [horner]
  | b :: t, c => by
    simp only [List.cons_append, horner, horner_snoc t c, List.length_cons]
    rw [show 7 * (t.length + 1) = 7 * t.length + 7 by omega, Nat.pow_add, Nat.mul_add, Nat.add_assoc]
    congr 2
    rw [show (2 : Nat) ^ 7 = 128 from rfl, Nat.mul_comm (2 ^ (7 * t.length)) 128, ← Nat.mul_assoc, ← Nat.mul_assoc, Nat.mul_comm 128 (c.toNat % 128)]
theorem horner_lt : ∀ (l : List UInt8), horner l < 2 ^ (7 * l.length)
  | [] => by simp [horner]
  | b :: t => by
    have := horner_lt t
    simp only [horner, List.length_cons]
    rw [show 7 * (t.length + 1) = 7 * t.length + 7 by omega, Nat.pow_add]
    omega
theorem horner_drop_le (l : List UInt8) : ∀ i, horner (l.drop i) ≤ horner l := by
  induction l with
  | nil => intro i; simp
  | cons b t ih =>
    intro i
    cases i with
    | zero => simp
    | succ i => have := ih i; simp only [List.drop_succ_cons, horner]; omega
theorem take_snoc {s : List UInt8} {k : Nat} {b : UInt8} (h : s[k]? = some b) : s.take (k + 1) = s.take k ++ [b] := by
  obtain ⟨h1, h2⟩ := List.getElem?_eq_some_iff.1 h
  rw [List.take_succ_eq_append_getElem h1, h2]
theorem drop_cons {s : List UInt8} {k : Nat} {b : UInt8} (h : s[k]? = some b) : s.drop k = b :: s.drop (k + 1) := by
  obtain ⟨h1, h2⟩ := List.getElem?_eq_some_iff.1 h
  rw [List.drop_eq_getElem_cons h1, h2]

/-- the first k bytes of s are 128 or more -/
def Lead (s : List UInt8) (k : Nat) : Prop := ∀ i b, i < k → s[i]? = some b → 128 ≤ b.toNat
theorem Lead.succ {s : List UInt8} {k : Nat} {b : UInt8} (h : Lead s k) (hb : s[k]? = some b) (h1 : 128 ≤ b.toNat) : Lead s (k + 1) := by
  intro i c hi hc
  rcases Nat.lt_or_ge i k with h2 | h2
  · exact h i c h2 hc
  · obtain rfl : i = k := by omega
    rw [hb] at hc
    obtain rfl := Option.some.inj hc
    exact h1
theorem lead_glue {s : List UInt8} : ∀ (k : Nat), Lead s k → k ≤ 9 → k ≤ s.length → get s = glue k (horner (s.take k)) (getR k (s.drop k)) := by
  intro k
  induction k with
  | zero => intro _ _ _; simpa [horner] using glue_start s
  | succ k ih =>
    intro h hk hl
    have hb : s[k]? = some s[k] := List.getElem?_eq_getElem (by omega)
    have h1 := h k _ (by omega) hb
    have := ih (fun i c hi hc => h i c (by omega) hc) (by omega) (by omega)
    rw [drop_cons hb] at this
    have hg := glue_more this (by omega) (by omega)
    rw [hg, take_snoc hb, horner_snoc, List.length_take, Nat.min_eq_left (by omega)]
    have e : (s[k]).toNat % 128 = (s[k]).toNat - 128 := by have := (s[k]).toNat_lt; omega
    rw [e]
theorem lead_form {s : List UInt8} {k : Nat} {b : UInt8} (h : Lead s k) (hk : k ≤ 9) (hb : s[k]? = some b) (h1 : (k = 9 ∧ 1 < b.toNat) ∨ (b.toNat = 0 ∧ 0 < k)) : get s = (0, 0, 5) := by
  have hl : k < s.length := (List.getElem?_eq_some_iff.1 hb).1
  have := lead_glue k h hk (by omega)
  rw [drop_cons hb] at this
  exact glue_form this h1
theorem lead_ok {s : List UInt8} {k : Nat} {b : UInt8} (h : Lead s k) (hk : k ≤ 9) (hb : s[k]? = some b) (h1 : ¬ ((k = 9 ∧ 1 < b.toNat) ∨ (b.toNat = 0 ∧ 0 < k))) (h2 : b.toNat < 128) : get s = (horner (s.take (k + 1)), k + 1, 0) := by
  have hl : k < s.length := (List.getElem?_eq_some_iff.1 hb).1
  have := lead_glue k h hk (by omega)
  rw [drop_cons hb] at this
  rw [glue_ok this h1 h2, take_snoc hb, horner_snoc, List.length_take, Nat.min_eq_left (by omega), Nat.mod_eq_of_lt h2]
theorem lead_short {s : List UInt8} {k : Nat} (h : Lead s k) (hk : k ≤ 9) (hl : k = s.length) : get s = (0, 0, 30) := by
  have := lead_glue k h hk (by omega)
  rw [List.drop_of_length_le (by omega)] at this
  exact glue_end this

/-- leb.Get: the number at a place, the place behind it, the error. -/
def getAt (l : List UInt8) (at_ : Int) : Nat × Int × Int :=
  if at_ < 0 then (0, 0, 30) else if (get (l.drop at_.toNat)).2.2 = 0 then ((get (l.drop at_.toNat)).1, at_ + ((get (l.drop at_.toNat)).2.1 : Int), 0) else (0, 0, (get (l.drop at_.toNat)).2.2)
theorem getAt_neg {l : List UInt8} {at_ : Int} (h : at_ < 0) : getAt l at_ = (0, 0, 30) := by rw [getAt, if_pos h]
theorem getAt_out {l : List UInt8} {at_ : Int} (h0 : ¬ at_ < 0) (h : (l.length : Int) ≤ at_) : getAt l at_ = (0, 0, 30) := by
  rw [getAt, if_neg h0, List.drop_of_length_le (by omega), get_nil]; rfl
theorem getAt_err {l : List UInt8} {k : Nat} {e : Int} (h : get (l.drop k) = (0, 0, e)) (he : e ≠ 0) : getAt l (k : Int) = (0, 0, e) := by
  rw [getAt, if_neg (by omega), Int.toNat_natCast, h, if_neg he]
theorem getAt_ok {l : List UInt8} {k n u : Nat} (h : get (l.drop k) = (n, u, 0)) : getAt l (k : Int) = (n, (k : Int) + (u : Int), 0) := by
  rw [getAt, if_neg (by omega), Int.toNat_natCast, h]; rfl
/-- what is told of a number that is read -/
theorem getAt_inv {l : List UInt8} {at_ : Int} {n : Nat} {next : Int} (h : getAt l at_ = (n, next, 0)) : ∃ k u : Nat, at_ = k ∧ next = ((k + u : Nat) : Int) ∧ get (l.drop k) = (n, u, 0) := by
  unfold getAt at h
  by_cases h0 : at_ < 0
  · rw [if_pos h0] at h; simp at h
  · rw [if_neg h0] at h
    by_cases h1 : (get (l.drop at_.toNat)).2.2 = 0
    · rw [if_pos h1] at h
      simp only [Prod.mk.injEq, and_true] at h
      obtain ⟨rfl, rfl⟩ := h
      exact ⟨at_.toNat, (get (l.drop at_.toNat)).2.1, by omega, by omega, by rw [← h1]⟩
    · rw [if_neg h1] at h
      simp only [Prod.mk.injEq] at h
      exact absurd h.2.2 h1
theorem getAt_fail {l : List UInt8} {at_ : Int} (h : (getAt l at_).2.2 ≠ 0) : getAt l at_ = (0, 0, (getAt l at_).2.2) := by
  unfold getAt at h ⊢
  by_cases h0 : at_ < 0
  · simp [h0]
  · rw [if_neg h0] at h ⊢
    by_cases h1 : (get (l.drop at_.toNat)).2.2 = 0
    · rw [if_pos h1] at h; simp at h
    · rw [if_neg h1]

/-- neither's bytes begin the other's -/
theorem put_begins {n m : Nat} (hn : n < 18446744073709551616) (hm : m < 18446744073709551616) {k : Nat} (h1 : k ≤ (put n).length) (h2 : k ≤ (put m).length) (h3 : k = (put n).length ∨ k = (put m).length)
    (h : (put n).take k = (put m).take k) : n = m := by
  have key : ∀ {n m : Nat}, n < 18446744073709551616 → m < 18446744073709551616 → (put n).length ≤ (put m).length → (put n).take (put n).length = (put m).take (put n).length → n = m := by
    intro n m hn hm hle h
    have hp : put m = put n ++ (put m).drop (put n).length := by
      conv => lhs; rw [← List.take_append_drop (put n).length (put m), ← h, List.take_length]
    have g1 := get_put (n := m) [] hm
    rw [List.append_nil, hp, get_put _ hn] at g1
    simpa using congrArg Prod.fst g1
  rcases h3 with h3 | h3
  · subst h3; exact key hn hm h2 h
  · subst h3; exact (key hm hn h1 h.symm).symm
theorem put_inj {n m : Nat} (hn : n < 18446744073709551616) (hm : m < 18446744073709551616) (h : put n = put m) : n = m :=
  put_begins hn hm (Nat.le_refl _) (by rw [h]; exact Nat.le_refl _) (.inl rfl) (by rw [h])

/-- numbers with more bytes are no smaller -/
theorem put_mono : ∀ (m n : Nat), n ≤ m → (put n).length ≤ (put m).length := by
  intro m
  induction m using Nat.strongRecOn with
  | _ m ih =>
    intro n h
    by_cases hm : m < 128
    · rw [put_lt hm, put_lt (by omega)]; simp
    · rw [put_ge hm]
      by_cases hn : n < 128
      · rw [put_lt hn]; simp
      · rw [put_ge hn]
        have := ih (m / 128) (by omega) (n / 128) (by omega)
        simp; omega

/-- a number with a sign as one without, and back -/
def zig (n : Int) : Nat := if 0 ≤ n then (2 * n).toNat else (-2 * n - 1).toNat
def zag (u : Nat) : Int := if u % 2 = 0 then (u / 2 : Nat) else -((u / 2 : Nat) : Int) - 1
theorem zag_zig (n : Int) : zag (zig n) = n := by
  unfold zag zig
  split <;> split <;> omega
theorem zig_zag (u : Nat) : zig (zag u) = u := by
  unfold zag zig
  split <;> split <;> omega
theorem zig_lt {n : Int} (h1 : -9223372036854775808 ≤ n) (h2 : n < 9223372036854775808) : zig n < 18446744073709551616 := by
  unfold zig; split <;> omega
theorem zag_range {u : Nat} (h : u < 18446744073709551616) : -9223372036854775808 ≤ zag u ∧ zag u < 9223372036854775808 := by
  unfold zag; split <;> omega
end Go.Proofs.YtknpaooloambdaaDoor
/- Values with every float turned. No program. -/
set_option linter.unusedVariables false
namespace Go.Proofs.YtknpaooloambdaaDoor
open Go

/- Every float of a value turned. -/
mutual
def mapV (g : Nat → Nat) : V → V
  | .mk k i f t l => .mk k i (g f) t (mapL g l)
def mapL (g : Nat → Nat) : List V → List V
  | [] => []
  | x :: l => mapV g x :: mapL g l
end
theorem mapL_eq (g : Nat → Nat) : ∀ l : List V, mapL g l = l.map (mapV g)
  | [] => by rw [mapL]; rfl
  | x :: l => by rw [mapL, mapL_eq g l]; rfl
theorem mapV_eq (g : Nat → Nat) (k i : Int) (f : Nat) (t : ByteArray) (l : List V) : mapV g (.mk k i f t l) = .mk k i (g f) t (l.map (mapV g)) := by rw [mapV, mapL_eq]
theorem mapV_text (g : Nat → Nat) (v : V) : (mapV g v).text = v.text := by cases v; rw [mapV]; rfl
/- A number of 64 bits with a sign. -/
def inI (x : Int) : Prop := -9223372036854775808 ≤ x ∧ x ≤ 9223372036854775807
/- No list in it is longer than a program's memory; its numbers are numbers of 64 bits. -/
def rowFits (k i : Int) (f : Nat) (t : ByteArray) (n : Nat) : Prop := n ≤ 2199023255488 ∧ inI k ∧ inI i ∧ f < 18446744073709551616 ∧ t.size ≤ 140737488351232
mutual
def V.fits : V → Prop
  | .mk k i f t l => rowFits k i f t l.length ∧ V.fitsL l
def V.fitsL : List V → Prop
  | [] => True
  | x :: l => V.fits x ∧ V.fitsL l
end
theorem V.fitsL_mem : ∀ {l : List V} {x : V}, V.fitsL l → x ∈ l → x.fits
  | y :: l, x, h, hx => by
    rcases List.mem_cons.1 hx with rfl | hx
    · exact h.1
    · exact V.fitsL_mem h.2 hx
  | [], _, _, hx => by cases hx
theorem V.fitsL_of : ∀ {l : List V}, (∀ x ∈ l, x.fits) → V.fitsL l
  | [], _ => trivial
  | y :: l, h => ⟨h y (List.mem_cons_self ..), V.fitsL_of fun x hx => h x (List.mem_cons_of_mem _ hx)⟩
theorem V.fits_len {k i : Int} {f : Nat} {t : ByteArray} {l : List V} (h : (V.mk k i f t l).fits) : l.length ≤ 2199023255488 := h.1.1
theorem V.fits_row {k i : Int} {f : Nat} {t : ByteArray} {l : List V} (h : (V.mk k i f t l).fits) : rowFits k i f t l.length := h.1
theorem V.fits_mem {k i : Int} {f : Nat} {t : ByteArray} {l : List V} (h : (V.mk k i f t l).fits) {x : V} (hx : x ∈ l) : x.fits := V.fitsL_mem h.2 hx
theorem V.fits_of {k i : Int} {f : Nat} {t : ByteArray} {l : List V} (h : rowFits k i f t l.length) (hx : ∀ x ∈ l, x.fits) : (V.mk k i f t l).fits := ⟨h, V.fitsL_of hx⟩
theorem fixB_lt {f : Nat} (h : f < 18446744073709551616) : fixB f < 18446744073709551616 := by
  unfold fixB nanB
  split
  · omega
  · exact h
mutual
theorem fits_fix : ∀ a : V, a.fits → (mapV fixB a).fits
  | .mk k i f t l, h => by
    obtain ⟨⟨h1, h2, h3, h4, h5⟩, h6⟩ := h
    rw [mapV]
    exact ⟨⟨by rw [mapL_eq, List.length_map]; exact h1, h2, h3, fixB_lt h4, h5⟩, fitsL_fix l h6⟩
theorem fitsL_fix : ∀ l : List V, V.fitsL l → V.fitsL (mapL fixB l)
  | [], _ => by rw [mapL]; trivial
  | x :: l, h => by
    rw [mapL]
    exact ⟨fits_fix x h.1, fitsL_fix l h.2⟩
end
end Go.Proofs.YtknpaooloambdaaDoor
/- The bytes of texts, types, values, columns, schemas. No program. -/
set_option linter.unusedVariables false
set_option linter.unusedSimpArgs false
namespace Go.Proofs.YtknpaooloambdaaDoor
open Go
def bitB (b : Bool) : List UInt8 := if b = true then [1] else [0]
def textB (s : ByteArray) : List UInt8 := put s.size ++ s.data.toList
def byteK (k : Int) : UInt8 := UInt8.ofNat (k.toNat % 256)
mutual
def typeB : T → List UInt8
  | .mk k l => byteK k :: typeBs l
def typeBs : List T → List UInt8
  | [] => []
  | u :: _ => typeB u
end
/-- The eight bytes of a number, the lowest first. -/
def leB (n : Nat) : Nat → List UInt8
  | 0 => []
  | k + 1 => UInt8.ofNat (n % 256) :: leB (n / 256) k
def headB (k i : Int) (f : Nat) (t : ByteArray) (n : Nat) : List UInt8 :=
  if k = 1 then bitB (i == 1)
  else if k = 2 then put (zig i)
  else if k = 3 then leB (fixB f) 8
  else if k = 4 ∨ k = 5 then textB t
  else if k = 6 then bitB ((n : Int) == 1)
  else put n
mutual
def valB : V → List UInt8
  | .mk k i f t l => headB k i f t l.length ++ valBs l
def valBs : List V → List UInt8
  | [] => []
  | x :: l => valB x ++ valBs l
end
theorem valB_eq (k i : Int) (f : Nat) (t : ByteArray) (l : List V) : valB (.mk k i f t l) = headB k i f t l.length ++ valBs l := by rw [valB]
theorem valBs_app : ∀ (l m : List V), valBs (l ++ m) = valBs l ++ valBs m
  | [], m => by simp [valBs]
  | x :: l, m => by rw [List.cons_append, valBs, valBs, valBs_app l m, List.append_assoc]
theorem valBs_take (l : List V) (k : Nat) (x : V) (h : l[k]? = some x) : valBs (l.take (k + 1)) = valBs (l.take k) ++ valB x := by
  rw [List.take_add_one, h, valBs_app]
  simp [valBs]
theorem valBs_le (l : List V) (k : Nat) : (valBs (l.take k)).length ≤ (valBs l).length := by
  have : valBs l = valBs (l.take k) ++ valBs (l.drop k) := by rw [← valBs_app, List.take_append_drop]
  rw [this]; simp
theorem typeB_eq (k : Int) (l : List T) : typeB (.mk k l) = byteK k :: typeBs l := by rw [typeB]
def colB (c : C) : List UInt8 := textB c.name ++ (typeB c.ty ++ (bitB c.has ++ (if c.has = true then valB c.dflt else [])))
def colsB (l : List C) : List UInt8 := (l.map colB).flatten
theorem colsB_take (l : List C) (k : Nat) (x : C) (h : l[k]? = some x) : colsB (l.take (k + 1)) = colsB (l.take k) ++ colB x := by
  unfold colsB
  rw [List.take_add_one, h]
  simp
def schB (l : List C) : List UInt8 := put l.length ++ colsB l

theorem leB_step : ∀ (k n m : Nat), k < m → (leB n m).take (k + 1) = (leB n m).take k ++ [UInt8.ofNat (n / 256 ^ k % 256)]
  | 0, n, m + 1, _ => by simp [leB]
  | k + 1, n, m + 1, h => by
    rw [leB, List.take_succ_cons, List.take_succ_cons, leB_step k (n / 256) m (by omega), Nat.div_div_eq_div_mul, ← Nat.pow_succ']
    simp
  | _, _, 0, h => absurd h (Nat.not_lt_zero _)
/-! ### Lengths -/
theorem leB_length : ∀ (k n : Nat), (leB n k).length = k
  | 0, _ => rfl
  | k + 1, n => by simp [leB, leB_length k]
theorem byteK_toNat {k : Int} (h0 : 0 ≤ k) (h1 : k < 256) : ((byteK k).toNat : Int) = k := by
  unfold byteK
  simp
  omega
def bnd : Nat → Nat
  | 0 => 1034
  | n + 1 => 1034 + 256 * bnd n
theorem bnd_pos (n : Nat) : 1034 ≤ bnd n := by cases n <;> simp only [bnd] <;> omega
theorem headB_len {k i : Int} {f : Nat} {t : ByteArray} {n : Nat} (hi : inI i) (ht : t.size ≤ 1024) (hn : n ≤ 256) : (headB k i f t n).length ≤ 1034 := by
  have e : t.data.toList.length = t.size := Array.length_toList
  have p1 := put_ten (n := t.size) (by omega)
  have p2 := put_ten (n := n) (by omega)
  have p3 := put_ten (n := zig i) (zig_lt hi.1 (by have := hi.2; omega))
  have b1 : ∀ b, (bitB b).length = 1 := fun b => by cases b <;> rfl
  unfold headB
  split
  · rw [b1]; omega
  split
  · omega
  split
  · rw [leB_length]; omega
  split
  · unfold textB; rw [List.length_append]; omega
  split
  · rw [b1]; omega
  · omega
mutual
theorem valB_len : ∀ (v : V) (d : Nat), chk v d = 0 → v.fits → (valB v).length ≤ bnd (4 - d)
  | .mk k i f t l, d, h, hf => by
    obtain ⟨h1, _, h3, h4, _, h6⟩ := chk_ok h
    have hh := headB_len (k := k) (f := f) (n := l.length) (V.fits_row hf).2.2.1 h3 h4
    rw [valB_eq, List.length_append]
    by_cases hd : d = 4
    · subst hd
      have : l = [] := by
        cases l with
        | nil => rfl
        | cons x r =>
          have := h6 x (List.mem_cons_self ..)
          obtain ⟨k', i', f', t', l'⟩ := x
          have := (chk_ok this).1
          omega
      subst this
      have := bnd_pos (4 - 4)
      simp only [valBs, List.length_nil] at hh ⊢
      omega
    · have hb := valBs_len l (d + 1) h6 hf.2
      obtain ⟨m, hm⟩ : ∃ m, 4 - d = m + 1 := ⟨3 - d, by omega⟩
      have hm2 : 4 - (d + 1) = m := by omega
      rw [hm2] at hb
      rw [hm, bnd]
      have : l.length * bnd m ≤ 256 * bnd m := Nat.mul_le_mul_right _ h4
      omega
theorem valBs_len : ∀ (l : List V) (d : Nat), (∀ x ∈ l, chk x d = 0) → V.fitsL l → (valBs l).length ≤ l.length * bnd (4 - d)
  | [], d, _, _ => by simp [valBs]
  | x :: l, d, h, hf => by
    rw [valBs, List.length_append, List.length_cons, Nat.succ_mul]
    have h1 := valB_len x d (h x (List.mem_cons_self ..)) hf.1
    have h2 := valBs_len l d (fun y hy => h y (List.mem_cons_of_mem _ hy)) hf.2
    omega
end
mutual
theorem typeB_len : ∀ (u : T) (d : Nat), chkT u d = 0 → (typeB u).length ≤ 5 - d
  | .mk k l, d, h => by
    obtain ⟨h1, h2, h3⟩ := chkT_ok h
    rw [typeB_eq, List.length_cons]
    by_cases hn : nestK k = true
    · have h4 := (badK_no h2).2.2.1 hn
      match l, h4, h3 with
      | [u], _, h3 =>
        have h5 : chkT u (d + 1) = 0 := by simpa [chkTs] using h3
        have := typeB_len u (d + 1) h5
        rw [typeBs]
        have hd : d + 1 ≤ 4 := by
          obtain ⟨k', l'⟩ := u
          exact (chkT_ok h5).1
        omega
    · have h4 := (badK_no h2).2.2.2 (by simpa using hn)
      match l, h4 with
      | [], _ => simp only [typeBs, List.length_nil]; omega
end
/-- A column that may be encoded. -/
structure okC (c : C) : Prop where
  name : c.name.size ≤ 16
  ty : chkT c.ty 1 = 0
  dflt : c.has = true → chk c.dflt 1 = 0
  fits : c.dflt.fits
theorem colB_len {c : C} (h : okC c) : (colB c).length ≤ 20000000000 := by
  have e : c.name.data.toList.length = c.name.size := Array.length_toList
  have p1 := put_ten (n := c.name.size) (by have := h.name; omega)
  have h1 := typeB_len _ _ h.ty
  have h2 := h.name
  have h3 : (if c.has = true then valB c.dflt else []).length ≤ 17500000000 := by
    split
    · rename_i hh
      have := valB_len _ _ (h.dflt hh) h.fits
      simp only [bnd] at this
      omega
    · simp
  have b1 : ∀ b, (bitB b).length = 1 := fun b => by cases b <;> rfl
  unfold colB textB
  simp only [List.length_append, b1]
  omega
theorem colsB_len : ∀ (l : List C), (∀ c ∈ l, okC c) → (colsB l).length ≤ l.length * 20000000000
  | [], _ => by simp [colsB]
  | c :: l, h => by
    have h1 := colB_len (h c (List.mem_cons_self ..))
    have h2 := colsB_len l (fun x hx => h x (List.mem_cons_of_mem _ hx))
    unfold colsB at h2 ⊢
    simp only [List.map_cons, List.flatten_cons, List.length_append, List.length_cons]
    omega
theorem colsB_le (l : List C) (k : Nat) : (colsB (l.take k)).length ≤ (colsB l).length := by
  have : colsB l = colsB (l.take k) ++ colsB (l.drop k) := by unfold colsB; rw [← List.flatten_append, ← List.map_append, List.take_append_drop]
  rw [this]; simp
end Go.Proofs.YtknpaooloambdaaDoor
/- Is a text a name? No program. -/
set_option linter.unusedVariables false
set_option linter.unusedSimpArgs false
namespace Go.Proofs.YtknpaooloambdaaDoor
open Go
/-- A small letter. -/
def letC (c : Nat) : Bool := decide (97 ≤ c) && decide (c ≤ 122)
/-- May a sign stand at a place of a name? -/
def okC' (i c : Nat) : Bool := letC c || (decide (i ≠ 0) && ((decide (48 ≤ c) && decide (c ≤ 57)) || decide (c = 95)))
def nameFrom (s : ByteArray) (i : Nat) : Bool := if h : i < s.size then (if okC' i (s.get! i).toNat = true then nameFrom s (i + 1) else false) else true
termination_by s.size - i
def nameB (s : ByteArray) : Bool := decide (0 < s.size) && decide (s.size ≤ 16) && nameFrom s 0
theorem nameFrom_end (s : ByteArray) (i : Nat) (h : ¬ i < s.size) : nameFrom s i = true := by rw [nameFrom]; simp [h]
theorem nameFrom_bad (s : ByteArray) (i : Nat) (h : i < s.size) (h0 : okC' i (s.get! i).toNat = false) : nameFrom s i = false := by rw [nameFrom]; simp [h, h0]
theorem nameFrom_on (s : ByteArray) (i : Nat) (h : i < s.size) (h0 : okC' i (s.get! i).toNat = true) : nameFrom s i = nameFrom s (i + 1) := by rw [nameFrom]; simp [h, h0]
theorem nameB_len {s : ByteArray} (h : nameB s = true) : s.size ≤ 16 := by
  unfold nameB at h
  simp only [Bool.and_eq_true, decide_eq_true_eq] at h
  exact h.1.2
/-- What the decoder says of a sign of a name. -/
theorem name_decode (s : ByteArray) (i : Nat) (h : i < s.size) : (okC' i (s.get! i).toNat = true → Utf8.decode s i = ((s.get! i).toNat, 1)) ∧ okC' i (Utf8.decode s i).1 = okC' i (s.get! i).toNat := by
  have hg : s.get! i = s[i]'h := by
    simp [ByteArray.get!, getElem!_pos, h]
    rfl
  rw [hg]
  by_cases ha : (s[i]'h).toNat < 128
  · rw [decode_ascii s i h ha]
    exact ⟨fun _ => rfl, rfl⟩
  · have hd := (decode_high s i h (by omega)).1
    have e1 : okC' i (s[i]'h).toNat = false := by unfold okC' letC; simp; omega
    have e2 : okC' i (Utf8.decode s i).1 = false := by unfold okC' letC; simp; omega
    rw [e1, e2]
    exact ⟨fun h => by simp at h, rfl⟩
end Go.Proofs.YtknpaooloambdaaDoor
/- Why a schema may not be. No program. -/
set_option linter.unusedVariables false
set_option linter.unusedSimpArgs false
namespace Go.Proofs.YtknpaooloambdaaDoor
open Go
def zeroV : V := .mk 0 0 0 ⟨#[]⟩ []
def twice (pre : List C) (n : ByteArray) : Bool := pre.any fun y => decide (y.name = n)
def dfltE (c : C) : Int := if c.has = true then (if chk c.dflt 1 = 0 then (if ofV c.dflt c.ty = true then 0 else 80) else chk c.dflt 1) else (if sameV c.dflt zeroV = true then 0 else 80)
def colE (pre : List C) (c : C) : Int :=
  if nameB c.name = false then 70 else if twice pre c.name = true then 71 else if chkT c.ty 1 = 0 then dfltE c else chkT c.ty 1
def colsE : List C → List C → Int
  | _, [] => 0
  | pre, c :: l => if colE pre c = 0 then colsE (pre ++ [c]) l else colE pre c
def chkS (l : List C) : Int := if l.length = 0 then 4 else if 16 < l.length then 3 else if colsE [] l = 0 then (if 1024 < (schB l).length then 2 else 0) else colsE [] l
theorem colsE_zero : ∀ (l pre : List C), (∀ (i : Nat) x, l[i]? = some x → colE (pre ++ l.take i) x = 0) → colsE pre l = 0
  | [], pre, _ => by rw [colsE]
  | c :: l, pre, h => by
    rw [colsE, if_pos (by simpa using h 0 c rfl)]
    refine colsE_zero l _ fun i x hx => ?_
    have := h (i + 1) x (by simpa using hx)
    simpa using this
theorem colsE_at : ∀ (l pre : List C) (k : Nat) (x : C), (∀ (i : Nat) x, i < k → l[i]? = some x → colE (pre ++ l.take i) x = 0) → l[k]? = some x → colE (pre ++ l.take k) x ≠ 0 → colsE pre l = colE (pre ++ l.take k) x
  | [], pre, k, x, _, h, _ => by simp at h
  | c :: l, pre, 0, x, _, h, hn => by
    obtain rfl : c = x := by simpa using h
    rw [colsE, if_neg (by simpa using hn)]
    simp
  | c :: l, pre, k + 1, x, hz, h, hn => by
    rw [colsE, if_pos (by simpa using hz 0 c (by omega) rfl)]
    have := colsE_at l (pre ++ [c]) k x (fun i z hi hz' => by
      have := hz (i + 1) z (by omega) (by simpa using hz')
      simpa using this) (by simpa using h) (by simpa using hn)
    simpa using this
theorem colsE_all : ∀ (l pre : List C), colsE pre l = 0 → ∀ (i : Nat) x, l[i]? = some x → colE (pre ++ l.take i) x = 0
  | c :: l, pre, h, i, x, hx => by
    rw [colsE] at h
    split at h
    · rename_i h0
      cases i with
      | zero =>
        obtain rfl : c = x := by simpa using hx
        simpa using h0
      | succ i =>
        have := colsE_all l _ h i x (by simpa using hx)
        simpa using this
    · rename_i h0; exact absurd h h0
  | [], _, _, _, _, hx => by simp at hx
theorem colE_ok {pre : List C} {c : C} (h : colE pre c = 0) : nameB c.name = true ∧ twice pre c.name = false ∧ chkT c.ty 1 = 0 ∧ dfltE c = 0 := by
  unfold colE at h
  split at h
  · cases h
  split at h
  · cases h
  split at h
  · rename_i h1 h2 h3
    exact ⟨by simpa using h1, by simpa using h2, h3, h⟩
  · rename_i h3; exact absurd h h3
theorem dfltE_has {c : C} (h : dfltE c = 0) (hh : c.has = true) : chk c.dflt 1 = 0 ∧ ofV c.dflt c.ty = true := by
  unfold dfltE at h
  rw [if_pos hh] at h
  split at h
  · rename_i h1
    split at h
    · rename_i h2; exact ⟨h1, h2⟩
    · cases h
  · rename_i h1; exact absurd h h1
/-- Numbers of a column are a program's. -/
def C.fits (c : C) : Prop := c.dflt.fits ∧ c.name.size ≤ 140737488351232 ∧ inI c.ty.kind
theorem okC_of {pre : List C} {c : C} (h : colE pre c = 0) (hf : c.dflt.fits) : okC c := by
  obtain ⟨h1, _, h3, h4⟩ := colE_ok h
  exact ⟨nameB_len h1, h3, fun hh => (dfltE_has h4 hh).1, hf⟩
theorem twice_iff {pre : List C} {n : ByteArray} : twice pre n = true ↔ ∃ (i : Nat) (y : C), pre[i]? = some y ∧ y.name = n := by
  unfold twice
  rw [List.any_eq_true]
  constructor
  · rintro ⟨y, hy, h⟩
    obtain ⟨i, hi⟩ := List.getElem?_of_mem hy
    exact ⟨i, y, hi, by simpa using h⟩
  · rintro ⟨i, y, hi, h⟩
    exact ⟨y, List.mem_of_getElem? hi, by simpa using h⟩
end Go.Proofs.YtknpaooloambdaaDoor
