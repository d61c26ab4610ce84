/- Merged: ValPure, FltPure. -/
import Derived.Test.YtjodibncpbjegaaDoorZ2
import Derived.WalkKit
import Derived.WalkLawsBesides
import GoSem.Core.Float
import GoSem.Extern.MathFloor
/- Values as plain trees: what it is to be one, to be fixed, to be the same; no program. -/
set_option linter.unusedVariables false
namespace Go.Proofs.YtjodibncpbjegaaDoor
open Go

/-- A float's bits with the one NaN. -/
def isNan (b : Nat) : Bool := FloatKind.f64.format.order b b != some .eq
def nanB : Nat := 9221120237041090560
def fixB (b : Nat) : Nat := if isNan b then nanB else b
theorem isNan_nan : isNan nanB = true := by decide +kernel
theorem fixB_fixB (b : Nat) : fixB (fixB b) = fixB b := by
  unfold fixB
  by_cases h : isNan b = true
  · simp [h, isNan_nan]
  · simp [h]
theorem fixB_zero : fixB 0 = 0 := by decide +kernel
theorem isNan_fixB (b : Nat) : isNan (fixB b) = isNan b := by
  unfold fixB
  by_cases h : isNan b = true
  · simp [h, isNan_nan]
  · simp [h]

/-- A value: its kind, number, float's bits, text, items. -/
inductive V where
  | mk (kind int : Int) (float : Nat) (text : ByteArray) (items : List V)
def V.kind : V → Int | .mk k _ _ _ _ => k
def V.int : V → Int | .mk _ i _ _ _ => i
def V.float : V → Nat | .mk _ _ f _ _ => f
def V.text : V → ByteArray | .mk _ _ _ t _ => t
def V.items : V → List V | .mk _ _ _ _ l => l
@[simp] theorem V.kind_mk (k i : Int) (f : Nat) (t : ByteArray) (l : List V) : (V.mk k i f t l).kind = k := rfl
@[simp] theorem V.int_mk (k i : Int) (f : Nat) (t : ByteArray) (l : List V) : (V.mk k i f t l).int = i := rfl
@[simp] theorem V.float_mk (k i : Int) (f : Nat) (t : ByteArray) (l : List V) : (V.mk k i f t l).float = f := rfl
@[simp] theorem V.text_mk (k i : Int) (f : Nat) (t : ByteArray) (l : List V) : (V.mk k i f t l).text = t := rfl
@[simp] theorem V.items_mk (k i : Int) (f : Nat) (t : ByteArray) (l : List V) : (V.mk k i f t l).items = l := rfl

/-- Are a value's fields its kind's? -/
def ownP (v : V) : Prop :=
  (v.kind = 1 ∧ (v.int = 0 ∨ v.int = 1) ∧ fixB v.float = 0 ∧ v.text.toList = [] ∧ v.items.length = 0) ∨
  (v.kind = 2 ∧ fixB v.float = 0 ∧ v.text.toList = [] ∧ v.items.length = 0) ∨
  (v.kind = 3 ∧ v.int = 0 ∧ v.text.toList = [] ∧ v.items.length = 0) ∨
  ((v.kind = 4 ∨ v.kind = 5) ∧ v.int = 0 ∧ fixB v.float = 0 ∧ v.items.length = 0) ∨
  (v.kind = 6 ∧ v.int = 0 ∧ fixB v.float = 0 ∧ v.text.toList = [] ∧ v.items.length ≤ 1) ∨
  (v.kind = 7 ∧ v.int = 0 ∧ fixB v.float = 0 ∧ v.text.toList = [])
instance (v : V) : Decidable (ownP v) := by unfold ownP; infer_instance

/-! ### Sizes, for inductions -/
mutual
def V.rank : V → Nat
  | .mk _ _ _ _ l => V.ranks l + 1
def V.ranks : List V → Nat
  | [] => 0
  | x :: l => V.rank x + V.ranks l + 1
end
theorem V.rank_eq (v : V) : v.rank = V.ranks v.items + 1 := by cases v; rfl
theorem V.rank_lt {l : List V} {x : V} (h : x ∈ l) : x.rank < V.ranks l := by
  induction l with
  | nil => cases h
  | cons y l ih =>
    simp only [V.ranks]
    cases List.mem_cons.1 h with
    | inl e => subst e; omega
    | inr e => have := ih e; omega

/-! ### Being the same -/
mutual
def sameV : V → V → Bool
  | .mk k i f t l, .mk k' i' f' t' l' => decide (k = k') && decide (i = i') && decide (fixB f = fixB f') && decide (t = t') && sameL l l'
def sameL : List V → List V → Bool
  | [], [] => true
  | x :: l, y :: m => sameV x y && sameL l m
  | [], _ :: _ => false
  | _ :: _, [] => false
end
theorem sameV_eq (a b : V) : sameV a b = (decide (a.kind = b.kind) && decide (a.int = b.int) && decide (fixB a.float = fixB b.float) && decide (a.text = b.text) && sameL a.items b.items) := by
  cases a; cases b; rw [sameV]; rfl
theorem sameL_length : ∀ (l m : List V), sameL l m = true → l.length = m.length
  | [], [], _ => rfl
  | x :: l, y :: m, h => by
    simp only [sameL, Bool.and_eq_true] at h
    simp [sameL_length l m h.2]
  | [], _ :: _, h => by simp [sameL] at h
  | _ :: _, [], h => by simp [sameL] at h
/-- index by index -/
theorem sameL_of : ∀ (l m : List V), l.length = m.length → (∀ (i : Nat) (x y : V), l[i]? = some x → m[i]? = some y → sameV x y = true) → sameL l m = true
  | [], [], _, _ => rfl
  | x :: l, y :: m, hl, h => by
    simp only [sameL, Bool.and_eq_true]
    exact ⟨h 0 x y rfl rfl, sameL_of l m (by simpa using hl) (fun i a b ha hb => h (i + 1) a b (by simpa using ha) (by simpa using hb))⟩
  | [], _ :: _, hl, _ => by simp at hl
  | _ :: _, [], hl, _ => by simp at hl
theorem sameL_at : ∀ (l m : List V) (i : Nat) (x y : V), sameL l m = true → l[i]? = some x → m[i]? = some y → sameV x y = true
  | [], [], i, x, y, _, hx, _ => by simp at hx
  | a :: l, b :: m, i, x, y, h, hx, hy => by
    simp only [sameL, Bool.and_eq_true] at h
    cases i with
    | zero =>
      simp at hx hy
      subst hx hy
      exact h.1
    | succ i => exact sameL_at l m i x y h.2 (by simpa using hx) (by simpa using hy)
  | [], _ :: _, _, _, _, h, _, _ => by simp [sameL] at h
  | _ :: _, [], _, _, _, h, _, _ => by simp [sameL] at h
end Go.Proofs.YtjodibncpbjegaaDoor
/- Floats and whole numbers: what a word stands for, and the word of a whole number. No program. -/
set_option linter.unusedVariables false
set_option exponentiation.threshold 2000
namespace Go.Proofs.YtjodibncpbjegaaDoor
open Go Ieee
/-- A number's size in units of the least place. -/
def sgn (s : Bool) (n : Nat) : Int := if s then -(n : Int) else n
theorem signed_eq (s : Bool) (m k : Nat) : signed s m k = sgn s (m * 2 ^ k) := by
  unfold signed sgn
  rw [Nat.shiftLeft_eq]
theorem compare_mul (a b : Int) (c : Nat) (h : 0 < c) : compare (a * c) (b * c) = compare a b := by
  have hc : (0 : Int) < c := by omega
  rcases Int.lt_trichotomy a b with hab | rfl | hab
  · rw [Int.compare_eq_lt.2 hab, Int.compare_eq_lt.2 (Int.mul_lt_mul_of_pos_right hab hc)]
  · rw [Int.compare_eq_eq.2 rfl, Int.compare_eq_eq.2 rfl]
  · rw [Int.compare_eq_gt.2 hab, Int.compare_eq_gt.2 (Int.mul_lt_mul_of_pos_right hab hc)]
theorem sgn_mul (s : Bool) (n k : Nat) : sgn s n * (k : Int) = sgn s (n * k) := by
  unfold sgn
  cases s <;> simp [Int.neg_mul]
theorem order_num {s t : Bool} {m n : Nat} {i j : Int} {e f : Nat} (hi : i = (e : Int) - 1074) (hj : j = (f : Int) - 1074) : Datum.order (.number s m i) (.number t n j) = some (compare (sgn s (m * 2 ^ e)) (sgn t (n * 2 ^ f))) := by
  subst hi hj
  simp only [Datum.order, signed_eq]
  congr 1
  obtain ⟨c, hc⟩ : ∃ c : Nat, min ((e : Int) - 1074) ((f : Int) - 1074) = (c : Int) - 1074 := ⟨min e f, by omega⟩
  rw [hc]
  have h1 : ((e : Int) - 1074 - ((c : Int) - 1074)).toNat = e - c := by omega
  have h2 : ((f : Int) - 1074 - ((c : Int) - 1074)).toNat = f - c := by omega
  have h3 : c ≤ e := by omega
  have h4 : c ≤ f := by omega
  rw [h1, h2, ← compare_mul _ _ (2 ^ c) (Nat.pow_pos (by decide)), sgn_mul, sgn_mul, Nat.mul_assoc, Nat.mul_assoc, ← Nat.pow_add, ← Nat.pow_add, Nat.sub_add_cancel h3, Nat.sub_add_cancel h4]
/-- A word of a finite number: its sign, size and place. -/
structure Num (b : Nat) (s : Bool) (m e : Nat) : Prop where
  read : Ieee.double.read b = .number s m ((e : Int) - 1074)
  canon : (m < 4503599627370496 ∧ e = 0) ∨ (4503599627370496 ≤ m ∧ m < 9007199254740992)
  top : e ≤ 2045
  rung : b % 9223372036854775808 = e * 4503599627370496 + m
  sign : s = (b / 9223372036854775808 % 2 == 1)
theorem dbl_sign : Ieee.double.signWeight = 9223372036854775808 := by decide
theorem dbl_binade : Ieee.double.binade = 4503599627370496 := by decide
theorem dbl_inf : Ieee.double.infRung = 9218868437227405312 := by decide
theorem dbl_least : Ieee.double.leastPlace = -1074 := by decide
theorem read_eq (b : Nat) : Ieee.double.read b = if b % 9223372036854775808 < 4503599627370496 then .number (b / 9223372036854775808 % 2 == 1) (b % 9223372036854775808) (-1074)
    else if b % 9223372036854775808 < 9218868437227405312 then .number (b / 9223372036854775808 % 2 == 1) (4503599627370496 + b % 9223372036854775808 % 4503599627370496) (-1074 + (b % 9223372036854775808 / 4503599627370496 - 1 : Nat))
    else if b % 9223372036854775808 = 9218868437227405312 then .infinity (b / 9223372036854775808 % 2 == 1)
    else .nan (b / 9223372036854775808 % 2 == 1) (b % 9223372036854775808 - 9218868437227405312) := by
  unfold Format.read
  rw [dbl_sign, dbl_binade, dbl_inf, dbl_least]
theorem num_of {b : Nat} (h : b % 9223372036854775808 < 9218868437227405312) : ∃ s m e, Num b s m e := by
  have hr := read_eq b
  by_cases h1 : b % 9223372036854775808 < 4503599627370496
  · rw [if_pos h1] at hr
    exact ⟨_, _, 0, hr, .inl ⟨h1, rfl⟩, by omega, by omega, rfl⟩
  · rw [if_neg h1, if_pos h] at hr
    refine ⟨_, _, b % 9223372036854775808 / 4503599627370496 - 1, by rw [hr]; congr 1; try omega, .inr ⟨by omega, by omega⟩, by omega, by omega, rfl⟩
theorem num_not {b : Nat} (h : ¬ b % 9223372036854775808 < 9218868437227405312) : (∃ s, Ieee.double.read b = .infinity s) ∨ (∃ s t, Ieee.double.read b = .nan s t) := by
  have hr := read_eq b
  rw [if_neg (by omega), if_neg h] at hr
  split at hr
  · exact .inl ⟨_, hr⟩
  · exact .inr ⟨_, _, hr⟩
/-- Cut where nothing is left over. -/
theorem cut_exact (way : Toward) (s : Bool) (r d : Nat) : way.cut s (r * 2 ^ d) d = r := by
  have hp : 0 < 2 ^ d := Nat.pow_pos (by decide)
  by_cases h0 : r = 0
  · subst h0
    unfold Toward.cut
    simp only [Nat.zero_mul, Nat.zero_div, Nat.zero_mod]
    have hg : 0 < 1 <<< min d (Nat.log2 0 + 2) := by rw [Nat.shiftLeft_eq]; exact Nat.mul_pos (by decide) (Nat.pow_pos (by decide))
    cases way <;> simp
  · have hl : d ≤ (r * 2 ^ d).log2 := by
      rw [Nat.le_log2 (Nat.ne_of_gt (Nat.mul_pos (by omega) hp))]
      exact Nat.le_mul_of_pos_left _ (by omega)
    unfold Toward.cut
    have hm : min d ((r * 2 ^ d).log2 + 2) = d := by omega
    rw [hm, Nat.shiftLeft_eq, Nat.one_mul]
    dsimp only
    rw [Nat.mul_div_cancel _ hp, Nat.mul_mod_left]
    cases way <;> simp
theorem cut_low (way : Toward) (s : Bool) (n d : Nat) : way.cut s n d = n / 2 ^ (min d (n.log2 + 2)) ∨ way.cut s n d = n / 2 ^ (min d (n.log2 + 2)) + 1 := by
  obtain ⟨more, h⟩ : ∃ more : Bool, way.cut s n d = n / (1 <<< min d (n.log2 + 2)) + more.toNat := ⟨_, rfl⟩
  rw [Nat.shiftLeft_eq, Nat.one_mul] at h
  cases more
  · exact .inl h
  · exact .inr h
/-- What is kept of a number. -/
def kept (M : Nat) : Nat := Toward.even.cut false (M * 2 ^ (52 - M.log2)) (M.log2 - 52)
theorem cut_even (s : Bool) (n d : Nat) : Toward.even.cut s n d = Toward.even.cut false n d := rfl
theorem kept_low {M : Nat} (h0 : M ≠ 0) (hL : M.log2 ≤ 52) : kept M = M * 2 ^ (52 - M.log2) := by
  unfold kept
  have := cut_exact .even false (M * 2 ^ (52 - M.log2)) 0
  rw [Nat.pow_zero, Nat.mul_one] at this
  rw [show M.log2 - 52 = 0 by omega]
  exact this
theorem kept_high {M : Nat} (hL : 52 ≤ M.log2) : kept M = M / 2 ^ (M.log2 - 52) ∨ kept M = M / 2 ^ (M.log2 - 52) + 1 := by
  unfold kept
  have h1 : 52 - M.log2 = 0 := by omega
  rw [h1, Nat.pow_zero, Nat.mul_one]
  have := cut_low .even false M (M.log2 - 52)
  rw [show min (M.log2 - 52) (M.log2 + 2) = M.log2 - 52 by omega] at this
  exact this
theorem kept_bounds {M : Nat} (h0 : M ≠ 0) : 4503599627370496 ≤ kept M ∧ kept M ≤ 9007199254740992 := by
  have h1 : 2 ^ M.log2 ≤ M := Nat.log2_self_le h0
  have h2 : M < 2 ^ (M.log2 + 1) := Nat.lt_log2_self
  by_cases hL : M.log2 ≤ 52
  · rw [kept_low h0 hL]
    have hp : 0 < 2 ^ (52 - M.log2) := Nat.pow_pos (by decide)
    have a1 := Nat.mul_le_mul_right (2 ^ (52 - M.log2)) h1
    have a2 := Nat.mul_lt_mul_of_pos_right h2 hp
    rw [← Nat.pow_add] at a1 a2
    rw [show M.log2 + (52 - M.log2) = 52 by omega] at a1
    rw [show M.log2 + 1 + (52 - M.log2) = 53 by omega] at a2
    omega
  · have hp : 0 < 2 ^ (M.log2 - 52) := Nat.pow_pos (by decide)
    have b1 : 4503599627370496 ≤ M / 2 ^ (M.log2 - 52) := by
      rw [Nat.le_div_iff_mul_le hp, show (4503599627370496 : Nat) = 2 ^ 52 by decide, ← Nat.pow_add, show 52 + (M.log2 - 52) = M.log2 by omega]
      exact h1
    have b2 : M / 2 ^ (M.log2 - 52) < 9007199254740992 := by
      rw [Nat.div_lt_iff_lt_mul hp, show (9007199254740992 : Nat) = 2 ^ 53 by decide, ← Nat.pow_add, show 53 + (M.log2 - 52) = M.log2 + 1 by omega]
      exact h2
    rcases kept_high (M := M) (by omega) with h | h <;> omega
theorem cut_top (s : Bool) {M : Nat} (h0 : M ≠ 0) : 4503599627370496 ≤ Toward.even.cut s (M * 2 ^ (52 - M.log2)) (M.log2 - 52) ∧ Toward.even.cut s (M * 2 ^ (52 - M.log2)) (M.log2 - 52) ≤ 9007199254740992 := kept_bounds h0
/-- The nearest word, of a number that is not nought and that the format's top does not bound. -/
theorem nearest_eq {s : Bool} {M : Nat} (h0 : M ≠ 0) (hL : M.log2 ≤ 63) : Ieee.double.nearest s M 0 = Ieee.double.word s ((M.log2 + 1022) * 4503599627370496 + Toward.even.cut s (M * 2 ^ (52 - M.log2)) (M.log2 - 52)) := by
  unfold Format.nearest
  rw [if_neg h0, dbl_least, dbl_binade, dbl_inf]
  have h1 : max (0 + (M.log2 : Int) - (Ieee.double.fractionBits : Nat)) (-1074) = (M.log2 : Int) - 52 := by
    rw [show Ieee.double.fractionBits = 52 from rfl]; omega
  dsimp only
  rw [h1, Nat.shiftLeft_eq]
  have h2 : (0 - ((M.log2 : Int) - 52)).toNat = 52 - M.log2 := by omega
  have h3 : ((M.log2 : Int) - 52 - 0).toNat = M.log2 - 52 := by omega
  have h4 : ((M.log2 : Int) - 52 - -1074).toNat = M.log2 + 1022 := by omega
  rw [h2, h3, h4]
  congr 1
  refine Nat.min_eq_left ?_
  obtain ⟨_, h⟩ := cut_top s h0
  omega
/-- The number that the nearest word stands for. -/
def rnd (M : Nat) : Nat := if M < 9007199254740992 then M else kept M * 2 ^ (M.log2 - 52)
theorem log2_lt {M : Nat} (h : M.log2 ≤ 52) : M < 9007199254740992 := by
  have h2 : M < 2 ^ (M.log2 + 1) := Nat.lt_log2_self
  have : 2 ^ (M.log2 + 1) ≤ 2 ^ 53 := Nat.pow_le_pow_right (by decide) (by omega)
  omega
theorem log2_ge {M : Nat} (h : ¬ M.log2 ≤ 52) : ¬ M < 9007199254740992 := by
  have h0 : M ≠ 0 := by rintro rfl; simp at h
  have h2 : 2 ^ M.log2 ≤ M := Nat.log2_self_le h0
  have : 2 ^ 53 ≤ 2 ^ M.log2 := Nat.pow_le_pow_right (by decide) (by omega)
  omega
theorem word_rung (s : Bool) {r : Nat} (h : r < 9223372036854775808) : Ieee.double.word s r % 9223372036854775808 = r ∧ (Ieee.double.word s r / 9223372036854775808 % 2 == 1) = s := by
  unfold Format.word
  rw [dbl_sign]
  cases s
  · simp only [Bool.false_eq_true, if_false]
    exact ⟨by omega, by simp; omega⟩
  · simp only [if_true]
    exact ⟨by omega, by simp; omega⟩
theorem num_nearest (s : Bool) {M : Nat} (hL : M.log2 ≤ 63) : ∃ m e, Num (Ieee.double.nearest s M 0) s m e ∧ m * 2 ^ e = rnd M * 2 ^ 1074 := by
  by_cases h0 : M = 0
  · subst h0
    have hn : Ieee.double.nearest s 0 0 = Ieee.double.word s 0 := by unfold Format.nearest; rw [if_pos rfl]
    rw [hn]
    obtain ⟨h1, h2⟩ := word_rung s (r := 0) (by decide)
    obtain ⟨s', m, e, hN⟩ := num_of (b := Ieee.double.word s 0) (by rw [h1]; decide)
    have hr := hN.rung
    have hc := hN.canon
    rw [h1] at hr
    obtain ⟨rfl, rfl⟩ : m = 0 ∧ e = 0 := by omega
    have hs : s' = s := by rw [hN.sign, h2]
    subst hs
    exact ⟨0, 0, hN, by simp [rnd]⟩
  · have hn := nearest_eq (s := s) h0 hL
    rw [cut_even] at hn
    change _ = Ieee.double.word s (_ + kept M) at hn
    obtain ⟨k1, k2⟩ := kept_bounds h0
    obtain ⟨h1, h2⟩ := word_rung s (r := (M.log2 + 1022) * 4503599627370496 + kept M) (by omega)
    rw [← hn] at h1 h2
    obtain ⟨s', m, e, hN⟩ := num_of (b := Ieee.double.nearest s M 0) (by rw [h1]; omega)
    have hs : s' = s := by rw [hN.sign, h2]
    subst hs
    have hr := hN.rung
    have hc := hN.canon
    rw [h1] at hr
    refine ⟨m, e, hN, ?_⟩
    have hv : m * 2 ^ e = kept M * 2 ^ (M.log2 + 1022) := by
      by_cases hk : kept M < 9007199254740992
      · obtain ⟨rfl, rfl⟩ : m = kept M ∧ e = M.log2 + 1022 := by omega
        rfl
      · obtain ⟨rfl, rfl⟩ : m = 4503599627370496 ∧ e = M.log2 + 1023 := by omega
        rw [show kept M = 9007199254740992 by omega, show M.log2 + 1023 = (M.log2 + 1022) + 1 by omega, Nat.pow_succ]
        omega
    rw [hv]
    by_cases hl : M.log2 ≤ 52
    · rw [rnd, if_pos (log2_lt hl), kept_low h0 hl, Nat.mul_assoc, ← Nat.pow_add, show 52 - M.log2 + (M.log2 + 1022) = 1074 by omega]
    · rw [rnd, if_neg (log2_ge hl), Nat.mul_assoc, ← Nat.pow_add, show M.log2 - 52 + 1074 = M.log2 + 1022 by omega]
theorem rnd_exact {a k : Nat} (ha : a < 9007199254740992) : rnd (a * 2 ^ k) = a * 2 ^ k := by
  unfold rnd
  split
  · rfl
  · rename_i h
    have h0 : a * 2 ^ k ≠ 0 := by omega
    have hL : ¬ (a * 2 ^ k).log2 ≤ 52 := fun hl => h (log2_lt hl)
    have hlt : a * 2 ^ k < 2 ^ (53 + k) := by
      rw [Nat.pow_add]
      exact Nat.mul_lt_mul_of_pos_right (by omega) (Nat.pow_pos (by decide))
    have hl2 : (a * 2 ^ k).log2 < 53 + k := (Nat.log2_lt h0).2 hlt
    obtain ⟨d, hd⟩ : ∃ d, d = (a * 2 ^ k).log2 - 52 := ⟨_, rfl⟩
    have hk : kept (a * 2 ^ k) = a * 2 ^ (k - d) := by
      unfold kept
      rw [show 52 - (a * 2 ^ k).log2 = 0 by omega, Nat.pow_zero, Nat.mul_one, ← hd]
      have e1 : a * 2 ^ k = a * 2 ^ (k - d) * 2 ^ d := by rw [Nat.mul_assoc, ← Nat.pow_add, Nat.sub_add_cancel (by omega)]
      rw [e1]
      exact cut_exact .even false _ _
    rw [hk, ← hd, Nat.mul_assoc, ← Nat.pow_add, Nat.sub_add_cancel (by omega)]
theorem rnd_small {n : Nat} (h : n ≤ 9007199254740992) : rnd n = n := by
  by_cases h1 : n < 9007199254740992
  · rw [rnd, if_pos h1]
  · have e : n = 1 * 2 ^ 53 := by omega
    rw [e]
    exact rnd_exact (by decide)
/-- A unit, in least places. -/
def one : Nat := 2 ^ 1074
theorem one_pos : 0 < one := Nat.pow_pos (by decide)
theorem one_split {e : Nat} (h : e ≤ 1074) : one = 2 ^ (1074 - e) * 2 ^ e := by unfold one; rw [← Nat.pow_add, Nat.sub_add_cancel h]
/-- A number that is whole stays as it is. -/
theorem integral_whole {s : Bool} {m e R : Nat} (h : m * 2 ^ e = R * one) (way : Toward) : Datum.integral way (.number s m ((e : Int) - 1074)) = .number s R 0 := by
  show Datum.number s (way.cut s (m <<< ((e : Int) - 1074).toNat) (-((e : Int) - 1074)).toNat) 0 = _
  congr 1
  rw [Nat.shiftLeft_eq]
  by_cases he : 1074 ≤ e
  · have h1 : ((e : Int) - 1074).toNat = e - 1074 := by omega
    have h2 : (-((e : Int) - 1074)).toNat = 0 := by omega
    rw [h1, h2]
    have hR : m * 2 ^ (e - 1074) = R := by
      refine Nat.eq_of_mul_eq_mul_right one_pos ?_
      rw [← h, one, Nat.mul_assoc, ← Nat.pow_add, Nat.sub_add_cancel he]
    have := cut_exact way s R 0
    rw [Nat.pow_zero, Nat.mul_one] at this
    rw [hR, this]
  · have h1 : ((e : Int) - 1074).toNat = 0 := by omega
    have h2 : (-((e : Int) - 1074)).toNat = 1074 - e := by omega
    rw [h1, h2, Nat.pow_zero, Nat.mul_one]
    have hR : m = R * 2 ^ (1074 - e) := by
      refine Nat.eq_of_mul_eq_mul_right (Nat.pow_pos (n := e) (by decide : 0 < 2)) ?_
      rw [h, one_split (by omega : e ≤ 1074), Nat.mul_assoc]
    rw [hR]
    exact cut_exact way s R _
/-- Of a number that is not whole a small one is left. -/
theorem integral_part {s : Bool} {m e : Nat} (hm : m < 9007199254740992) (h : ¬ one ∣ m * 2 ^ e) (way : Toward) : ∃ n, n ≤ 9007199254740992 ∧ Datum.integral way (.number s m ((e : Int) - 1074)) = .number s n 0 := by
  by_cases he : 1074 ≤ e
  · refine absurd ⟨m * 2 ^ (e - 1074), ?_⟩ h
    rw [one, Nat.mul_comm (2 ^ 1074), Nat.mul_assoc, ← Nat.pow_add, Nat.sub_add_cancel he]
  · refine ⟨_, ?_, rfl⟩
    have h1 : ((e : Int) - 1074).toNat = 0 := by omega
    rw [h1, Nat.shiftLeft_eq, Nat.pow_zero, Nat.mul_one]
    generalize (-((e : Int) - 1074)).toNat = d
    have h2 : m / 2 ^ min d (m.log2 + 2) ≤ m := Nat.div_le_self _ _
    rcases cut_low way s m d with h | h <;> omega
theorem sgn_inj {s : Bool} {a b : Nat} (h : sgn s a = sgn s b) : a = b := by
  unfold sgn at h
  cases s <;> simp at h <;> omega
theorem write_num (s : Bool) (n : Nat) : Ieee.double.write (.number s n 0) = Ieee.double.nearest s n 0 := rfl
theorem log2_le63 {n : Nat} (h : n ≤ 9223372036854775808) : n.log2 ≤ 63 := by
  by_cases h0 : n = 0
  · subst h0; simp
  · have : n.log2 < 64 := (Nat.log2_lt h0).2 (by omega)
    omega
theorem Num.small {b m e : Nat} {s : Bool} (h : Num b s m e) : m < 9007199254740992 := by have := h.canon; omega
theorem Num.rounds {b m e R : Nat} {s : Bool} (h : Num b s m e) (hR : m * 2 ^ e = R * one) : rnd R = R := by
  by_cases he : 1074 ≤ e
  · have e1 : R = m * 2 ^ (e - 1074) := by
      refine Nat.eq_of_mul_eq_mul_right one_pos ?_
      rw [← hR, one, Nat.mul_assoc, ← Nat.pow_add, Nat.sub_add_cancel he]
    rw [e1]
    exact rnd_exact h.small
  · refine rnd_small ?_
    have e1 : m = R * 2 ^ (1074 - e) := by
      refine Nat.eq_of_mul_eq_mul_right (Nat.pow_pos (n := e) (by decide : 0 < 2)) ?_
      rw [hR, one_split (by omega : e ≤ 1074), Nat.mul_assoc]
    have : R ≤ m := by rw [e1]; exact Nat.le_mul_of_pos_right _ (Nat.pow_pos (by decide))
    have := h.small
    omega
/-- A number made whole is the number just if it is whole. -/
theorem cutN_same {b m e : Nat} {s : Bool} (h : Num b s m e) (hr : m * 2 ^ e ≤ 9223372036854775808 * one) (way : Toward) :
    ∃ w m' e', Ieee.double.write (Datum.integral way (Ieee.double.read b)) = w ∧ Num w s m' e' ∧ (m' * 2 ^ e' = m * 2 ^ e ↔ one ∣ m * 2 ^ e) := by
  by_cases hd : one ∣ m * 2 ^ e
  · obtain ⟨R, hR⟩ := hd
    rw [Nat.mul_comm one R] at hR
    have hR2 : R ≤ 9223372036854775808 := Nat.le_of_mul_le_mul_right (by rw [← hR]; exact hr) one_pos
    obtain ⟨m', e', h1, h2⟩ := num_nearest s (log2_le63 hR2)
    refine ⟨_, m', e', rfl, ?_, ?_⟩
    · rw [h.read, integral_whole hR, write_num]; exact h1
    · rw [h2, h.rounds hR, hR]
      exact ⟨fun _ => ⟨R, Nat.mul_comm _ _⟩, fun _ => rfl⟩
  · obtain ⟨n, hn, hi⟩ := integral_part (s := s) h.small hd way
    obtain ⟨m', e', h1, h2⟩ := num_nearest s (M := n) (log2_le63 (by omega))
    refine ⟨_, m', e', rfl, ?_, ?_⟩
    · rw [h.read, hi, write_num]; exact h1
    · rw [h2, rnd_small hn]
      exact ⟨fun hh => ⟨n, by rw [← hh, one, Nat.mul_comm]⟩, fun hh => absurd hh hd⟩
theorem order_nums {b c m n e f : Nat} {s t : Bool} (h : Num b s m e) (h' : Num c t n f) : Ieee.double.order b c = some (compare (sgn s (m * 2 ^ e)) (sgn t (n * 2 ^ f))) := by
  unfold Format.order
  rw [h.read, h'.read]
  exact order_num rfl rfl
theorem eq_nums {b c m n e f : Nat} {s : Bool} (h : Num b s m e) (h' : Num c s n f) : (Ieee.double.order b c == some .eq) = decide (m * 2 ^ e = n * 2 ^ f) := by
  rw [order_nums h h', Bool.eq_iff_iff, decide_eq_true_eq, beq_iff_eq]
  constructor
  · intro hh
    injection hh with hh
    exact sgn_inj (Int.compare_eq_eq.1 hh)
  · intro hh
    rw [hh, Int.compare_eq_eq.2 rfl]
/-- 2 ^ 63 and its opposite. -/
theorem num_top : Num 4890909195324358656 false 4503599627370496 1085 := ⟨by decide +kernel, by decide, by decide, by decide, by decide⟩
theorem num_bot : Num 14114281232179134464 true 4503599627370496 1085 := ⟨by decide +kernel, by decide, by decide, by decide, by decide⟩
def big : Nat := 9223372036854775808 * one
theorem top_size : 4503599627370496 * 2 ^ 1085 = big := by
  rw [show 1085 = 11 + 1074 by decide, Nat.pow_add, big, one, ← Nat.mul_assoc]
/-- Does a number lie where the whole numbers of 64 bits do? -/
def inR (b : Nat) : Bool := (Ieee.double.order b 14114281232179134464 == some .gt || Ieee.double.order b 14114281232179134464 == some .eq) && Ieee.double.order b 4890909195324358656 == some .lt
theorem inR_num {b m e : Nat} {s : Bool} (h : Num b s m e) : inR b = decide (-(big : Int) ≤ sgn s (m * 2 ^ e) ∧ sgn s (m * 2 ^ e) < big) := by
  unfold inR
  rw [order_nums h num_top, order_nums h num_bot, top_size]
  have hb : sgn true big = -(big : Int) := rfl
  have ht : sgn false big = (big : Int) := rfl
  rw [hb, ht]
  generalize sgn s (m * 2 ^ e) = x
  generalize (big : Int) = y
  have h1 : (some (compare x (-y)) == some Ordering.gt) = decide (-y < x) := by
    rw [Bool.eq_iff_iff, decide_eq_true_eq, beq_iff_eq, Option.some.injEq, Int.compare_eq_gt]
  have h2 : (some (compare x (-y)) == some Ordering.eq) = decide (x = -y) := by
    rw [Bool.eq_iff_iff, decide_eq_true_eq, beq_iff_eq, Option.some.injEq, Int.compare_eq_eq]
  have h3 : (some (compare x y) == some Ordering.lt) = decide (x < y) := by
    rw [Bool.eq_iff_iff, decide_eq_true_eq, beq_iff_eq, Option.some.injEq, Int.compare_eq_lt]
  rw [h1, h2, h3, Bool.eq_iff_iff]
  simp only [Bool.and_eq_true, Bool.or_eq_true, decide_eq_true_eq]
  omega
theorem inR_not {b : Nat} (h : ¬ b % 9223372036854775808 < 9218868437227405312) : inR b = false := by
  unfold inR Format.order
  rw [num_top.read, num_bot.read]
  rcases num_not h with ⟨s, hs⟩ | ⟨s, t, hs⟩ <;> rw [hs]
  · cases s <;> rfl
  · rfl
theorem sgn_bound {s : Bool} {x y : Nat} (h : -(y : Int) ≤ sgn s x ∧ sgn s x < y) : x ≤ y := by
  unfold sgn at h
  cases s <;> simp at h <;> omega
/-- The whole number that a word stands for, if it is one of 64 bits and no -0. -/
def toI (b : Nat) : Option Int := match Ieee.double.read b with
  | .number s m i => if (2 ^ 1074 ∣ m * 2 ^ (i + 1074).toNat ∧ inR b = true) ∧ b ≠ 9223372036854775808 then some (sgn s (m * 2 ^ (i + 1074).toNat / 2 ^ 1074)) else none
  | _ => none
theorem toI_num {b m e : Nat} {s : Bool} (h : Num b s m e) : toI b = if (one ∣ m * 2 ^ e ∧ inR b = true) ∧ b ≠ 9223372036854775808 then some (sgn s (m * 2 ^ e / one)) else none := by
  unfold toI
  rw [h.read]
  dsimp only
  rw [show ((e : Int) - 1074 + 1074).toNat = e by omega]
  rfl
theorem toI_out {b : Nat} (h : inR b = false) : toI b = none := by
  unfold toI
  split
  · rw [if_neg (by rw [h]; simp)]
  · rfl
theorem inR_is {b : Nat} (h : inR b = true) : ∃ s m e, Num b s m e ∧ m * 2 ^ e ≤ big ∧ -(big : Int) ≤ sgn s (m * 2 ^ e) ∧ sgn s (m * 2 ^ e) < big := by
  by_cases hb : b % 9223372036854775808 < 9218868437227405312
  · obtain ⟨s, m, e, hN⟩ := num_of hb
    rw [inR_num hN, decide_eq_true_eq] at h
    exact ⟨s, m, e, hN, sgn_bound h, h.1, h.2⟩
  · rw [inR_not hb] at h; cases h
/-- A number's way down, or to nought. -/
def cutB (way : Toward) (b : Nat) : Nat := FloatKind.f64.encode (Datum.integral way (FloatKind.f64.decode b))
theorem cutB_eq {way : Toward} {b m e : Nat} {s : Bool} (h : Num b s m e) (hr : m * 2 ^ e ≤ big) : (Ieee.double.order (cutB way b) b == some .eq) = decide (one ∣ m * 2 ^ e) ∧ (Ieee.double.order b (cutB way b) == some .eq) = decide (one ∣ m * 2 ^ e) := by
  obtain ⟨w, m', e', h1, h2, h3⟩ := cutN_same h hr way
  have h4 : cutB way b = w := h1
  rw [h4, eq_nums h2 h, eq_nums h h2]
  refine ⟨?_, ?_⟩
  · rw [decide_eq_decide]; exact h3
  · rw [decide_eq_decide, ← h3]; exact eq_comm
/-- What is whole and in reach, told as an integer. -/
theorem toInt_num {b m e : Nat} {s : Bool} (h : Num b s m e) (hd : one ∣ m * 2 ^ e) : (FloatKind.f64.decode b).toInt .zero = some (sgn s (m * 2 ^ e / one)) := by
  obtain ⟨R, hR⟩ := hd
  have hR2 := hR
  rw [Nat.mul_comm one R] at hR
  show Datum.toInt .zero (Ieee.double.read b) = _
  rw [h.read]
  unfold Datum.toInt
  rw [integral_whole hR]
  show some (signed s R 0) = _
  rw [signed_eq, Nat.pow_zero, Nat.mul_one, hR2, Nat.mul_div_cancel_left _ one_pos]
theorem toI_in {b : Nat} {T : Int} (h : toI b = some T) : -9223372036854775808 ≤ T ∧ T < 9223372036854775808 := by
  have hi : inR b = true := by
    cases hh : inR b
    · rw [toI_out hh] at h; cases h
    · rfl
  obtain ⟨s, m, e, hN, h1, h2, h3⟩ := inR_is hi
  rw [toI_num hN] at h
  split at h
  · rename_i hc
    obtain ⟨⟨⟨R, hR⟩, _⟩, _⟩ := hc
    injection h with h
    rw [hR, Nat.mul_div_cancel_left _ one_pos] at h
    rw [hR, ← Nat.mul_comm, ← sgn_mul] at h2 h3
    subst h
    have ho := one_pos
    unfold big at h2 h3
    rw [Int.natCast_mul] at h2 h3
    have ho' : (0 : Int) < (one : Int) := by omega
    constructor
    · refine Int.le_of_mul_le_mul_right (a := (one : Int)) ?_ ho'
      rw [Int.neg_mul]
      exact h2
    · exact Int.lt_of_mul_lt_mul_right h3 (Int.le_of_lt ho')
  · cases h
/-- The float that is just as great as a whole number, if there is one. -/
def fromI (n : Int) : Option Nat := if rnd n.natAbs = n.natAbs then some (FloatKind.f64.nearest n) else none
theorem rnd_le {M : Nat} (h : M ≤ 9223372036854775808) : rnd M ≤ 9223372036854775808 := by
  by_cases h1 : M = 9223372036854775808
  · have e : M = 1 * 2 ^ 63 := by omega
    rw [e, rnd_exact (by decide)]
    decide
  · unfold rnd
    split
    · omega
    · rename_i h2
      have h0 : M ≠ 0 := by omega
      have hL : M.log2 ≤ 62 := by have := (Nat.log2_lt h0).2 (show M < 2 ^ 63 by omega); omega
      have h52 : 52 ≤ M.log2 := by
        have := (Nat.le_log2 h0).2 (show 2 ^ 52 ≤ M by omega)
        exact this
      have h3 := (kept_bounds h0).2
      have h4 : 2 ^ (M.log2 - 52) ≤ 2 ^ 10 := Nat.pow_le_pow_right (by decide) (by omega)
      have := Nat.mul_le_mul h3 h4
      omega
theorem nearest_lt (s : Bool) (M : Nat) : Ieee.double.nearest s M 0 < 18446744073709551616 := by
  unfold Format.nearest
  split
  · unfold Format.word; rw [dbl_sign]; split <;> omega
  · dsimp only
    unfold Format.word
    rw [dbl_sign, dbl_inf]
    split <;> omega
theorem canon_eq {m e m' e' : Nat} (h : (m < 4503599627370496 ∧ e = 0) ∨ (4503599627370496 ≤ m ∧ m < 9007199254740992)) (h' : (m' < 4503599627370496 ∧ e' = 0) ∨ (4503599627370496 ≤ m' ∧ m' < 9007199254740992)) (hv : m * 2 ^ e = m' * 2 ^ e') : m = m' ∧ e = e' := by
  have key : ∀ {a x b y : Nat}, 4503599627370496 ≤ b → a < 9007199254740992 → x < y → a * 2 ^ x = b * 2 ^ y → False := by
    intro a x b y hb ha hxy hh
    have e1 : b * 2 ^ y = (b * 2 ^ (y - x - 1) * 2) * 2 ^ x := by
      rw [Nat.mul_assoc, Nat.mul_assoc, ← Nat.pow_succ', ← Nat.pow_add]
      congr 2
      omega
    rw [e1] at hh
    have := Nat.eq_of_mul_eq_mul_right (Nat.pow_pos (by decide)) hh
    have h2 : b ≤ b * 2 ^ (y - x - 1) := Nat.le_mul_of_pos_right _ (Nat.pow_pos (by decide))
    omega
  rcases Nat.lt_trichotomy e e' with hlt | rfl | hlt
  · refine (key (a := m) ?_ ?_ hlt hv).elim <;> omega
  · exact ⟨Nat.eq_of_mul_eq_mul_right (Nat.pow_pos (by decide)) hv, rfl⟩
  · refine (key (a := m') ?_ ?_ hlt hv.symm).elim <;> omega
theorem num_word {b c m e : Nat} {s : Bool} (h : Num b s m e) (h' : Num c s m e) (hb : b < 18446744073709551616) (hc : c < 18446744073709551616) : b = c := by
  have h1 := h.rung
  have h2 := h'.rung
  have h3 := h.sign
  have h4 := h'.sign
  rw [h3] at h4
  have h5 : b / 9223372036854775808 % 2 = c / 9223372036854775808 % 2 := by
    cases hx : (b / 9223372036854775808 % 2 == 1)
    · rw [hx] at h4
      have q1 := beq_eq_false_iff_ne.1 hx
      have q2 := beq_eq_false_iff_ne.1 h4.symm
      omega
    · rw [hx] at h4
      have q1 := beq_iff_eq.1 hx
      have q2 := beq_iff_eq.1 h4.symm
      omega
  omega
theorem sgn_abs (n : Int) : sgn (decide (n < 0)) n.natAbs = n := by
  unfold sgn
  by_cases h : n < 0 <;> simp [h] <;> omega
/-- The nearest float of a whole number of 64 bits. -/
theorem nearest_num (n : Int) (h : -9223372036854775808 ≤ n ∧ n ≤ 9223372036854775807) : ∃ m e, Num (FloatKind.f64.nearest n) (decide (n < 0)) m e ∧ m * 2 ^ e = rnd n.natAbs * one ∧ FloatKind.f64.nearest n ≠ 9223372036854775808 := by
  have hn : FloatKind.f64.nearest n = Ieee.double.nearest (decide (n < 0)) n.natAbs 0 := rfl
  obtain ⟨m, e, h1, h2⟩ := num_nearest (decide (n < 0)) (M := n.natAbs) (log2_le63 (by omega))
  rw [← hn] at h1
  refine ⟨m, e, h1, h2, fun hb => ?_⟩
  have h3 := h1.sign
  have h4 := h1.rung
  rw [hb] at h3 h4
  simp at h3
  have hm : m = 0 := by have := h1.canon; omega
  subst hm
  rw [Nat.zero_mul] at h2
  have h5 : rnd n.natAbs = 0 := by
    rcases Nat.mul_eq_zero.1 h2.symm with h | h
    · exact h
    · have := one_pos; unfold one at this; rw [show (2 ^ 1074 : Nat) = one from rfl, show one = 0 from h] at this; omega
  have h6 : n.natAbs = 0 := by
    unfold rnd at h5
    split at h5
    · exact h5
    · rename_i hh
      have h7 := (kept_bounds (M := n.natAbs) (by omega)).1
      rcases Nat.mul_eq_zero.1 h5 with h | h
      · omega
      · have := Nat.pow_pos (n := n.natAbs.log2 - 52) (by decide : 0 < 2); omega
  omega
theorem geq_top {b m e : Nat} {s : Bool} (h : Num b s m e) : (Ieee.double.order b 4890909195324358656 == some .gt || Ieee.double.order b 4890909195324358656 == some .eq) = decide ((big : Int) ≤ sgn s (m * 2 ^ e)) := by
  rw [order_nums h num_top, top_size]
  have ht : sgn false big = (big : Int) := rfl
  rw [ht]
  generalize sgn s (m * 2 ^ e) = x
  generalize (big : Int) = y
  have h1 : (some (compare x y) == some Ordering.gt) = decide (y < x) := by
    rw [Bool.eq_iff_iff, decide_eq_true_eq, beq_iff_eq, Option.some.injEq, Int.compare_eq_gt]
  have h2 : (some (compare x y) == some Ordering.eq) = decide (x = y) := by
    rw [Bool.eq_iff_iff, decide_eq_true_eq, beq_iff_eq, Option.some.injEq, Int.compare_eq_eq]
  rw [h1, h2, Bool.eq_iff_iff]
  simp only [Bool.or_eq_true, decide_eq_true_eq]
  omega
theorem sgn_scale (s : Bool) (r : Nat) : ((big : Int) ≤ sgn s (r * one) ↔ 9223372036854775808 ≤ sgn s r) ∧ (-(big : Int) ≤ sgn s (r * one) ↔ -9223372036854775808 ≤ sgn s r) ∧ (sgn s (r * one) < (big : Int) ↔ sgn s r < 9223372036854775808) := by
  have ho : (0 : Int) < (one : Int) := by have := one_pos; omega
  have e1 : (big : Int) = 9223372036854775808 * (one : Int) := by unfold big; rw [Int.natCast_mul]; rfl
  rw [← sgn_mul, e1, ← Int.neg_mul]
  exact ⟨⟨fun h => Int.le_of_mul_le_mul_right h ho, fun h => Int.mul_le_mul_of_nonneg_right h (Int.le_of_lt ho)⟩,
    ⟨fun h => Int.le_of_mul_le_mul_right h ho, fun h => Int.mul_le_mul_of_nonneg_right h (Int.le_of_lt ho)⟩,
    ⟨fun h => Int.lt_of_mul_lt_mul_right h (Int.le_of_lt ho), fun h => Int.mul_lt_mul_of_pos_right h ho⟩⟩
/-- What the program asks of a number's float. -/
structure FromI (n : Int) : Prop where
  top : (Ieee.double.order (FloatKind.f64.nearest n) 4890909195324358656 == some .gt || Ieee.double.order (FloatKind.f64.nearest n) 4890909195324358656 == some .eq) = decide (9223372036854775808 ≤ sgn (decide (n < 0)) (rnd n.natAbs))
  int : (FloatKind.f64.decode (FloatKind.f64.nearest n)).toInt .zero = some (sgn (decide (n < 0)) (rnd n.natAbs))
  low : -9223372036854775808 ≤ sgn (decide (n < 0)) (rnd n.natAbs)
  back : toI (FloatKind.f64.nearest n) = if sgn (decide (n < 0)) (rnd n.natAbs) < 9223372036854775808 then some (sgn (decide (n < 0)) (rnd n.natAbs)) else none
  same : sgn (decide (n < 0)) (rnd n.natAbs) = n ↔ rnd n.natAbs = n.natAbs
theorem fromI_facts (n : Int) (h : -9223372036854775808 ≤ n ∧ n ≤ 9223372036854775807) : FromI n := by
  obtain ⟨m, e, h1, h2, h3⟩ := nearest_num n h
  have hd : one ∣ m * 2 ^ e := ⟨_, by rw [h2, Nat.mul_comm]⟩
  have hq : m * 2 ^ e / one = rnd n.natAbs := by rw [h2, Nat.mul_div_cancel _ one_pos]
  obtain ⟨s1, s2, s3⟩ := sgn_scale (decide (n < 0)) (rnd n.natAbs)
  have hr := rnd_le (M := n.natAbs) (by omega)
  have hlow : -9223372036854775808 ≤ sgn (decide (n < 0)) (rnd n.natAbs) := by
    unfold sgn; split <;> omega
  refine ⟨?_, ?_, hlow, ?_, ?_⟩
  · rw [geq_top h1, h2, decide_eq_decide]; exact s1
  · rw [toInt_num h1 hd, hq]
  · rw [toI_num h1, inR_num h1, hq]
    have hc : ((one ∣ m * 2 ^ e ∧ decide (-(big : Int) ≤ sgn (decide (n < 0)) (m * 2 ^ e) ∧ sgn (decide (n < 0)) (m * 2 ^ e) < big) = true) ∧ FloatKind.f64.nearest n ≠ 9223372036854775808) ↔ sgn (decide (n < 0)) (rnd n.natAbs) < 9223372036854775808 := by
      rw [decide_eq_true_eq, h2, s2, s3]
      exact ⟨fun h => h.1.2.2, fun h => ⟨⟨by rw [← h2]; exact hd, hlow, h⟩, h3⟩⟩
    by_cases hx : sgn (decide (n < 0)) (rnd n.natAbs) < 9223372036854775808
    · rw [if_pos (hc.2 hx), if_pos hx]
    · rw [if_neg fun hh => hx (hc.1 hh), if_neg hx]
  · constructor
    · intro hh
      have := sgn_abs n
      rw [← hh] at this
      conv at this => rhs; rw [hh]
      rw [← hh] at this
      exact (sgn_inj (by rw [sgn_abs, hh])).symm
    · intro hh
      rw [hh, sgn_abs]
theorem fromI_toI {n : Int} {x : Nat} (hn : -9223372036854775808 ≤ n ∧ n ≤ 9223372036854775807) (h : fromI n = some x) : toI x = some n := by
  have F := fromI_facts n hn
  unfold fromI at h
  split at h
  · rename_i hr
    injection h with h
    rw [← h, F.back, F.same.2 hr, if_pos (by omega)]
  · cases h
theorem toI_fromI {b : Nat} {T : Int} (hb : b < 18446744073709551616) (h : toI b = some T) : fromI T = some b := by
  have hi : inR b = true := by
    cases hh : inR b
    · rw [toI_out hh] at h; cases h
    · rfl
  have hT := toI_in h
  obtain ⟨s, m, e, hN, h1, _, _⟩ := inR_is hi
  rw [toI_num hN] at h
  split at h
  · rename_i hc
    obtain ⟨⟨⟨R, hR⟩, _⟩, hz⟩ := hc
    injection h with h
    have hR1 := hR
    rw [Nat.mul_comm one R] at hR
    rw [hR1, Nat.mul_div_cancel_left _ one_pos] at h
    have hRR : R ≤ 9223372036854775808 := Nat.le_of_mul_le_mul_right (by rw [← hR]; exact h1) one_pos
    have habs : T.natAbs = R := by rw [← h]; unfold sgn; cases s <;> simp
    unfold fromI
    rw [habs, if_pos (hN.rounds hR)]
    congr 1
    by_cases h0 : R = 0
    · subst h0
      have hT0 : T = 0 := by omega
      subst hT0
      have hm : m = 0 := by
        rw [Nat.zero_mul] at hR
        rcases Nat.mul_eq_zero.1 hR with h | h
        · exact h
        · have := Nat.pow_pos (n := e) (by decide : 0 < 2); omega
      have := hN.rung
      have := hN.canon
      have e1 : FloatKind.f64.nearest 0 = 0 := by decide +kernel
      rw [e1]
      omega
    · obtain ⟨m', e', g1, g2, _⟩ := nearest_num T (by omega)
      have hs : decide (T < 0) = s := by rw [← h]; unfold sgn; cases s <;> simp <;> omega
      rw [hs] at g1
      rw [habs, hN.rounds hR, ← hR] at g2
      obtain ⟨rfl, rfl⟩ := canon_eq g1.canon hN.canon g2
      exact num_word g1 hN (nearest_lt _ _) hb
  · cases h
theorem fromI_small {n : Int} (h : -9007199254740992 ≤ n ∧ n ≤ 9007199254740992) : fromI n = some (FloatKind.f64.nearest n) := by
  unfold fromI
  rw [if_pos (rnd_small (by omega))]
end Go.Proofs.YtjodibncpbjegaaDoor
