/- Merged: BlkPack, AKey. -/
import Derived.Test.YtilpiclmdmnlkaaZ13
import Derived.DeepKeys4
import Derived.Maps.Keyed
/- Bytes packed, in plain data: what Pack computes, that Unpack takes it back, and how many bytes they are. No program. -/
set_option linter.unusedVariables false
namespace Go.Proofs.Ytilpiclmdmnlkaa

/-- How many bytes are alike, at most so many. -/
def lcp : Nat → List UInt8 → List UInt8 → Nat
  | k + 1, x :: xs, y :: ys => if x = y then lcp k xs ys + 1 else 0
  | _, _, _ => 0
theorem lcp_le : ∀ (m : Nat) (xs ys : List UInt8), lcp m xs ys ≤ m ∧ lcp m xs ys ≤ xs.length
  | 0, xs, ys => by unfold lcp; simp
  | m + 1, [], ys => by unfold lcp; simp
  | m + 1, x :: xs, [] => by unfold lcp; simp
  | m + 1, x :: xs, y :: ys => by
    unfold lcp
    have := lcp_le m xs ys
    split
    · simp only [List.length_cons]; omega
    · simp
theorem lcp_get : ∀ (m : Nat) (xs ys : List UInt8) (i : Nat), i < lcp m xs ys → xs[i]? = ys[i]?
  | 0, xs, ys, i, h => by unfold lcp at h; omega
  | m + 1, [], ys, i, h => by unfold lcp at h; omega
  | m + 1, x :: xs, [], i, h => by unfold lcp at h; omega
  | m + 1, x :: xs, y :: ys, i, h => by
    unfold lcp at h
    split at h
    · rename_i e
      cases i with
      | zero => simp [e]
      | succ i => simpa using lcp_get m xs ys i (by omega)
    · omega
theorem lcp_ge : ∀ (m : Nat) (xs ys : List UInt8) (n : Nat), n ≤ m → n ≤ xs.length → (∀ i, i < n → xs[i]? = ys[i]?) → n ≤ lcp m xs ys
  | m, xs, ys, 0, _, _, _ => Nat.zero_le _
  | 0, xs, ys, n + 1, h, _, _ => by omega
  | m + 1, [], ys, n + 1, _, h, _ => by simp at h
  | m + 1, x :: xs, [], n + 1, _, _, h => by have := h 0 (by omega); simp at this
  | m + 1, x :: xs, y :: ys, n + 1, h1, h2, h3 => by
    have h0 := h3 0 (by omega)
    have e : x = y := by simpa using h0
    unfold lcp
    rw [if_pos e]
    have := lcp_ge m xs ys n (by omega) (by simpa using h2) (fun i hi => by simpa using h3 (i + 1) (by omega))
    omega
/-- How many bytes from the place k on are those from f on, at most 255. -/
def mlen (b : List UInt8) (k f : Nat) : Nat := lcp 255 (b.drop k) (b.drop f)
theorem mlen_le (b : List UInt8) (k f : Nat) : mlen b k f ≤ 255 ∧ mlen b k f ≤ b.length - k := by
  have := lcp_le 255 (b.drop k) (b.drop f)
  rw [List.length_drop] at this
  exact this
theorem mlen_get {b : List UInt8} {k f i : Nat} (h : i < mlen b k f) : b[k + i]? = b[f + i]? := by
  have := lcp_get 255 (b.drop k) (b.drop f) i h
  simpa using this
theorem mlen_ge {b : List UInt8} {k f n : Nat} (h1 : n ≤ 255) (h2 : k + n ≤ b.length) (h : ∀ i, i < n → b[k + i]? = b[f + i]?) : n ≤ mlen b k f :=
  lcp_ge 255 _ _ n h1 (by rw [List.length_drop]; omega) (fun i hi => by simpa using h i hi)
/-- The best of some places, the first of them tried first. -/
def lng (b : List UInt8) (k : Nat) : List Nat → Nat × Nat → Nat × Nat
  | [], s => s
  | f :: r, s => if 1024 < k - f ∨ s.1 = 255 then s else lng b k r (if s.1 < mlen b k f then (mlen b k f, k - f) else s)
def Good (b : List UInt8) (k : Nat) (s : Nat × Nat) : Prop := s.1 ≤ 255 ∧ s.1 ≤ b.length - k ∧ (0 < s.1 → 1 ≤ s.2 ∧ s.2 ≤ 1024 ∧ s.2 ≤ k ∧ ∀ i, i < s.1 → b[k + i]? = b[k + i - s.2]?)
theorem lng_good {b : List UInt8} {k : Nat} : ∀ (l : List Nat) (s : Nat × Nat), (∀ f ∈ l, f < k) → Good b k s → Good b k (lng b k l s)
  | [], s, _, h => h
  | f :: r, s, hl, h => by
    unfold lng
    split
    · exact h
    · rename_i hc
      refine lng_good r _ (fun x hx => hl x (List.mem_cons_of_mem _ hx)) ?_
      split
      · have hf := hl f (List.mem_cons_self ..)
        have := mlen_le b k f
        refine ⟨this.1, this.2, fun _ => ⟨by show 1 ≤ k - f; omega, by show k - f ≤ 1024; omega, by show k - f ≤ k; omega, fun i hi => ?_⟩⟩
        have e : k + i - (k - f) = f + i := by omega
        show b[k + i]? = b[k + i - (k - f)]?
        rw [e]
        exact mlen_get hi
      · exact h
theorem lng_up {b : List UInt8} {k : Nat} : ∀ (l : List Nat) (s : Nat × Nat), s.1 ≤ (lng b k l s).1
  | [], s => Nat.le_refl _
  | f :: r, s => by
    unfold lng
    split
    · exact Nat.le_refl _
    · refine Nat.le_trans ?_ (lng_up r _)
      split
      · rename_i h; exact Nat.le_of_lt h
      · exact Nat.le_refl _
theorem lng_ge {b : List UInt8} {k f0 : Nat} : ∀ (l : List Nat) (s : Nat × Nat), s.1 ≤ 255 → l.Pairwise (· > ·) → f0 ∈ l → k - f0 ≤ 1024 → mlen b k f0 ≤ (lng b k l s).1
  | [], s, _, _, h, _ => by simp at h
  | f :: r, s, hs, hp, hm, hw => by
    obtain ⟨p1, p2⟩ := List.pairwise_cons.1 hp
    have hf : k - f ≤ 1024 := by
      rcases List.mem_cons.1 hm with rfl | h
      · exact hw
      · have := p1 _ h; omega
    have hm' := mlen_le b k f0
    have hmf := mlen_le b k f
    unfold lng
    split
    · omega
    · rcases List.mem_cons.1 hm with rfl | h
      · refine Nat.le_trans ?_ (lng_up r _)
        split <;> omega
      · refine lng_ge r _ ?_ p2 h hw
        split
        · exact hmf.1
        · exact hs
/-- Four bytes. -/
def four (b : List UInt8) (k : Nat) : List UInt8 := (b.drop k).take 4
/-- The places ahead of k at which the four bytes of k stand. -/
def cands (b : List UInt8) (k : Nat) : List Nat := (List.range k).filter fun f => decide (f + 4 ≤ b.length) && (four b f == four b k)
def bfind (b : List UInt8) (k : Nat) : Nat × Nat := if b.length < k + 4 then (0, 0) else lng b k (cands b k).reverse (0, 0)
theorem bfind_good (b : List UInt8) (k : Nat) : Good b k (bfind b k) := by
  have h0 : Good b k (0, 0) := ⟨by decide, Nat.zero_le _, fun h => by cases h⟩
  unfold bfind
  split
  · exact h0
  · exact lng_good _ _ (fun f hf => by
      have := (List.mem_filter.1 (List.mem_reverse.1 hf)).1
      simpa using this) h0
/-- The bytes that are told as they are. -/
def lits (b : List UInt8) (fr tt : Nat) (out : List UInt8) : List UInt8 := if fr < tt then out ++ (put (2 * (tt - fr)) ++ (b.drop fr).take (tt - fr)) else out
def pk (b : List UInt8) : Nat → Nat → Nat → List UInt8 → List UInt8
  | 0, _, _, out => out
  | f + 1, k, fr, out => if k < b.length then
      (if (bfind b k).1 < 4 then pk b f (k + 1) fr out else pk b f (k + (bfind b k).1) (k + (bfind b k).1) (lits b fr k out ++ (put (2 * (bfind b k).1 + 1) ++ put (bfind b k).2)))
    else lits b fr b.length out
def packL (b : List UInt8) : List UInt8 := pk b (b.length + 1) 0 0 [1]
def pack (b : List UInt8) : List UInt8 × Int :=
  if 2048 < b.length then ([], 2) else if b.length < (packL b).length then (0 :: b, 0) else (packL b, 0)

/-! ### What is packed is taken back -/
/-- Whatever comes behind, these bytes make b's first fr. -/
def Makes (b out : List UInt8) (fr : Nat) : Prop := out[0]? = some 1 ∧ ∀ R, Tks (out ++ R) 1 [] out.length (b.take fr)
theorem get0_app {a b : List UInt8} {x : UInt8} (h : a[0]? = some x) : (a ++ b)[0]? = some x := by
  rw [List.getElem?_append_left (List.getElem?_eq_some_iff.1 h).1]; exact h
theorem put_len_pos (n : Nat) : 0 < (put n).length := put_pos n
theorem Makes.lits {b out : List UInt8} {fr tt : Nat} (h : Makes b out fr) (h1 : fr ≤ tt) (h2 : tt ≤ b.length) (h3 : b.length ≤ 2048) : Makes b (Go.Proofs.Ytilpiclmdmnlkaa.lits b fr tt out) tt := by
  unfold Go.Proofs.Ytilpiclmdmnlkaa.lits
  split
  · rename_i hlt
    refine ⟨get0_app h.1, fun R => ?_⟩
    have hs : ((b.drop fr).take (tt - fr)).length = tt - fr := by rw [List.length_take, List.length_drop]; omega
    have ht : (b.take fr).length = fr := by rw [List.length_take]; omega
    have hp := h.2 (put (2 * (tt - fr)) ++ (b.drop fr).take (tt - fr) ++ R)
    rw [← List.append_assoc] at hp
    have ht2 := tok_lit (P := out) (s := (b.drop fr).take (tt - fr)) (R := R) (out := b.take fr) (by rw [hs]; omega) (by rw [hs, ht]; omega)
    rw [hs, ← List.take_add] at ht2
    have e : fr + (tt - fr) = tt := by omega
    rw [e] at ht2
    have hl : (out ++ (put (2 * (tt - fr)) ++ (b.drop fr).take (tt - fr))).length = out.length + (put (2 * (tt - fr))).length + (tt - fr) := by
      rw [List.length_append, List.length_append, hs]; omega
    rw [hl]
    have := put_pos (2 * (tt - fr))
    exact hp.trans (.cons (by rw [List.length_append, hl]; omega) ht2 (.nil _ _))
  · have : fr = tt := by omega
    subst this; exact h
theorem Makes.back {b out : List UInt8} {k n d : Nat} (h : Makes b out k) (h0 : 4 ≤ n) (h1 : n ≤ 255) (h2 : 1 ≤ d) (h3 : d ≤ 1024) (h4 : d ≤ k) (h5 : k + n ≤ b.length) (h6 : b.length ≤ 2048) (h7 : ∀ i, i < n → b[k + i]? = b[k + i - d]?) : Makes b (out ++ (put (2 * n + 1) ++ put d)) (k + n) := by
  refine ⟨get0_app h.1, fun R => ?_⟩
  have ht : (b.take k).length = k := by rw [List.length_take]; omega
  have hp := h.2 (put (2 * n + 1) ++ put d ++ R)
  rw [← List.append_assoc] at hp
  have ht2 := tok_back (P := out) (R := R) (out := b.take k) h0 h1 h2 h3 (by rw [ht]; exact h4) (by rw [ht]; omega)
  rw [rep_take h2 h4 n h5 h7] at ht2
  have hl : (out ++ (put (2 * n + 1) ++ put d)).length = out.length + (put (2 * n + 1)).length + (put d).length := by
    rw [List.length_append, List.length_append]; omega
  rw [hl]
  have := put_pos d
  exact hp.trans (.cons (by rw [List.length_append, hl]; omega) ht2 (.nil _ _))
theorem pk_makes {b : List UInt8} (hb : b.length ≤ 2048) : ∀ (f k fr : Nat) (out : List UInt8), b.length < k + f → fr ≤ k → k ≤ b.length → Makes b out fr → Makes b (pk b f k fr out) b.length
  | 0, k, fr, out, h, _, hk, _ => by omega
  | f + 1, k, fr, out, h, hf, hk, hm => by
    unfold pk
    split
    · have hg := bfind_good b k
      split
      · exact pk_makes hb f (k + 1) fr out (by omega) (by omega) (by omega) hm
      · rename_i h1 h2
        obtain ⟨g1, g2, g3⟩ := hg
        obtain ⟨g4, g5, g6, g7⟩ := g3 (by omega)
        exact pk_makes hb f _ _ _ (by omega) (Nat.le_refl _) (by omega) ((hm.lits hf hk hb).back (by omega) g1 g4 g5 g6 (by omega) hb g7)
    · exact hm.lits (by omega) (Nat.le_refl _) hb
theorem pack_back {b : List UInt8} (hb : b.length ≤ 2048) : (pack b).2 = 0 ∧ unp (pack b).1 = (b, 0) ∧ (pack b).1.length ≤ b.length + 1 := by
  unfold pack
  rw [if_neg (by omega)]
  split
  · refine ⟨rfl, ?_, by simp⟩
    unfold unp
    rw [if_neg (by simp), if_neg (by simp), if_pos (by simp), if_neg (by simp; omega)]
    rfl
  · refine ⟨rfl, ?_, by show (packL b).length ≤ _; omega⟩
    have hm := pk_makes hb (b.length + 1) 0 0 [1] (by omega) (Nat.le_refl _) (Nat.zero_le _) ⟨rfl, fun R => Tks.nil (p := [1] ++ R) 1 []⟩
    obtain ⟨h1, h2⟩ := hm
    have := h2 []
    rw [List.append_nil, List.take_of_length_le (Nat.le_refl _)] at this
    exact this.unp h1
theorem pack_long {b : List UInt8} (hb : 2048 < b.length) : pack b = ([], 2) := by unfold pack; rw [if_pos hb]

/-! ### How many bytes -/
/-- Each byte from the place p on is the one p ahead of it. -/
def Per (b : List UInt8) (p : Nat) : Prop := ∀ i, p ≤ i → i < b.length → b[i]? = b[i - p]?
theorem bfind_per {b : List UInt8} {p k : Nat} (hp : Per b p) (h0 : 1 ≤ p) (h1 : p ≤ 1024) (hk : p ≤ k) (h4 : k + 4 ≤ b.length) : (bfind b k).1 = min 255 (b.length - k) := by
  have hg := bfind_good b k
  have hlen : min 255 (b.length - k) ≤ mlen b k (k - p) := mlen_ge (by omega) (by omega) (fun i hi => by
    have := hp (k + i) (by omega) (by omega)
    rw [this]
    congr 1
    omega)
  have hge : mlen b k (k - p) ≤ (bfind b k).1 := by
    unfold bfind
    rw [if_neg (by omega)]
    refine lng_ge _ _ (by decide) ?_ ?_ (by omega)
    · rw [List.pairwise_reverse]
      exact (List.pairwise_lt_range (n := k)).filter _
    · rw [List.mem_reverse]
      refine List.mem_filter.2 ⟨by simp; omega, ?_⟩
      have e : four b (k - p) = four b k := by
        unfold four
        refine List.ext_getElem? fun i => ?_
        rw [List.getElem?_take, List.getElem?_take]
        split
        · rename_i hi
          rw [List.getElem?_drop, List.getElem?_drop]
          have := hp (k + i) (by omega) (by omega)
          rw [this]
          congr 1
          omega
        · rfl
      rw [e]
      simp
      omega
  obtain ⟨g1, g2, _⟩ := hg
  omega
theorem put_two {n : Nat} (h : n < 16384) : (put n).length ≤ 2 := put_len 2 n (by omega) (by omega)
theorem put_one {n : Nat} (h : n < 128) : (put n).length ≤ 1 := put_len 1 n (by omega) (by omega)
theorem lits_len {b : List UInt8} {fr tt : Nat} {out : List UInt8} (h1 : fr ≤ tt) (h2 : tt ≤ b.length) (h3 : b.length ≤ 2048) :
    (fr = tt → (lits b fr tt out).length = out.length) ∧ (lits b fr tt out).length ≤ out.length + 2 + (tt - fr) ∧ (tt - fr < 64 → fr < tt → (lits b fr tt out).length ≤ out.length + 1 + (tt - fr)) := by
  unfold lits
  have := put_two (n := 2 * (tt - fr)) (by omega)
  refine ⟨fun e => by rw [if_neg (by omega)], ?_, fun h4 h5 => ?_⟩
  · split
    · rw [List.length_append, List.length_append, List.length_take, List.length_drop]; omega
    · omega
  · have := put_one (n := 2 * (tt - fr)) (by omega)
    rw [if_pos h5, List.length_append, List.length_append, List.length_take, List.length_drop]; omega
/-- Behind the first piece. -/
theorem pk_per {b : List UInt8} {p : Nat} (hp : Per b p) (h0 : 1 ≤ p) (h1 : p ≤ 1024) (hb : b.length ≤ 2048) : ∀ (f k fr : Nat) (out : List UInt8), b.length < k + f → fr ≤ k → k ≤ b.length → (p ≤ k ∨ b.length < k + 4) →
    (fr = k → (pk b f k fr out).length ≤ out.length + 4 * ((b.length - k + 254) / 255)) ∧ (pk b f k fr out).length ≤ out.length + 2 + (k - fr) + 4 * ((b.length - k + 254) / 255)
  | 0, k, fr, out, h, _, hk, _ => by omega
  | f + 1, k, fr, out, h, hf, hk, hs => by
    by_cases hend : b.length < k + 4
    · -- the bytes that are left are too few
      have key : ∀ (f k : Nat), b.length < k + f → fr ≤ k → k ≤ b.length → b.length < k + 4 → pk b f k fr out = lits b fr b.length out := by
        intro f
        induction f with
        | zero => intro k h1 _ h2; omega
        | succ f ih =>
          intro k h1 h2 h3 h4
          unfold pk
          split
          · have hz : bfind b k = (0, 0) := by unfold bfind; rw [if_pos h4]
            rw [hz, if_pos (by decide)]
            exact ih (k + 1) (by omega) (by omega) (by omega) (by omega)
          · rfl
      rw [key (f + 1) k h hf hk hend]
      obtain ⟨l1, l2, l3⟩ := lits_len (b := b) (fr := fr) (tt := b.length) (out := out) (by omega) (Nat.le_refl _) hb
      refine ⟨fun e => ?_, ?_⟩
      · by_cases hz : fr = b.length
        · rw [l1 hz]; omega
        · have := l3 (by omega) (by omega)
          omega
      · omega
    · have hpk : p ≤ k := by omega
      have hfnd := bfind_per hp h0 h1 hpk (by omega)
      unfold pk
      rw [if_pos (by omega), if_neg (by omega)]
      have hg := bfind_good b k
      obtain ⟨g1, g2, g3⟩ := hg
      obtain ⟨g4, g5, g6, g7⟩ := g3 (by omega)
      obtain ⟨l1, l2, l3⟩ := lits_len (b := b) (fr := fr) (tt := k) (out := out) hf hk hb
      have ih := (pk_per hp h0 h1 hb f (k + (bfind b k).1) (k + (bfind b k).1) (lits b fr k out ++ (put (2 * (bfind b k).1 + 1) ++ put (bfind b k).2)) (by omega) (Nat.le_refl _) (by omega) (.inl (by omega))).1 rfl
      have c1 := put_two (n := 2 * (bfind b k).1 + 1) (by omega)
      have c2 := put_two (n := (bfind b k).2) (by omega)
      rw [List.length_append, List.length_append] at ih
      refine ⟨fun e => ?_, ?_⟩
      · rw [l1 e] at ih
        omega
      · omega
theorem ar_in {o fr k n x c d : Nat} (hf : fr ≤ k) (hs : 64 * o ≤ 64 + 65 * fr) (hn : 4 ≤ n) (hx0 : fr = k → x = o) (hx : x ≤ o + 2 + (k - fr)) (hx1 : k - fr < 64 → fr < k → x ≤ o + 1 + (k - fr)) (hc : c ≤ 2) (hc1 : n < 64 → c ≤ 1) (hd : d ≤ 2) : 64 * (x + (c + d)) ≤ 64 + 65 * (k + n) := by
  by_cases e1 : n < 64
  · have := hc1 e1
    by_cases e0 : fr = k
    · have := hx0 e0; omega
    · by_cases e2 : k - fr < 64
      · have := hx1 e2 (by omega); omega
      · omega
  · by_cases e0 : fr = k
    · have := hx0 e0; omega
    · by_cases e2 : k - fr < 64
      · have := hx1 e2 (by omega); omega
      · omega
theorem ar_div (X : Nat) : 4 * ((X + 254) / 255) ≤ X / 32 + 4 := by omega
theorem ar_out {o fr k n x c d p N Z : Nat} (hf : fr ≤ k) (hkp : k < p) (hin : p < k + n) (hs : 64 * o ≤ 64 + 65 * fr) (hx : x ≤ o + 2 + (k - fr)) (hc : c ≤ 2) (hd : d ≤ 2)
    (hz : Z ≤ x + (c + d) + 4 * ((N - (k + n) + 254) / 255)) : Z ≤ p + p / 8 + (N - p) / 32 + 16 := by
  have h1 : (N - (k + n) + 254) / 255 ≤ (N - p + 254) / 255 := Nat.div_le_div_right (by omega)
  have h2 := ar_div (N - p)
  generalize (N - p + 254) / 255 = A at *
  generalize (N - (k + n) + 254) / 255 = B at *
  generalize (N - p) / 32 = D at *
  omega
theorem ar_at {o fr p N Z : Nat} (hf : fr ≤ p) (hs : 64 * o ≤ 64 + 65 * fr) (hz : Z ≤ o + 2 + (p - fr) + 4 * ((N - p + 254) / 255)) : Z ≤ p + p / 8 + (N - p) / 32 + 16 := by
  have h2 := ar_div (N - p)
  generalize (N - p + 254) / 255 = A at *
  generalize (N - p) / 32 = D at *
  omega
/-- Within the first piece. -/
theorem pk_short {b : List UInt8} {p : Nat} (hp : Per b p) (h0 : 1 ≤ p) (h1 : p ≤ 1024) (hb : b.length ≤ 2048) (hpb : p ≤ b.length) : ∀ (f k fr : Nat) (out : List UInt8), b.length < k + f → fr ≤ k → k ≤ p → 64 * out.length ≤ 64 + 65 * fr →
    (pk b f k fr out).length ≤ p + p / 8 + (b.length - p) / 32 + 16
  | 0, k, fr, out, h, _, hk, _ => by omega
  | f + 1, k, fr, out, h, hf, hk, hs => by
    by_cases hkp : k = p
    · subst hkp
      exact ar_at hf hs (pk_per hp h0 h1 hb (f + 1) k fr out h hf (by omega) (.inl (Nat.le_refl _))).2
    · unfold pk
      rw [if_pos (by omega)]
      obtain ⟨g1, g2, g3⟩ := bfind_good b k
      split
      · exact pk_short hp h0 h1 hb hpb f (k + 1) fr out (by omega) (by omega) (by omega) hs
      · rename_i hn
        obtain ⟨g4, g5, g6, g7⟩ := g3 (by omega)
        obtain ⟨l1, l2, l3⟩ := lits_len (b := b) (fr := fr) (tt := k) (out := out) hf (by omega) hb
        have c1 := put_two (n := 2 * (bfind b k).1 + 1) (by omega)
        have c2 := put_two (n := (bfind b k).2) (by omega)
        have c3 : (bfind b k).1 < 64 → (put (2 * (bfind b k).1 + 1)).length ≤ 1 := fun h => put_one (by omega)
        by_cases hin : k + (bfind b k).1 ≤ p
        · refine pk_short hp h0 h1 hb hpb f _ _ _ (by omega) (Nat.le_refl _) hin ?_
          rw [List.length_append, List.length_append]
          exact ar_in hf hs (by omega) l1 l2 l3 c1 c3 c2
        · have := (pk_per hp h0 h1 hb f (k + (bfind b k).1) (k + (bfind b k).1) (lits b fr k out ++ (put (2 * (bfind b k).1 + 1) ++ put (bfind b k).2)) (by omega) (Nat.le_refl _) (by omega) (.inl (by omega))).1 rfl
          rw [List.length_append, List.length_append] at this
          exact ar_out hf (by omega) (by omega) hs l2 c1 c2 this
theorem pack_short {b : List UInt8} {p : Nat} (hp : Per b p) (h0 : 1 ≤ p) (h1 : p ≤ 1024) (hb : b.length ≤ 2048) (hpb : p ≤ b.length) : (pack b).1.length ≤ p + p / 8 + (b.length - p) / 32 + 16 := by
  have := pk_short hp h0 h1 hb hpb (b.length + 1) 0 0 [1] (by omega) (Nat.le_refl _) (by omega) (by simp)
  unfold pack
  rw [if_neg (by omega)]
  unfold packL
  split
  · have e : ((0 :: b, (0 : Int)) : List UInt8 × Int).1.length = b.length + 1 := rfl
    rw [e]
    rename_i h
    generalize (b.length - p) / 32 = D at *
    omega
  · exact this
end Go.Proofs.Ytilpiclmdmnlkaa
/- The keys of the places' map: four bytes. -/
set_option linter.unusedVariables false
set_option linter.unusedSimpArgs false
namespace Go.Proofs.Ytilpiclmdmnlkaa
open Go.RowKit
set_option maxRecDepth 20000
theorem places_ty : MapTy Try.prog 37 38 41 :=
  ⟨Try.underlying37, .of_law (deep_law_laid (by kernel_rfl) (m := 2) (by omega) (of_decide_eq_true (by kernel_rfl)) (by kernel_rfl) (by rw [Try.underlying38]))⟩
/-- Four bytes as a key. -/
def keyV (l : List UInt8) : Value := .agg (l.map fun (b : UInt8) => Value.int .u8 (b.toNat : Int)).toArray
theorem keyV_ok (l : List UInt8) (h : l.length = 4) : KeyOk Try.prog 38 (keyV l) := by
  obtain ⟨a, b, c, d, rfl⟩ : ∃ a b c d, l = [a, b, c, d] := by
    match l, h with
    | [a, b, c, d], _ => exact ⟨a, b, c, d, rfl⟩
  refine ⟨?_, by simp [keyV, AV.ofV, AV.lit, AV.lits, AV.lit0, oneV]⟩
  have wf : ∀ x : UInt8, (Lit.int .u8 (x.toNat : Int)).wf = true := fun x => by
    have := UInt8.toNat_lt x
    have e1 : IntKind.u8.min = 0 := by decide
    have e2 : IntKind.u8.max = 255 := by decide
    simp only [Lit.wf, e1, e2, Bool.and_eq_true, decide_eq_true_eq]
    omega
  have kt : Try.prog.keyType 38 = true := by kernel_rfl
  have c1 : Try.prog.cellsOf 38 = 4 := by kernel_rfl
  have c2 : Try.prog.cellsOf 5 = 1 := by kernel_rfl
  have k1 : ∀ (n : Nat) (x : UInt8), Try.prog.keyLits (n + 1) 5 [.int .u8 (x.toNat : Int)] = some [.int .u8 (x.toNat : Int)] := fun n x => by
    simp [Program.keyLits, Try.underlying5, wf]
  have k2 : ∀ n : Nat, Try.prog.keyLits (n + 2) 38 [.int .u8 (a.toNat : Int), .int .u8 (b.toNat : Int), .int .u8 (c.toNat : Int), .int .u8 (d.toNat : Int)] = some [.int .u8 (a.toNat : Int), .int .u8 (b.toNat : Int), .int .u8 (c.toNat : Int), .int .u8 (d.toNat : Int)] := fun n => by
    unfold Program.keyLits
    simp [Try.underlying38, c1, c2, List.range_succ, List.mapM_append, k1]
  refine ⟨.string (keyBytes [.int .u8 (a.toNat : Int), .int .u8 (b.toNat : Int), .int .u8 (c.toNat : Int), .int .u8 (d.toNat : Int)]), ?_⟩
  unfold keyOf
  rw [Try.underlying38]
  simp only [kt, keyV, Value.formed, Try.underlying38, c1]
  obtain ⟨n, hn⟩ : ∃ n, Try.prog.types.size = n + 1 := ⟨Try.prog.types.size - 1, by
    have : 0 < Try.prog.types.size := of_decide_eq_true (by kernel_rfl)
    omega⟩
  rw [hn]
  have := k2 n
  simp [Value.cells, this]
theorem keyV_inj {l m : List UInt8} (h : keyV l = keyV m) : l = m := by
  have h' : (l.map fun (b : UInt8) => Value.int .u8 (b.toNat : Int)) = m.map fun (b : UInt8) => Value.int .u8 (b.toNat : Int) := by
    have := Value.agg.inj h
    exact congrArg Array.toList this
  clear h
  induction l generalizing m with
  | nil => cases m with
    | nil => rfl
    | cons y m => cases h'
  | cons x l ih => cases m with
    | nil => cases h'
    | cons y m =>
      simp only [List.map_cons, List.cons.injEq, Value.int.injEq, true_and] at h'
      obtain ⟨h1, h2⟩ := h'
      have hxy : x = y := UInt8.toNat_inj.1 (by omega)
      rw [ih h2, hxy]
end Go.Proofs.Ytilpiclmdmnlkaa
