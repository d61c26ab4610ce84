/- Merged: BlkPure, BlkPack, BatPure, AvmR. -/
import Derived.Test.YtfheoidnahhnlaaGreatDoorZ33
import Derived.RangeFuncNested
import Derived.RangeFuncBound
import Derived.RangeFuncCalls
import Derived.RangeFuncLeaves
set_option linter.unusedVariables false
namespace Go.Proofs.YtfheoidnahhnlaaGreatDoor
def rep (out : List UInt8) (back : Nat) : Nat → List UInt8
  | 0 => out
  | n + 1 => rep (out ++ [out.getD (out.length - back) 0]) back n
theorem rep_len (back : Nat) : ∀ (n : Nat) (out : List UInt8), (rep out back n).length = out.length + n
  | 0, out => rfl
  | n + 1, out => by rw [rep, rep_len back n]; simp; omega
theorem rep_succ (back : Nat) : ∀ (n : Nat) (out : List UInt8), rep out back (n + 1) = rep out back n ++ [(rep out back n).getD ((rep out back n).length - back) 0]
  | 0, out => rfl
  | n + 1, out => by rw [rep, rep_succ back n]; rfl
def tok (p : List UInt8) (k : Nat) (out : List UInt8) : Nat × List UInt8 × Int :=
  match get (p.drop k) with
  | (n, u, e) =>
    if e ≠ 0 then (0, [], e) else
    if n % 2 = 0 then
      if n / 2 = 0 then (0, [], 5) else
      if 2048 - out.length < n / 2 then (0, [], 2) else
      if p.length - (k + u) < n / 2 then (0, [], 30) else
      (k + u + n / 2, out ++ (p.drop (k + u)).take (n / 2), 0)
    else
      if n / 2 < 4 ∨ 255 < n / 2 then (0, [], 5) else
      match get (p.drop (k + u)) with
      | (d, v, f) =>
        if f ≠ 0 then (0, [], f) else
        if d < 1 ∨ 1024 < d ∨ out.length < d then (0, [], 5) else
        if 2048 - out.length < n / 2 then (0, [], 2) else
        (k + u + v, rep out d (n / 2), 0)
def unL (p : List UInt8) : Nat → Nat → List UInt8 → List UInt8 × Int
  | 0, _, out => (out, 0)
  | f + 1, k, out => if k < p.length then (if (tok p k out).2.2 ≠ 0 then ([], (tok p k out).2.2) else unL p f (tok p k out).1 (tok p k out).2.1) else (out, 0)
def unp (p : List UInt8) : List UInt8 × Int :=
  if p.length = 0 then ([], 4) else
  if 1 < (p.getD 0 0).toNat then ([], 5) else
  if (p.getD 0 0).toNat = 0 then (if 2049 < p.length then ([], 2) else (p.drop 1, 0)) else
  unL p p.length 1 []
theorem get_used {s : List UInt8} {n u : Nat} (h : get s = (n, u, 0)) : 0 < u ∧ u ≤ s.length := ⟨(get_ok h).1, (get_ok h).2.1⟩
theorem tok_ok {p : List UInt8} {k : Nat} {out : List UInt8} (h : (tok p k out).2.2 = 0) : k < (tok p k out).1 ∧ (tok p k out).1 ≤ p.length ∧ (out.length ≤ 2048 → (tok p k out).2.1.length ≤ 2048) := by
  unfold tok at h ⊢
  rcases hg : get (p.drop k) with ⟨n, u, e⟩
  rw [hg] at h
  dsimp only at h ⊢
  by_cases he : e ≠ 0
  · rw [if_pos he] at h; exact absurd h he
  rw [if_neg he] at h ⊢
  obtain rfl : e = 0 := by simpa using he
  obtain ⟨u1, u2⟩ := get_used hg
  rw [List.length_drop] at u2
  by_cases hn : n % 2 = 0
  · rw [if_pos hn] at h ⊢
    by_cases h1 : n / 2 = 0
    · rw [if_pos h1] at h; cases h
    rw [if_neg h1] at h ⊢
    by_cases h2 : 2048 - out.length < n / 2
    · rw [if_pos h2] at h; cases h
    rw [if_neg h2] at h ⊢
    by_cases h3 : p.length - (k + u) < n / 2
    · rw [if_pos h3] at h; cases h
    rw [if_neg h3]
    refine ⟨?_, ?_, fun ho => ?_⟩
    · show k < k + u + n / 2; omega
    · show k + u + n / 2 ≤ _; omega
    · show (out ++ _).length ≤ 2048
      rw [List.length_append, List.length_take, List.length_drop]; omega
  · rw [if_neg hn] at h ⊢
    by_cases h1 : n / 2 < 4 ∨ 255 < n / 2
    · rw [if_pos h1] at h; cases h
    rw [if_neg h1] at h ⊢
    rcases hg2 : get (p.drop (k + u)) with ⟨d, v, f⟩
    rw [hg2] at h
    dsimp only at h ⊢
    by_cases hf : f ≠ 0
    · rw [if_pos hf] at h; exact absurd h hf
    rw [if_neg hf] at h ⊢
    obtain rfl : f = 0 := by simpa using hf
    obtain ⟨v1, v2⟩ := get_used hg2
    rw [List.length_drop] at v2
    by_cases h2 : d < 1 ∨ 1024 < d ∨ out.length < d
    · rw [if_pos h2] at h; cases h
    rw [if_neg h2] at h ⊢
    by_cases h3 : 2048 - out.length < n / 2
    · rw [if_pos h3] at h; cases h
    rw [if_neg h3]
    refine ⟨?_, ?_, fun ho => ?_⟩
    · show k < k + u + v; omega
    · show k + u + v ≤ _; omega
    · show (rep out d (n / 2)).length ≤ 2048
      rw [rep_len]; omega
theorem unL_out (p : List UInt8) : ∀ (f k : Nat) (out : List UInt8), out.length ≤ 2048 → (unL p f k out).1.length ≤ 2048 ∧ ((unL p f k out).2 ≠ 0 → (unL p f k out).1 = [])
  | 0, k, out, h => ⟨h, fun e => absurd rfl e⟩
  | f + 1, k, out, h => by
    unfold unL
    split
    · split
      · exact ⟨by simp, fun _ => rfl⟩
      · rename_i h1 h2
        exact unL_out p f _ _ ((tok_ok (by simpa using h2)).2.2 h)
    · exact ⟨h, fun e => absurd rfl e⟩
theorem unp_out (p : List UInt8) : (unp p).1.length ≤ 2048 ∧ ((unp p).2 ≠ 0 → (unp p).1 = []) := by
  unfold unp
  split
  · exact ⟨by simp, fun _ => rfl⟩
  · split
    · exact ⟨by simp, fun _ => rfl⟩
    · split
      · split
        · exact ⟨by simp, fun _ => rfl⟩
        · exact ⟨by rw [List.length_drop]; omega, fun e => absurd rfl e⟩
      · exact unL_out p _ _ _ (by simp)
theorem unL_step {p : List UInt8} {f k k' : Nat} {out out' : List UInt8} (hk : k < p.length) (h : tok p k out = (k', out', 0)) : unL p (f + 1) k out = unL p f k' out' := by
  rw [unL, if_pos hk, if_neg (by rw [h]; simp), h]
theorem unL_stop {p : List UInt8} {f k : Nat} {out : List UInt8} (hk : ¬ k < p.length) : unL p f k out = (out, 0) := by
  cases f with
  | zero => rfl
  | succ f => rw [unL, if_neg hk]
theorem unL_more (p : List UInt8) : ∀ (f g k : Nat) (out : List UInt8), p.length ≤ k + f → p.length ≤ k + g → unL p f k out = unL p g k out
  | 0, g, k, out, h1, h2 => by rw [unL_stop (by omega), unL_stop (by omega)]
  | f + 1, 0, k, out, h1, h2 => by rw [unL_stop (by omega), unL_stop (by omega)]
  | f + 1, g + 1, k, out, h1, h2 => by
    unfold unL
    split
    · split
      · rfl
      · rename_i h3 h4
        have := (tok_ok (p := p) (k := k) (out := out) (by simpa using h4)).1
        exact unL_more p f g _ _ (by omega) (by omega)
    · rfl
inductive Tks (p : List UInt8) : Nat → List UInt8 → Nat → List UInt8 → Prop
  | nil (k : Nat) (out : List UInt8) : Tks p k out k out
  | cons {k k' m : Nat} {out out' n : List UInt8} (hk : k < p.length) (h : tok p k out = (k', out', 0)) (r : Tks p k' out' m n) : Tks p k out m n
theorem Tks.trans {p : List UInt8} {a b c : Nat} {x y z : List UInt8} (h : Tks p a x b y) (k : Tks p b y c z) : Tks p a x c z := by
  induction h with
  | nil => exact k
  | cons h1 h2 _ ih => exact .cons h1 h2 (ih k)
theorem Tks.unL {p : List UInt8} {k m : Nat} {out n : List UInt8} (h : Tks p k out m n) : ∀ f, p.length ≤ k + f → Go.Proofs.YtfheoidnahhnlaaGreatDoor.unL p f k out = Go.Proofs.YtfheoidnahhnlaaGreatDoor.unL p p.length m n := by
  induction h with
  | nil k out => exact fun f hf => unL_more p _ _ _ _ hf (by omega)
  | cons hk h r ih =>
    intro f hf
    cases f with
    | zero => omega
    | succ f =>
      rw [unL_step hk h]
      rename_i k k' m out out' n
      have := (tok_ok (p := p) (k := k) (out := out) (by rw [h])).1
      rw [h] at this
      exact ih f (by dsimp only at this; omega)
theorem Tks.unp {p : List UInt8} {n : List UInt8} (h : Tks p 1 [] p.length n) (h0 : p[0]? = some 1) : Go.Proofs.YtfheoidnahhnlaaGreatDoor.unp p = (n, 0) := by
  have hl := (List.getElem?_eq_some_iff.1 h0).1
  have e : p.getD 0 0 = 1 := by rw [List.getD_eq_getElem?_getD, h0]; rfl
  unfold Go.Proofs.YtfheoidnahhnlaaGreatDoor.unp
  rw [if_neg (by omega), e, if_neg (by decide), if_neg (by decide), h.unL _ (by omega), unL_stop (by omega)]
theorem tok_lit {P s R out : List UInt8} (h0 : 0 < s.length) (h1 : out.length + s.length ≤ 2048) : tok (P ++ (put (2 * s.length) ++ s) ++ R) P.length out = (P.length + (put (2 * s.length)).length + s.length, out ++ s, 0) := by
  have e : (P ++ (put (2 * s.length) ++ s) ++ R).drop P.length = put (2 * s.length) ++ (s ++ R) := by
    rw [List.append_assoc, List.drop_left, List.append_assoc]
  have e2 : (P ++ (put (2 * s.length) ++ s) ++ R).drop (P.length + (put (2 * s.length)).length) = s ++ R := by
    rw [← List.drop_drop, e, List.drop_left]
  unfold tok
  rw [e, get_put _ (by omega)]
  dsimp only
  rw [if_neg (by simp), if_pos (by omega), if_neg (by omega), if_neg (by omega), if_neg (by simp; omega), e2]
  have e3 : 2 * s.length / 2 = s.length := by omega
  rw [e3, List.take_left]
theorem tok_back {P R out : List UInt8} {n d : Nat} (h0 : 4 ≤ n) (h1 : n ≤ 255) (h2 : 1 ≤ d) (h3 : d ≤ 1024) (h4 : d ≤ out.length) (h5 : out.length + n ≤ 2048) : tok (P ++ (put (2 * n + 1) ++ put d) ++ R) P.length out = (P.length + (put (2 * n + 1)).length + (put d).length, rep out d n, 0) := by
  have e : (P ++ (put (2 * n + 1) ++ put d) ++ R).drop P.length = put (2 * n + 1) ++ (put d ++ R) := by
    rw [List.append_assoc, List.drop_left, List.append_assoc]
  have e2 : (P ++ (put (2 * n + 1) ++ put d) ++ R).drop (P.length + (put (2 * n + 1)).length) = put d ++ R := by
    rw [← List.drop_drop, e, List.drop_left]
  unfold tok
  rw [e, get_put _ (by omega)]
  dsimp only
  rw [if_neg (by simp), if_neg (by omega), if_neg (by omega), e2, get_put _ (by omega)]
  dsimp only
  have e3 : (2 * n + 1) / 2 = n := by omega
  rw [if_neg (by simp), if_neg (by omega), if_neg (by omega), e3]
theorem rep_take {b : List UInt8} {k d : Nat} (h1 : 1 ≤ d) (h2 : d ≤ k) : ∀ (n : Nat), k + n ≤ b.length → (∀ i, i < n → b[k + i]? = b[k + i - d]?) → rep (b.take k) d n = b.take (k + n)
  | 0, _, _ => rfl
  | n + 1, h3, h4 => by
    rw [rep_succ, rep_take h1 h2 n (by omega) (fun i hi => h4 i (by omega))]
    have hx := h4 n (by omega)
    have hk : k + n < b.length := by omega
    have e1 : (b.take (k + n)).length = k + n := by rw [List.length_take]; omega
    have e2 : (b.take (k + n)).getD ((b.take (k + n)).length - d) 0 = b[k + n] := by
      rw [e1, List.getD_eq_getElem?_getD, List.getElem?_take_of_lt (by omega), ← hx, List.getElem?_eq_getElem hk]
      rfl
    rw [e2, ← Nat.add_assoc, List.take_add_one, List.getElem?_eq_getElem hk]
    rfl
theorem unL_err {p out : List UInt8} {k : Nat} {e : Int} (hk : k < p.length) (h : tok p k out = (0, [], e)) (he : e ≠ 0) : unL p p.length k out = ([], e) := by
  obtain ⟨f, hf⟩ : ∃ f, p.length = f + 1 := ⟨p.length - 1, by omega⟩
  rw [hf, unL, if_pos hk, if_pos (by rw [h]; exact he), h]
theorem unL_next {p out out' : List UInt8} {k k' : Nat} (hk : k < p.length) (h : tok p k out = (k', out', 0)) : unL p p.length k out = unL p p.length k' out' :=
  (Tks.cons hk h (.nil _ _)).unL _ (by omega)
end Go.Proofs.YtfheoidnahhnlaaGreatDoor
set_option linter.unusedVariables false
namespace Go.Proofs.YtfheoidnahhnlaaGreatDoor
def lcp : Nat → List UInt8 → List UInt8 → Nat
  | k + 1, x :: xs, y :: ys => if x = y then lcp k xs ys + 1 else 0
  | _, _, _ => 0
theorem lcp_le : ∀ (m : Nat) (xs ys : List UInt8), lcp m xs ys ≤ m ∧ lcp m xs ys ≤ xs.length
  | 0, xs, ys => by unfold lcp; simp
  | m + 1, [], ys => by unfold lcp; simp
  | m + 1, x :: xs, [] => by unfold lcp; simp
  | m + 1, x :: xs, y :: ys => by
    unfold lcp
    have := lcp_le m xs ys
    split
    · simp only [List.length_cons]; omega
    · simp
theorem lcp_get : ∀ (m : Nat) (xs ys : List UInt8) (i : Nat), i < lcp m xs ys → xs[i]? = ys[i]?
  | 0, xs, ys, i, h => by unfold lcp at h; omega
  | m + 1, [], ys, i, h => by unfold lcp at h; omega
  | m + 1, x :: xs, [], i, h => by unfold lcp at h; omega
  | m + 1, x :: xs, y :: ys, i, h => by
    unfold lcp at h
    split at h
    · rename_i e
      cases i with
      | zero => simp [e]
      | succ i => simpa using lcp_get m xs ys i (by omega)
    · omega
theorem lcp_ge : ∀ (m : Nat) (xs ys : List UInt8) (n : Nat), n ≤ m → n ≤ xs.length → (∀ i, i < n → xs[i]? = ys[i]?) → n ≤ lcp m xs ys
  | m, xs, ys, 0, _, _, _ => Nat.zero_le _
  | 0, xs, ys, n + 1, h, _, _ => by omega
  | m + 1, [], ys, n + 1, _, h, _ => by simp at h
  | m + 1, x :: xs, [], n + 1, _, _, h => by have := h 0 (by omega); simp at this
  | m + 1, x :: xs, y :: ys, n + 1, h1, h2, h3 => by
    have h0 := h3 0 (by omega)
    have e : x = y := by simpa using h0
    unfold lcp
    rw [if_pos e]
    have := lcp_ge m xs ys n (by omega) (by simpa using h2) (fun i hi => by simpa using h3 (i + 1) (by omega))
    omega
def mlen (b : List UInt8) (k f : Nat) : Nat := lcp 255 (b.drop k) (b.drop f)
theorem mlen_le (b : List UInt8) (k f : Nat) : mlen b k f ≤ 255 ∧ mlen b k f ≤ b.length - k := by
  have := lcp_le 255 (b.drop k) (b.drop f)
  rw [List.length_drop] at this
  exact this
theorem mlen_get {b : List UInt8} {k f i : Nat} (h : i < mlen b k f) : b[k + i]? = b[f + i]? := by
  have := lcp_get 255 (b.drop k) (b.drop f) i h
  simpa using this
theorem mlen_ge {b : List UInt8} {k f n : Nat} (h1 : n ≤ 255) (h2 : k + n ≤ b.length) (h : ∀ i, i < n → b[k + i]? = b[f + i]?) : n ≤ mlen b k f :=
  lcp_ge 255 _ _ n h1 (by rw [List.length_drop]; omega) (fun i hi => by simpa using h i hi)
def lng (b : List UInt8) (k : Nat) : List Nat → Nat × Nat → Nat × Nat
  | [], s => s
  | f :: r, s => if 1024 < k - f ∨ s.1 = 255 then s else lng b k r (if s.1 < mlen b k f then (mlen b k f, k - f) else s)
def Good (b : List UInt8) (k : Nat) (s : Nat × Nat) : Prop := s.1 ≤ 255 ∧ s.1 ≤ b.length - k ∧ (0 < s.1 → 1 ≤ s.2 ∧ s.2 ≤ 1024 ∧ s.2 ≤ k ∧ ∀ i, i < s.1 → b[k + i]? = b[k + i - s.2]?)
theorem lng_good {b : List UInt8} {k : Nat} : ∀ (l : List Nat) (s : Nat × Nat), (∀ f ∈ l, f < k) → Good b k s → Good b k (lng b k l s)
  | [], s, _, h => h
  | f :: r, s, hl, h => by
    unfold lng
    split
    · exact h
    · rename_i hc
      refine lng_good r _ (fun x hx => hl x (List.mem_cons_of_mem _ hx)) ?_
      split
      · have hf := hl f (List.mem_cons_self ..)
        have := mlen_le b k f
        refine ⟨this.1, this.2, fun _ => ⟨by show 1 ≤ k - f; omega, by show k - f ≤ 1024; omega, by show k - f ≤ k; omega, fun i hi => ?_⟩⟩
        have e : k + i - (k - f) = f + i := by omega
        show b[k + i]? = b[k + i - (k - f)]?
        rw [e]
        exact mlen_get hi
      · exact h
def four (b : List UInt8) (k : Nat) : List UInt8 := (b.drop k).take 4
def cands (b : List UInt8) (k : Nat) : List Nat := (List.range k).filter fun f => decide (f + 4 ≤ b.length) && (four b f == four b k)
def bfind (b : List UInt8) (k : Nat) : Nat × Nat := if b.length < k + 4 then (0, 0) else lng b k (cands b k).reverse (0, 0)
theorem bfind_good (b : List UInt8) (k : Nat) : Good b k (bfind b k) := by
  have h0 : Good b k (0, 0) := ⟨by decide, Nat.zero_le _, fun h => by cases h⟩
  unfold bfind
  split
  · exact h0
  · exact lng_good _ _ (fun f hf => by
      have := (List.mem_filter.1 (List.mem_reverse.1 hf)).1
      simpa using this) h0
def lits (b : List UInt8) (fr tt : Nat) (out : List UInt8) : List UInt8 := if fr < tt then out ++ (put (2 * (tt - fr)) ++ (b.drop fr).take (tt - fr)) else out
def pk (b : List UInt8) : Nat → Nat → Nat → List UInt8 → List UInt8
  | 0, _, _, out => out
  | f + 1, k, fr, out => if k < b.length then
      (if (bfind b k).1 < 4 then pk b f (k + 1) fr out else pk b f (k + (bfind b k).1) (k + (bfind b k).1) (lits b fr k out ++ (put (2 * (bfind b k).1 + 1) ++ put (bfind b k).2)))
    else lits b fr b.length out
def packL (b : List UInt8) : List UInt8 := pk b (b.length + 1) 0 0 [1]
def pack (b : List UInt8) : List UInt8 × Int :=
  if 2048 < b.length then ([], 2) else if b.length < (packL b).length then (0 :: b, 0) else (packL b, 0)
def Makes (b out : List UInt8) (fr : Nat) : Prop := out[0]? = some 1 ∧ ∀ R, Tks (out ++ R) 1 [] out.length (b.take fr)
theorem get0_app {a b : List UInt8} {x : UInt8} (h : a[0]? = some x) : (a ++ b)[0]? = some x := by
  rw [List.getElem?_append_left (List.getElem?_eq_some_iff.1 h).1]; exact h
theorem Makes.lits {b out : List UInt8} {fr tt : Nat} (h : Makes b out fr) (h1 : fr ≤ tt) (h2 : tt ≤ b.length) (h3 : b.length ≤ 2048) : Makes b (Go.Proofs.YtfheoidnahhnlaaGreatDoor.lits b fr tt out) tt := by
  unfold Go.Proofs.YtfheoidnahhnlaaGreatDoor.lits
  split
  · rename_i hlt
    refine ⟨get0_app h.1, fun R => ?_⟩
    have hs : ((b.drop fr).take (tt - fr)).length = tt - fr := by rw [List.length_take, List.length_drop]; omega
    have ht : (b.take fr).length = fr := by rw [List.length_take]; omega
    have hp := h.2 (put (2 * (tt - fr)) ++ (b.drop fr).take (tt - fr) ++ R)
    rw [← List.append_assoc] at hp
    have ht2 := tok_lit (P := out) (s := (b.drop fr).take (tt - fr)) (R := R) (out := b.take fr) (by rw [hs]; omega) (by rw [hs, ht]; omega)
    rw [hs, ← List.take_add] at ht2
    have e : fr + (tt - fr) = tt := by omega
    rw [e] at ht2
    have hl : (out ++ (put (2 * (tt - fr)) ++ (b.drop fr).take (tt - fr))).length = out.length + (put (2 * (tt - fr))).length + (tt - fr) := by
      rw [List.length_append, List.length_append, hs]; omega
    rw [hl]
    have := put_pos (2 * (tt - fr))
    exact hp.trans (.cons (by rw [List.length_append, hl]; omega) ht2 (.nil _ _))
  · have : fr = tt := by omega
    subst this; exact h
theorem Makes.back {b out : List UInt8} {k n d : Nat} (h : Makes b out k) (h0 : 4 ≤ n) (h1 : n ≤ 255) (h2 : 1 ≤ d) (h3 : d ≤ 1024) (h4 : d ≤ k) (h5 : k + n ≤ b.length) (h6 : b.length ≤ 2048) (h7 : ∀ i, i < n → b[k + i]? = b[k + i - d]?) : Makes b (out ++ (put (2 * n + 1) ++ put d)) (k + n) := by
  refine ⟨get0_app h.1, fun R => ?_⟩
  have ht : (b.take k).length = k := by rw [List.length_take]; omega
  have hp := h.2 (put (2 * n + 1) ++ put d ++ R)
  rw [← List.append_assoc] at hp
  have ht2 := tok_back (P := out) (R := R) (out := b.take k) h0 h1 h2 h3 (by rw [ht]; exact h4) (by rw [ht]; omega)
  rw [rep_take h2 h4 n h5 h7] at ht2
  have hl : (out ++ (put (2 * n + 1) ++ put d)).length = out.length + (put (2 * n + 1)).length + (put d).length := by
    rw [List.length_append, List.length_append]; omega
  rw [hl]
  have := put_pos d
  exact hp.trans (.cons (by rw [List.length_append, hl]; omega) ht2 (.nil _ _))
theorem pk_makes {b : List UInt8} (hb : b.length ≤ 2048) : ∀ (f k fr : Nat) (out : List UInt8), b.length < k + f → fr ≤ k → k ≤ b.length → Makes b out fr → Makes b (pk b f k fr out) b.length
  | 0, k, fr, out, h, _, hk, _ => by omega
  | f + 1, k, fr, out, h, hf, hk, hm => by
    unfold pk
    split
    · have hg := bfind_good b k
      split
      · exact pk_makes hb f (k + 1) fr out (by omega) (by omega) (by omega) hm
      · rename_i h1 h2
        obtain ⟨g1, g2, g3⟩ := hg
        obtain ⟨g4, g5, g6, g7⟩ := g3 (by omega)
        exact pk_makes hb f _ _ _ (by omega) (Nat.le_refl _) (by omega) ((hm.lits hf hk hb).back (by omega) g1 g4 g5 g6 (by omega) hb g7)
    · exact hm.lits (by omega) (Nat.le_refl _) hb
theorem pack_back {b : List UInt8} (hb : b.length ≤ 2048) : (pack b).2 = 0 ∧ unp (pack b).1 = (b, 0) ∧ (pack b).1.length ≤ b.length + 1 := by
  unfold pack
  rw [if_neg (by omega)]
  split
  · refine ⟨rfl, ?_, by simp⟩
    unfold unp
    rw [if_neg (by simp), if_neg (by simp), if_pos (by simp), if_neg (by simp; omega)]
    rfl
  · refine ⟨rfl, ?_, by show (packL b).length ≤ _; omega⟩
    have hm := pk_makes hb (b.length + 1) 0 0 [1] (by omega) (Nat.le_refl _) (Nat.zero_le _) ⟨rfl, fun R => Tks.nil (p := [1] ++ R) 1 []⟩
    obtain ⟨h1, h2⟩ := hm
    have := h2 []
    rw [List.append_nil, List.take_of_length_le (Nat.le_refl _)] at this
    exact this.unp h1
theorem pack_long {b : List UInt8} (hb : 2048 < b.length) : pack b = ([], 2) := by unfold pack; rw [if_pos hb]
theorem put_two {n : Nat} (h : n < 16384) : (put n).length ≤ 2 := put_len 2 n (by omega) (by omega)
theorem put_one {n : Nat} (h : n < 128) : (put n).length ≤ 1 := put_len 1 n (by omega) (by omega)
theorem lits_len {b : List UInt8} {fr tt : Nat} {out : List UInt8} (h1 : fr ≤ tt) (h2 : tt ≤ b.length) (h3 : b.length ≤ 2048) :
    (fr = tt → (lits b fr tt out).length = out.length) ∧ (lits b fr tt out).length ≤ out.length + 2 + (tt - fr) ∧ (tt - fr < 64 → fr < tt → (lits b fr tt out).length ≤ out.length + 1 + (tt - fr)) := by
  unfold lits
  have := put_two (n := 2 * (tt - fr)) (by omega)
  refine ⟨fun e => by rw [if_neg (by omega)], ?_, fun h4 h5 => ?_⟩
  · split
    · rw [List.length_append, List.length_append, List.length_take, List.length_drop]; omega
    · omega
  · have := put_one (n := 2 * (tt - fr)) (by omega)
    rw [if_pos h5, List.length_append, List.length_append, List.length_take, List.length_drop]; omega
end Go.Proofs.YtfheoidnahhnlaaGreatDoor
set_option linter.unusedVariables false
namespace Go.Proofs.YtfheoidnahhnlaaGreatDoor
def cat (l : List (List V)) : List UInt8 := l.flatMap valBs
def errR (s : List C) : List (List V) → Int
  | [] => 0
  | r :: l => if chkR s r = 0 then errR s l else chkR s r
def goods (s : List C) : List (List V) → List (List V)
  | [] => []
  | r :: l => if chkR s r = 0 then r :: goods s l else []
theorem goods_take {s : List C} : ∀ {l : List (List V)} {k : Nat}, (∀ (i : Nat) r, i < k → l[i]? = some r → chkR s r = 0) → ∀ r, l[k]? = some r → chkR s r ≠ 0 → goods s l = l.take k ∧ errR s l = chkR s r
  | [], k, h, r, hr, _ => by simp at hr
  | x :: l, 0, h, r, hr, hc => by
    obtain rfl : x = r := by simpa using hr
    unfold goods errR
    rw [if_neg hc, if_neg hc]
    exact ⟨rfl, rfl⟩
  | x :: l, k + 1, h, r, hr, hc => by
    have h0 := h 0 x (by omega) rfl
    unfold goods errR
    rw [if_pos h0, if_pos h0]
    obtain ⟨h1, h2⟩ := goods_take (s := s) (l := l) (k := k) (fun i r' hi hr' => h (i + 1) r' (by omega) (by simpa using hr')) r (by simpa using hr) hc
    exact ⟨by rw [h1]; rfl, h2⟩
theorem goods_all {s : List C} : ∀ {l : List (List V)}, (∀ (i : Nat) r, l[i]? = some r → chkR s r = 0) → goods s l = l ∧ errR s l = 0
  | [], h => ⟨rfl, rfl⟩
  | x :: l, h => by
    have h0 := h 0 x rfl
    unfold goods errR
    rw [if_pos h0, if_pos h0]
    obtain ⟨h1, h2⟩ := goods_all (s := s) (l := l) (fun i r' hr' => h (i + 1) r' (by simpa using hr'))
    exact ⟨by rw [h1], h2⟩
theorem goods_errR {s : List C} : ∀ {l : List (List V)}, errR s l = 0 → goods s l = l
  | [], _ => rfl
  | x :: l, h => by
    unfold errR at h
    unfold goods
    split at h
    · rename_i h0; rw [if_pos h0, goods_errR h]
    · rename_i h0; exact absurd h h0
def allB (s : List C) (l : List (List V)) : List UInt8 × Int :=
  if chkS s ≠ 0 then ([], chkS s) else if l.length = 0 then ([], 4) else if 64 < l.length then ([], 3) else
  if errR s l ≠ 0 then ([], errR s l) else if 2048 < (cat l).length then ([], 2) else (cat l, 0)
end Go.Proofs.YtfheoidnahhnlaaGreatDoor
set_option linter.unusedVariables false
set_option linter.unusedSimpArgs false
namespace Go.Proofs.YtfheoidnahhnlaaGreatDoor
open Go.RowKit
def Gh.root (g : Gh) (r : Root) : Gh := { g with w0 := r }
theorem VSim.root {g : Gh} {r : Root} (hr : r.W = g.w0.W) {v : AV} {x : Value} (hv : VSim g v x) : VSim (g.root r) v x := by
  induction hv with
  | any x => exact .any x
  | s v h1 => exact .s v h1
  | agg l a hs h1 _ ih => exact .agg l a hs h1 ih
  | tup l a hs _ ih => exact .tup l a hs ih
  | bp id off b hb => exact .bp id off b hb
  | rp l b o vs h1 _ ih => exact .rp l b o vs h1 ih
  | sl own tag es A cap sz vs hl hc hsz h1 hA _ htag ih =>
    refine .sl own tag es A cap sz vs hl hc hsz h1 (fun hn => ?_) ih ?_
    · obtain ⟨b, o, e, ho, hK⟩ := hA hn
      exact ⟨b, o, e, fun hb => by show r.W.heap.size ≤ b; rw [hr]; exact ho hb, hK⟩
    · cases tag with
      | none => trivial
      | full => exact htag
      | lin id => exact htag
  | fn f caps ca hs _ ih => exact .fn f caps ca hs ih
  | ifc t v x _ ih => exact .ifc t v x ih
  | mp id b hb => exact .mp id b hb
theorem FSim.root {D : FixD} {g : Gh} {r : Root} (hr : r.W = g.w0.W) {fr : AFr} {a : Act} (h : FSim D g fr a) : FSim D (g.root r) fr a := ⟨h.defers, h.size, fun t => (h.tmps t).root hr, h.keep⟩
theorem Inv.root {g : Gh} {st : AS} {w : World} {r : Root} (h : Inv g st w) (hr : r.W = g.w0.W) (hk : KeptR r w) (hb : ∀ b ∈ g.bx, r.fz b = none) : Inv (g.root r) st w where
  K := h.K
  bxlen := h.bxlen
  bx i b cs h1 h2 := by
    obtain ⟨cur, T, e1, e2, e3⟩ := h.bx i b cs h1 h2
    exact ⟨cur, T, e1, e2, fun j x hx => (e3 j x hx).root hr⟩
  bxK b hb' := ⟨by show r.W.heap.size ≤ b; rw [hr]; exact (h.bxK b hb').1, (h.bxK b hb').2.1, hb b hb'⟩
  bxnd := h.bxnd
  lnlen := h.lnlen
  ln i L hL := by
    obtain ⟨h1, h2⟩ := h.ln i L hL
    refine ⟨h1, ?_⟩
    rcases h2 with h2 | ⟨b, cur, e1, e2, e3, e4⟩
    · exact .inl h2
    · exact .inr ⟨b, cur, e1, by show r.W.heap.size ≤ b; rw [hr]; exact e2, e3, e4⟩
  lnd := h.lnd
  kept := hk
  ok := by show WorldOk r.W; rw [hr]; exact h.ok
  nf b o v hv hb := h.nf b o v hv (by unfold Gh.base; rw [← hr]; exact hb)
theorem Inv.other {g : Gh} {st : AS} {w w' : World} (h : Inv g st w) {row : Option Nat} (hg : w.grownBy w' row) (hr : ∀ k, row = some k → g.base ≤ k ∧ k ∉ g.bx ∧ g.w0.fz k = none ∧ ∃ o : Obj, w.heap[k]? = some o ∧ o.isCells = false) : Inv g st w' := by
  have hrow : ∀ k, row = some k → ∃ o : Obj, w.heap[k]? = some o ∧ o.isCells = false := fun k e => (hr k e).2.2.2
  have hblk : ∀ b, (∀ k, row = some k → k ≠ b) → b < w.heap.size → w'.heap[b]? = w.heap[b]? := fun b hb hlt => hg.block b hlt (fun e => hb b e.symm rfl)
  refine ⟨fun b o v hv => ⟨cell_kept (h.K b o v hv).1 hg hrow, (h.K b o v hv).2⟩, h.bxlen, fun i b cs h1 h2 => ?_, h.bxK, h.bxnd, h.lnlen, fun i L hL => ?_, h.lnd, ?_, h.ok, fun b o v hv hb => by
    rw [hblk b (fun k e hk => by
      obtain ⟨x, hx, hc⟩ := hrow k e
      have h1 := (h.K b o v hv).1
      unfold World.cell? at h1
      rw [← hk] at h1
      simp only [hx] at h1
      cases x <;> simp [Obj.isCells] at hc h1) (World.block_lt_of_cell? w _ (h.K b o v hv).1)]
    exact h.nf b o v hv hb⟩
  · obtain ⟨cur, T, e1, e2, e3⟩ := h.bx i b cs h1 h2
    refine ⟨cur, T, ?_, e2, e3⟩
    rw [hblk b (fun k e => fun hk => (hr k e).2.1 (hk ▸ List.mem_of_getElem? h1)) e1.lt]
    exact e1
  · obtain ⟨h1, h2⟩ := h.ln i L hL
    refine ⟨h1, ?_⟩
    rcases h2 with h2 | ⟨b, cur, e1, e2, e3, e4, e5⟩
    · exact .inl h2
    · refine .inr ⟨b, cur, e1, e2, e3, ?_, e5⟩
      rw [hblk b (fun k e => fun hk => by
        obtain ⟨o, ho, hc⟩ := (hr k e).2.2.2
        rw [hk, e4] at ho
        obtain rfl := Option.some.inj ho
        cases hc) (Array.getElem?_eq_some_iff.1 e4).1]
      exact e4
  · refine ⟨⟨Below.grown h.kept.1.1 hg h.kept.1.1.size (fun k e => (hr k e).1), Nat.le_trans h.kept.1.2 hg.size⟩, fun b o hb => ?_⟩
    obtain ⟨q1, q2⟩ := h.kept.2 b o hb
    refine ⟨?_, q2⟩
    rw [hblk b (fun k e => fun hk => by
      have := (hr k e).2.2.1
      rw [hk, hb] at this
      cases this) (Array.getElem?_eq_some_iff.1 q1).1]
    exact q1
theorem isC_cells (o : Obj) : isC o = o.isCells := by cases o <;> rfl
def Has (C : Nat → Nat → Option Value) (W : World) : Prop := ∀ b o v, C b o = some v → W.cell? ⟨b, o, none⟩ = some v
def KpC (C : Nat → Nat → Option Value) (A B : World) : Prop := Has C A → Has C B
def bodyK {α : Type} (n m : Nat) (st : AS) (J : List α → AS → Prop) (Jx : Code → List α → AS → Prop) (xs : List α) : Post
  | .normal, _, st' => BoxesOk st st' ∧ J xs (st'.cut n m)
  | .exit id, _, st' => BoxesOk st st' ∧ Jx (.exit id) xs (st'.cut n m)
  | _, _, _ => False
section
variable {α : Type} {n m : Nat} {st st' : AS} {J : List α → AS → Prop} {Jx : Code → List α → AS → Prop} {xs : List α} {fr : AFr}
theorem bodyK_normal : bodyK n m st J Jx xs .normal fr st' = (BoxesOk st st' ∧ J xs (st'.cut n m)) := no_rfl rfl
theorem bodyK_exit {id : Nat} : bodyK n m st J Jx xs (.exit id) fr st' = (BoxesOk st st' ∧ Jx (.exit id) xs (st'.cut n m)) := no_rfl rfl
instance instPF_body : PF (bodyK n m st J Jx xs) := ⟨fun v fr fr' st h => h⟩
end
theorem range_run {P : Program} {α : Type} {g : Operand} {ps : Array Tmp} {assign body : Code} {Q : Exit → Act → World → Prop} {D : FixD} {g3 : Gh} {st3 : AS} {a3 : Act} {w3 : World}
    (hi : Inv g3 st3 w3) {gf : Nat} {lb : Array Value} (hg : a3.eval g = .func (.func gf) #[] lb) (eg : ∀ args w, (callFunc gf args).run P w = .ok (.enter gf args) w)
    {encs : α → Array Value} {C : Nat → Nat → Option Value} {S Sp : List α → Prop} {N : Nat} (hseq : SeqStopsK Fence.wide 1 P gf lb encs (KpC C) S Sp N w3) (hps : ∀ x, (encs x).size = ps.size)
    (J : List α → AS → Prop) (Jx : Code → List α → AS → Prop) (hC : ∀ pre st g' W, J pre st → g3.le g' → Inv g' st W → Has C W)
    (hJ : ∀ pre st, J pre st → st.bx.length = st3.bx.length ∧ st.ln.length = st3.ln.length) (hJx : ∀ c pre st, Jx c pre st → st.bx.length = st3.bx.length ∧ st.ln.length = st3.ln.length) (h0 : J [] st3)
    (a₁ : α → Act) (frx : α → AFr) (hass : ∀ (l : Nat) (x : α) (W : World) (K : Act → World → Prop), K (a₁ x) W →
      assign.wpIn (Fence.wide.inRound l) (2 - 1 - 1) P (Exit.then K (fun _ _ _ => False)) { tmps := (ps.zip (encs x)).foldl (fun t (p, v) => t.setIfInBounds p v) a3.tmps, defers := [] } W)
    (hfa : ∀ x, FSim ⟨[], fun _ => none⟩ g3 (frx x) (a₁ x)) (nd : ndC body = true)
    (hbody : ∀ pre x st, J pre st → pre.length < N → awp P body (bodyK st3.bx.length st3.ln.length st J Jx (pre ++ [x])) (frx x) st)
    (hdone : ∀ (E : Nat) xs st g' W, S xs → J xs st → g3.le g' → Inv g' st W → w3.heap.size ≤ E → W.heap[E]? = some (.deferred (some [])) → Q .normal { a3 with defers := { target := .collected E, args := #[] } :: a3.defers } W)
    (hstop : ∀ (E : Nat) (c : Code) pre st g' W, Sp pre → Jx c pre st → g3.le g' → Inv g' st W → w3.heap.size ≤ E → W.heap[E]? = some (.deferred (some [])) → c.wpIn Fence.wide 2 P Q { a3 with defers := { target := .collected E, args := #[] } :: a3.defers } W) :
    (Code.rangeFunc g ps assign body).wpIn Fence.wide 2 P Q a3 w3 := by
  have bxe : ∀ st g', st.bx.length = st3.bx.length → g3.le g' → ∀ W, Inv g' st W → g'.bx = g3.bx := fun st g' hl hle W hi' => by
    refine List.ext_getElem? fun i => ?_
    have hlen : g'.bx.length = g3.bx.length := by rw [hi'.bxlen, hl, hi.bxlen]
    rcases Nat.lt_or_ge i g3.bx.length with h | h
    · rw [List.getElem?_eq_getElem h]
      exact hle.bx i _ (List.getElem?_eq_getElem h)
    · rw [List.getElem?_eq_none h, List.getElem?_eq_none (by omega)]
  have fzlt : ∀ b o, g3.w0.fz b = some o → b < w3.heap.size := fun b o hb => (Array.getElem?_eq_some_iff.1 (hi.kept.2 b o hb).1).1
  have grown : ∀ st g' W W' row, st.bx.length = st3.bx.length → g3.le g' → Inv g' st W → W.grownBy W' row → (∀ r, row = some r → w3.heap.size ≤ r ∧ ∃ o : Obj, W.heap[r]? = some o ∧ o.isCells = false) → Inv g' st W' := fun st g' W W' row hl hle hi' hgr hr => by
    refine hi'.other hgr fun k e => ?_
    obtain ⟨h1, h2⟩ := hr k e
    refine ⟨?_, fun hm => ?_, ?_, h2⟩
    · unfold Gh.base; rw [hle.w0]; exact Nat.le_trans hi.base_le h1
    · rw [bxe st g' hl hle W hi'] at hm
      have := hi.bx_lt hm
      omega
    · rw [hle.w0]
      cases hz : g3.w0.fz k with
      | none => rfl
      | some o => have := fzlt k o hz; omega
  refine wpIn_rangeFunc_ownG rfl (Nat.le_succ 1) hg trivial eg hseq (fun h k c => k (h c)) ?_ (Below.refl _ _) hps
    (fun pre W => ∃ st g', J pre st ∧ g3.le g' ∧ Inv g' st W) (fun c pre W => ∃ st g', Jx c pre st ∧ g3.le g' ∧ Inv g' st W) ?_ ?_ ⟨st3, g3, h0, .refl _, hi⟩ a₁ hass ?_ ?_ ?_
  · intro W l o o' hl hW hc _ hh b of v hv
    exact cell_kept (hh b of v hv) (grownBy_putObj' W l o') (fun r e => by cases e; exact ⟨o, hW, hc⟩)
  · rintro pre W W' row ⟨st, g', h1, h2, h3⟩ hgr hr
    exact ⟨st, g', h1, h2, grown st g' W W' row (hJ _ _ h1).1 h2 h3 hgr hr⟩
  · rintro c pre W W' row ⟨st, g', h1, h2, h3⟩ hgr hr
    exact ⟨st, g', h1, h2, grown st g' W W' row (hJx _ _ _ h1).1 h2 h3 hgr hr⟩
  · rintro l pre x W ⟨st, g', h1, h2, h3⟩ hN
    obtain ⟨l1, l2⟩ := hJ _ _ h1
    have hbx := bxe st g' l1 h2 W h3
    obtain ⟨fz, hfz⟩ : ∃ fz : Nat → Option Obj, ∀ k o, fz k = some o ↔ (w3.heap.size ≤ k ∧ W.heap[k]? = some o ∧ isC o = false) ∨ (k < w3.heap.size ∧ g3.w0.fz k = some o) := by
      refine ⟨fun k => if w3.heap.size ≤ k then (W.heap[k]?).bind (fun o => if isC o = false then some o else none) else g3.w0.fz k, fun k o => ?_⟩
      by_cases hk : w3.heap.size ≤ k
      · simp only [if_pos hk]
        constructor
        · intro h
          obtain ⟨o', e1, e2⟩ := Option.bind_eq_some_iff.1 h
          split at e2
          · rename_i hc
            obtain rfl := Option.some.inj e2
            exact .inl ⟨hk, e1, hc⟩
          · cases e2
        · rintro (⟨_, e1, e2⟩ | ⟨e1, _⟩)
          · rw [e1]; simp [e2]
          · omega
      · simp only [if_neg hk]
        constructor
        · intro h; exact .inr ⟨by omega, h⟩
        · rintro (⟨e1, _⟩ | ⟨_, e2⟩)
          · exact absurd e1 hk
          · exact e2
    obtain ⟨rt, hrt⟩ : ∃ rt : Root, rt = ⟨g'.w0.W, W.heap.size, fz⟩ := ⟨_, rfl⟩
    have hrW : rt.W = g'.w0.W := by rw [hrt]
    have hiW : Inv (g'.root rt) st W := h3.root hrW (by
      rw [hrt]
      refine ⟨⟨h3.kept.1.1, Nat.le_refl _⟩, fun b o hb => ?_⟩
      rcases (hfz b o).1 hb with ⟨_, e1, e2⟩ | ⟨_, e2⟩
      · exact ⟨e1, e2⟩
      · have := h3.kept.2 b o
        rw [h2.w0] at this
        exact this e2) (fun b hb => by
      rw [hrt]
      show fz b = none
      cases hz : fz b with
      | none => rfl
      | some o =>
        rcases (hfz b o).1 hz with ⟨e1, _⟩ | ⟨_, e2⟩
        · rw [hbx] at hb
          have := hi.bx_lt hb
          omega
        · rw [hbx] at hb
          rw [(hi.bxK b hb).2.2] at e2
          cases e2)
    have hfW : FSim ⟨[], fun _ => none⟩ (g'.root rt) (frx x) (a₁ x) := ((hfa x).mono h2).root hrW
    refine wpIn_mono (awpR_sound body _ (instPF_body (n := st3.bx.length) (m := st3.ln.length) (st := st) (J := J) (Jx := Jx) (xs := pre ++ [x])).free _ _ (hbody pre x st h1 hN) (some l) (.inr nd) ⟨[], fun _ => none⟩ (fun _ _ => rfl) (g'.root rt) _ W hiW hfW) fun e a' W' hq => ?_
    obtain ⟨g2, xx, fr', st', k1, k2, k3, k4, k5⟩ := hq
    have hw0 : g2.w0 = rt := k1.w0
    have hsize : W.heap.size ≤ W'.heap.size := by
      have := k2.kept.1.2
      rw [hw0, hrt] at this
      exact this
    have hkf : KeepsFrom w3.heap.size W W' := ⟨hsize, fun k o hk hW hc => by
      have := k2.kept.2 k o
      rw [hw0, hrt] at this
      exact (this ((hfz k o).2 (.inl ⟨hk, hW, by rw [isC_cells]; exact hc⟩))).1⟩
    have back : BoxesOk st st' → ∃ g4, g3.le g4 ∧ Inv g4 (st'.cut st3.bx.length st3.ln.length) W' := fun hb => by
      have hc := hiW.cut k1 k2 hb
      rw [l1, l2] at hc
      have hcl := k1.cut
      rw [hiW.bxlen, hiW.lnlen, l1, l2] at hcl
      refine ⟨(g2.cut st3.bx.length st3.ln.length).root g'.w0, ⟨h2.w0, fun b o v hv => hcl.K b o v (h2.K b o v hv), fun i b hb => hcl.bx i b (h2.bx i b hb), fun i L hL => ?_⟩, ?_⟩
      · obtain ⟨L', e1, e2, e3⟩ := h2.ln i L hL
        obtain ⟨L2, f1, f2, f3⟩ := hcl.ln i L' e1
        refine ⟨L2, f1, Nat.le_trans e2 f2, fun he => ?_⟩
        have e4 : L.n = L'.n := by omega
        have e5 : L'.n = L2.n := by omega
        rw [f3 e5, e3 e4]
      · refine hc.root (by show g'.w0.W = g2.w0.W; rw [hw0, hrt]) ⟨⟨?_, ?_⟩, fun b o hb => ?_⟩ (fun b hb => ?_)
        · have := k2.kept.1.1
          rw [hw0, hrt] at this
          exact this
        · exact Nat.le_trans h3.kept.1.2 hsize
        · rw [h2.w0] at hb
          have := k2.kept.2 b o
          rw [hw0, hrt] at this
          exact this ((hfz b o).2 (.inr ⟨fzlt b o hb, hb⟩))
        · have hb' : b ∈ g2.bx := List.mem_of_mem_take hb
          have hz := (k2.bxK b hb').2.2
          rw [hw0, hrt] at hz
          cases hz2 : g'.w0.fz b with
          | none => rfl
          | some o =>
            rw [h2.w0] at hz2
            have := (hfz b o).2 (.inr ⟨fzlt b o hz2, hz2⟩)
            have hz' : fz b = none := hz
            rw [this] at hz'
            cases hz'
    cases k4 with
    | normal =>
      obtain ⟨b1, b2⟩ := k5
      obtain ⟨g4, q1, q2⟩ := back b1
      exact ⟨hkf, fun _ => hC _ _ g4 W' b2 q1 q2, _, g4, b2, q1, q2⟩
    | exit id =>
      obtain ⟨b1, b2⟩ := k5
      obtain ⟨g4, q1, q2⟩ := back b1
      exact ⟨hkf, _, g4, b2, q1, q2⟩
    | ret => exact k5.elim
    | panic v z hz => exact k5.elim
  · rintro E xs W hE hS ⟨st, g', h1, h2, h3⟩ hW
    exact hdone E xs st g' W hS h1 h2 h3 hE hW
  · rintro E c pre W hE hS ⟨st, g', h1, h2, h3⟩ hW
    exact hstop E c pre st g' W hS h1 h2 h3 hE hW
end Go.Proofs.YtfheoidnahhnlaaGreatDoor
