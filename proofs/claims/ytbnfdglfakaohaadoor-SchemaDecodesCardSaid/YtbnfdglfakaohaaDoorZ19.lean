/- Merged: AvmH, LebPure. -/
import Derived.Test.YtbnfdglfakaohaaDoorZ18
/- Rows of bytes: what the older contracts say, in plain data. -/
set_option linter.unusedVariables false
set_option linter.unusedSimpArgs false
namespace Go.Proofs.YtbnfdglfakaohaaDoor
open Go.RowKit
section
variable {P : Program} {g : Gh} {st : AS} {w : World}
/-- The growing row is a new one from now on. -/
theorem Inv.lin_owned (hi : Inv g st w) {w' : World} (hk : Kept w w') {B : Nat} (hB : w.heap.size ≤ B) (C : Array Value) (e : TypeId) (sz n gc : Nat) (hgc : n ≤ gc) (hg0 : 0 < gc) (hC : C.size = gc * sz) (hw : w'.heap[B]? = some (.cells C e (0, 0))) (h1 : ∀ v ∈ C.toList.take (n * sz), oneV v = true) (idx : Nat) (ln : List Lin) (sln : List (Nat × Nat × Nat)) (hlen : ln.length = sln.length)
    (hidx : ∀ (i : Nat) L, ln[i]? = some L → if i = idx then L = ⟨some ⟨B, 0, none⟩, n, gc, e, sz⟩ ∧ sln[i]? = some (n, e, sz) else g.ln[i]? = some L ∧ sln[i]? = st.ln[i]?)
    (hle : ∀ (i : Nat) L, g.ln[i]? = some L → ∃ L', ln[i]? = some L' ∧ L.n ≤ L'.n ∧ (L.n = L'.n → L' = L)) :
    ∃ g', g.le g' ∧ g'.ln = ln ∧ Inv g' { st with ln := sln } w' ∧ ∀ (o : Nat) v, (C.toList.take (n * sz))[o]? = some v → g'.K B o = some v := by
  have H := hi.kept_ hk
  have hKn : ∀ o, g.K B o = none := fun o => by
    cases h : g.K B o with
    | none => rfl
    | some v => have := hi.K_lt h; omega
  refine ⟨{ g with K := fun b o => if b = B then (C.toList.take (n * sz))[o]? else g.K b o, ln := ln }, ?_, rfl, ?_, fun o v hv => ?_⟩
  · exact ⟨rfl, fun b o v hv => by
      have := hi.K_lt hv
      show (if b = B then _ else g.K b o) = some v
      rw [if_neg (by omega)]; exact hv, fun _ _ h => h, hle⟩
  · have hsub : g.sub { g with K := fun b o => if b = B then (C.toList.take (n * sz))[o]? else g.K b o, ln := ln } := ⟨rfl, fun b o v hv => by
      have := hi.K_lt hv
      show (if b = B then _ else g.K b o) = some v
      rw [if_neg (by omega)]; exact hv⟩
    have hle' : g.le { g with K := fun b o => if b = B then (C.toList.take (n * sz))[o]? else g.K b o, ln := ln } := ⟨rfl, hsub.K, fun _ _ h => h, hle⟩
    refine ⟨fun b o v hv => ?_, H.bxlen, fun i b cs hb hc => ?_, fun b hb => ?_, H.bxnd, hlen, fun i L hL => ?_, fun i j L L' a a' hL hL' hc1 hc2 ha ha' he => ?_, H.kept, H.ok, fun b o v hv hb => by
      by_cases e' : b = B
      · rw [e']
        intro C' T' lo hi' h
        rw [hw] at h
        cases h
        exact .inl rfl
      · exact H.nf b o v (by simpa [e'] using hv) hb⟩
    · by_cases e' : b = B
      · obtain rfl : B = b := e'.symm
        have hv' : (C.toList.take (n * sz))[o]? = some v := by simpa using hv
        refine ⟨?_, h1 v (List.mem_of_getElem? hv')⟩
        unfold World.cell?
        rw [show w'.heap[(⟨B, o, none⟩ : Addr).block]? = some (.cells C e (0, 0)) from hw]
        rw [List.getElem?_take] at hv'
        split at hv'
        · simpa using hv'
        · cases hv'
      · have hv' : g.K b o = some v := by simpa [e'] using hv
        exact H.K b o v hv'
    · obtain ⟨cur', T', h1, h2, h3⟩ := H.bx i b cs hb hc
      exact ⟨cur', T', h1, h2, fun j x hx => (h3 j x hx).mono hle'⟩
    · refine ⟨(hi.bxK b hb).1, fun o => ?_, (hi.bxK b hb).2.2⟩
      have := hi.bx_lt hb
      show (if b = B then _ else g.K b o) = none
      rw [if_neg (by omega)]; exact (hi.bxK b hb).2.1 o
    · have := hidx i L hL
      split at this
      · obtain ⟨rfl, hs⟩ := this
        refine ⟨hs, .inr ⟨B, C, rfl, Nat.le_trans hi.base_le hB, fun hm => ?_, hw, hgc, hg0, hC, fun o ho => ?_, fun o ho => ?_⟩⟩
        · have := hi.bx_lt hm; omega
        · show (if B = B then (C.toList.take (n * sz))[o]? else _) = _
          rw [if_pos rfl, List.getElem?_take, if_pos ho]; simp
        · show (if B = B then (C.toList.take (n * sz))[o]? else _) = _
          rw [if_pos rfl, List.getElem?_take, if_neg (by simp at ho; omega)]
      · obtain ⟨hL0, hs⟩ := this
        obtain ⟨k1, k2⟩ := H.ln i L hL0
        have hlt := (hi.ln i L hL0).2
        refine ⟨by rw [hs]; exact k1, ?_⟩
        rcases k2 with k2 | ⟨b, cur', e1, e2, e3, e4, e5, e6, e7, e8, e9⟩
        · exact .inl k2
        · have hb : b ≠ B := by have := (LinOk.lt hlt e6 e1).1; simp at this; omega
          refine .inr ⟨b, cur', e1, e2, e3, e4, e5, e6, e7, fun o ho => ?_, fun o ho => ?_⟩
          · show (if b = B then _ else g.K b o) = _
            rw [if_neg hb]; exact e8 o ho
          · show (if b = B then _ else g.K b o) = _
            rw [if_neg hb]; exact e9 o ho
    · have h1 := hidx i L hL
      have h2 := hidx j L' hL'
      by_cases hii : i = idx <;> by_cases hjj : j = idx
      · omega
      · rw [if_pos hii] at h1
        rw [if_neg hjj] at h2
        obtain ⟨rfl, _⟩ := h1
        obtain rfl := Option.some.inj ha
        have := (LinOk.lt (hi.ln j L' h2.1).2 hc2 ha').1
        simp at he; omega
      · rw [if_neg hii] at h1
        rw [if_pos hjj] at h2
        obtain ⟨rfl, _⟩ := h2
        obtain rfl := Option.some.inj ha'
        have := (LinOk.lt (hi.ln i L h1.1).2 hc1 ha).1
        simp at he; omega
      · rw [if_neg hii] at h1
        rw [if_neg hjj] at h2
        exact hi.lnd i j L L' a a' h1.1 h2.1 hc1 hc2 ha ha' he
  · show (if B = B then (C.toList.take (n * sz))[o]? else _) = _
    rw [if_pos rfl]; exact hv

theorem encB_getR (l : List UInt8) (j : Nat) (y : AV) (h : (encB l).flatten[j]? = some y) : ∃ b, l[j]? = some b ∧ y = .s (.int .u8 (b.toNat : Int)) := by
  rw [encB_flat, List.getElem?_map, Option.map_eq_some_iff] at h
  obtain ⟨b, h1, h2⟩ := h
  exact ⟨b, h1, h2.symm⟩
/-- Bytes in plain data are bytes in memory. -/
theorem bytes_sim {own : Bool} {tag : Tag} {l : List UInt8} {x : Value} (hi : Inv g st w) (h : VSim g (.sl own tag (encB l)) x) : ∃ A c, x = .slice A l.length c ∧ l.length ≤ c ∧ l.length ≤ 140737488355328 ∧ Bs w A l := by
  obtain ⟨A, cap, cur, rfl, c1, c2, c3, c4, c5, c6, c7, c8⟩ := sl_cells hi h (encB_lens l)
  rw [encB_len] at c1 c2 ⊢
  refine ⟨A, cap, rfl, c1, c2, ⟨fun hp => ?_⟩⟩
  have hne : (encB l).flatten ≠ [] := by
    rw [encB_flat]
    intro h0
    have : l = [] := by simpa using h0
    subst this; simp at hp
  obtain ⟨b, o, rfl, _, hK⟩ := c8 hne
  refine ⟨_, rfl, fun i hi' => ?_⟩
  have hy : (encB l).flatten[i]? = some (.s (.int .u8 (l[i].toNat : Int))) := by rw [encB_flat]; simp [hi']
  have h2 := c4.2 i _ hy
  have hic : i < cur.length := by rw [c5, encB_len]; omega
  rw [List.getD_eq_getElem?_getD, List.getElem?_eq_getElem hic] at h2
  have h3 : cur[i] = .int .u8 (l[i].toNat : Int) := h2.lit0 rfl
  have h4 := (hi.K _ _ _ (hK i _ (List.getElem?_eq_getElem hic))).1
  rw [add_spot]
  rw [h3] at h4
  simpa [List.getD_eq_getElem?_getD, hi'] using h4
/-- A call that hands back bytes of its own: a row that grows from now on. -/
theorem DoesCall.of_own {f : FuncId} {args : List AV} {R : AOut → AS → Prop} {l : List UInt8} {T : TypeId} (hl : 0 < l.length) (hl2 : l.length ≤ 140737488355328) (hR : R (.ret (.sl true (.lin st.ln.length) (encB l))) ⟨st.bx, st.ln ++ [(l.length, T, 1)]⟩)
    (h : ∀ g w vs, Inv g st w → ASim g args vs → Calls P f vs.toArray w fun e w' => ∃ A c, e = .returned (.slice A l.length c) ∧ w'.ownsRow w.heap.size T 1 (.slice A l.length c) l.length (cellsB l) ∧ Kept w w') : DoesCall P f args st R := by
  intro g w vs hi ha
  refine (h g w vs hi ha).mono ?_
  rintro e w' ⟨A, c, rfl, ⟨_, hown⟩, hk⟩
  rcases hown with ⟨h1, h2⟩ | ⟨B, cap, cur, h1, h2, h3, h4, h5, h6, h7⟩
  · omega
  · simp only [Value.slice.injEq] at h1
    obtain ⟨rfl, _, rfl⟩ := h1
    obtain ⟨g', q1, q2, q3, q4⟩ := hi.lin_owned hk h2 cur T 1 l.length c h4 (by omega) h6 h3 (by
      intro v hv
      rw [h7] at hv
      obtain ⟨b, _, rfl⟩ := List.mem_map.1 hv
      rfl) g.ln.length (g.ln ++ [⟨some ⟨B, 0, none⟩, l.length, c, T, 1⟩]) (st.ln ++ [(l.length, T, 1)]) (by simp [hi.lnlen]) (fun i L hL => by
        split
        · rename_i hii
          subst hii
          simp at hL
          subst hL
          exact ⟨rfl, by rw [hi.lnlen]; simp⟩
        · rename_i hii
          have hlt : i < g.ln.length := by
            have := (List.getElem?_eq_some_iff.1 hL).1
            simp at this
            omega
          rw [List.getElem?_append_left hlt] at hL
          exact ⟨hL, by rw [List.getElem?_append_left (by rw [← hi.lnlen]; exact hlt)]⟩)
      (fun i L hL => ⟨L, by rw [List.getElem?_append_left (List.getElem?_eq_some_iff.1 hL).1]; exact hL, Nat.le_refl _, fun _ => rfl⟩)
    refine ⟨g', _, _, q1, q3, .ret _ _ ?_, hR⟩
    rw [h7] at q4
    have := encB_len l
    have hsl : VSim g' (.sl true (.lin st.ln.length) (encB l)) (.slice (some ⟨B, 0, none⟩) (encB l).length c) := by
      refine .sl true _ (encB l) (some ⟨B, 0, none⟩) c 1 (fun j => (cellsB l).getD j undef) (by omega) (by omega) (encB_lens l) (fun j y hy => ?_) (fun _ => ⟨B, 0, rfl, fun _ => by rw [show g'.base = g.base by unfold Gh.base; rw [q1.w0]]; exact Nat.le_trans hi.base_le h2, fun j y hy => ?_⟩) (fun j y hy => ?_) ?_
      · obtain ⟨b, _, rfl⟩ := encB_getR l j y hy
        exact ⟨rfl, rfl⟩
      · obtain ⟨b, hb, rfl⟩ := encB_getR l j y hy
        rw [Nat.zero_add]
        refine q4 j _ ?_
        rw [List.getD_eq_getElem?_getD]
        simp [cellsB, hb]
      · obtain ⟨b, hb, rfl⟩ := encB_getR l j y hy
        rw [List.getD_eq_getElem?_getD]
        simp [cellsB, hb]
        exact .s _ rfl
      · refine ⟨⟨some ⟨B, 0, none⟩, l.length, c, T, 1⟩, by rw [q2, ← hi.lnlen]; simp, by rw [this]; exact Nat.le_refl _, fun _ => ⟨rfl, rfl⟩⟩
    rwa [this] at hsl
end
/-! ### Bytes behind bytes -/
theorem encB_app (l m : List UInt8) : encB l ++ encB m = encB (l ++ m) := by simp [encB]
theorem encB_one1 {x : Int} {b : UInt8} (h : (b.toNat : Int) = x) : [[AV.s (.int .u8 x)]] = encB [b] := by subst h; rfl
theorem aapp_bytes {e id : Nat} {own : Bool} {l m : List UInt8} {news : List (List AV)} {B : List (List AV)} {L : List (Nat × Nat × Nat)} {K : AV → AS → Prop} (hm : news = encB m) (hL : L[id]? = some (l.length, e, 1))
    (hb : l.length + m.length ≤ 140737488355328) (h : K (.sl true (.lin id) (encB (l ++ m))) ⟨B, L.set id (l.length + m.length, e, 1)⟩) : aapp e 1 1 (.sl own (.lin id) (encB l)) news ⟨B, L⟩ K := by
  subst hm
  refine ⟨by rw [encB_len, encB_len]; omega, by rw [encB_len]; exact hL, encB_lens l, ?_⟩
  rw [encB_app, encB_len, List.length_append]
  exact h
theorem set_in {α : Type} {L : List α} {id : Nat} {x y : α} {r : List α} (h : L[id]? = some y) : (L ++ r).set id x = L.set id x ++ r := List.set_append_left _ _ (List.getElem?_eq_some_iff.1 h).1
theorem get_in {α : Type} {L : List α} {id : Nat} {y : α} {r : List α} (h : L[id]? = some y) : (L ++ r)[id]? = some y := by rw [List.getElem?_append_left (List.getElem?_eq_some_iff.1 h).1]; exact h
theorem set_same {α : Type} {L : List α} {id : Nat} {y : α} (h : L[id]? = some y) : L.set id y = L := by
  obtain ⟨h1, rfl⟩ := List.getElem?_eq_some_iff.1 h
  exact List.set_getElem_self h1
theorem get_set {α : Type} {L : List α} {id : Nat} {x y : α} (h : L[id]? = some y) : (L.set id x)[id]? = some x := by
  rw [List.getElem?_set_self (List.getElem?_eq_some_iff.1 h).1]
theorem get_set_in {α : Type} {L : List α} {id : Nat} {x y : α} {r : List α} (h : L[id]? = some y) : (L.set id x ++ r)[id]? = some x := get_in (get_set h)
theorem set_set_in {α : Type} {L : List α} {id : Nat} {x y z : α} {r : List α} (h : L[id]? = some y) : (L.set id x ++ r).set id z = L.set id z ++ r := by
  rw [set_in (get_set h), List.set_set]
/-- The end of a function that laid bytes behind a row that it was handed. -/
theorem end_keep {st : AS} {id e : Nat} {own : Bool} {l : List UInt8} {n k : Nat} {l1 : List (List AV)} {r : List (Nat × Nat × Nat)} {R : AOut → AS → Prop} (h : st.ln[id]? = some (n, e, 1)) (hR : R (.ret (.sl own (.lin id) (encB l))) ⟨st.bx, st.ln.set id (k, e, 1)⟩) :
    RetForm st (.sl own (.lin id) (encB l)) ⟨st.bx ++ l1, st.ln.set id (k, e, 1) ++ r⟩ R := by
  have hlt := (List.getElem?_eq_some_iff.1 h).1
  refine .keep (InB_lin.2 hlt) .app ?_
  have : AS.cut ⟨st.bx ++ l1, st.ln.set id (k, e, 1) ++ r⟩ st.bx.length st.ln.length = ⟨st.bx, st.ln.set id (k, e, 1)⟩ := by
    simp only [AS.cut, List.take_left]
    congr 1
    rw [List.take_append_of_le_length (by simp), List.take_of_length_le (by simp)]
  rw [this]
  exact hR
def GApp (P : Program) (e : Nat) (f : FuncId) (args : List AV) (news : List UInt8) : Prop :=
  ∀ (st : AS) (id : Nat) (own : Bool) (l : List UInt8) (R : AOut → AS → Prop), st.ln[id]? = some (l.length, e, 1) → l.length + news.length ≤ 140737488355328 → R (.ret (.sl true (.lin id) (encB (l ++ news)))) ⟨st.bx, st.ln.set id (l.length + news.length, e, 1)⟩ →
    DoesCall P f (.sl own (.lin id) (encB l) :: args) st R
theorem app_end {R : AOut → AS → Prop} {bx : List (List AV)} {L : List (Nat × Nat × Nat)} {id e n n' : Nat} {a a' : List UInt8} (h : R (.ret (.sl true (.lin id) (encB a))) ⟨bx, L.set id (n, e, 1)⟩) (h1 : a = a') (h2 : n = n') :
    R (.ret (.sl true (.lin id) (encB a'))) ⟨bx, L.set id (n', e, 1)⟩ := by subst h1 h2; exact h
end Go.Proofs.YtbnfdglfakaohaaDoor
/- Numbers as bytes, seven bits a byte: the bytes of a number, the number that bytes begin with, and that the two are each other's; plain lists and numbers, no program. -/
namespace Go.Proofs.YtbnfdglfakaohaaDoor

/-- The bytes of n. -/
def put (n : Nat) : List UInt8 :=
  if h : n < 128 then [UInt8.ofNat n] else UInt8.ofNat (n % 128 + 128) :: put (n / 128)
termination_by n
decreasing_by omega

theorem put_lt {n : Nat} (h : n < 128) : put n = [UInt8.ofNat n] := by rw [put, dif_pos h]
theorem put_ge {n : Nat} (h : ¬ n < 128) : put n = UInt8.ofNat (n % 128 + 128) :: put (n / 128) := by rw [put, dif_neg h]

theorem put_pos (n : Nat) : 0 < (put n).length := by
  by_cases h : n < 128
  · rw [put_lt h]; simp
  · rw [put_ge h]; simp

/-- at most k bytes where n is below 128 ^ k -/
theorem put_len (k : Nat) : ∀ n, 0 < k → n < 128 ^ k → (put n).length ≤ k := by
  induction k with
  | zero => intro n h; omega
  | succ k ih =>
    intro n _ hn
    by_cases h : n < 128
    · rw [put_lt h]; simp
    · rw [put_ge h]
      have hk : 0 < k := by
        rcases Nat.eq_zero_or_pos k with h0 | h0
        · subst h0; simp at hn; omega
        · exact h0
      have := ih (n / 128) hk (by rw [Nat.pow_succ] at hn; exact Nat.div_lt_of_lt_mul (by omega))
      simp; omega
theorem put_ten {n : Nat} (h : n < 18446744073709551616) : (put n).length ≤ 10 := put_len 10 n (by omega) (by omega)

/-- What bytes begin with: a number, how many bytes it has, an error; k bytes of it stand ahead. -/
def getR : Nat → List UInt8 → Nat × Nat × Int
  | _, [] => (0, 0, 30)
  | k, c :: s =>
    if (k = 9 ∧ 1 < c.toNat) ∨ (c.toNat = 0 ∧ 0 < k) then (0, 0, 5)
    else if c.toNat < 128 then (c.toNat, 1, 0)
    else if (getR (k + 1) s).2.2 = 0 then (c.toNat - 128 + 128 * (getR (k + 1) s).1, (getR (k + 1) s).2.1 + 1, 0) else getR (k + 1) s

/-- The number that l begins with. -/
def get (l : List UInt8) : Nat × Nat × Int := getR 0 l

theorem get_nil : get [] = (0, 0, 30) := rfl

theorem pow_down {k n : Nat} (hk : k < 9) (h : n < 2 ^ (64 - 7 * k)) : n / 128 < 2 ^ (64 - 7 * (k + 1)) := by
  have e : 64 - 7 * k = (64 - 7 * (k + 1)) + 7 := by omega
  rw [e, Nat.pow_add] at h
  exact Nat.div_lt_of_lt_mul (by omega)
theorem pow_up {k n : Nat} (hk : k < 9) (c : Nat) (hc : c < 128) (h : n < 2 ^ (64 - 7 * (k + 1))) : c + 128 * n < 2 ^ (64 - 7 * k) := by
  have e : 64 - 7 * k = (64 - 7 * (k + 1)) + 7 := by omega
  rw [e, Nat.pow_add]
  omega

/-- a number's bytes are read as it, whatever stands behind them -/
theorem getR_put : ∀ (n k : Nat) (t : List UInt8), k ≤ 9 → n < 2 ^ (64 - 7 * k) → (0 < k → 0 < n) → getR k (put n ++ t) = (n, (put n).length, 0) := by
  intro n
  induction n using Nat.strongRecOn with
  | _ n ih =>
    intro k t hk hn h0
    by_cases h : n < 128
    · rw [put_lt h]
      have e : (UInt8.ofNat n).toNat = n := by simp; omega
      simp only [List.cons_append, List.nil_append, getR, e, List.length_singleton]
      rw [if_neg, if_pos h]
      rintro (⟨rfl, h1⟩ | ⟨h1, h2⟩)
      · simp at hn; omega
      · have := h0 h2; omega
    · rw [put_ge h]
      have e : (UInt8.ofNat (n % 128 + 128)).toNat = n % 128 + 128 := by simp; omega
      have hk9 : k < 9 := by
        rcases Nat.lt_or_ge k 9 with h1 | h1
        · exact h1
        · have : k = 9 := by omega
          subst this
          simp at hn; omega
      have hr := ih (n / 128) (by omega) (k + 1) t (by omega) (pow_down hk9 hn) (fun _ => by omega)
      simp only [List.cons_append, getR, e, List.length_cons]
      rw [if_neg (by omega), if_neg (by omega), hr]
      simp only [if_true]
      have : n % 128 + 128 - 128 + 128 * (n / 128) = n := by omega
      rw [this]

theorem get_put {n : Nat} (t : List UInt8) (hn : n < 18446744073709551616) : get (put n ++ t) = (n, (put n).length, 0) :=
  getR_put n 0 t (by omega) (by simpa using hn) (by omega)

/-- what is read has just the bytes that were read -/
theorem getR_ok : ∀ (s : List UInt8) (k n u : Nat), k ≤ 9 → getR k s = (n, u, 0) → 0 < u ∧ u ≤ s.length ∧ s.take u = put n ∧ n < 2 ^ (64 - 7 * k) ∧ (0 < k → 0 < n) := by
  intro s
  induction s with
  | nil => intro k n u _ h; simp [getR] at h
  | cons c s ih =>
    intro k n u hk h
    simp only [getR] at h
    have hc := c.toNat_lt
    by_cases h1 : (k = 9 ∧ 1 < c.toNat) ∨ (c.toNat = 0 ∧ 0 < k)
    · rw [if_pos h1] at h; simp at h
    · rw [if_neg h1] at h
      by_cases h2 : c.toNat < 128
      · rw [if_pos h2] at h
        simp only [Prod.mk.injEq, and_true] at h
        obtain ⟨rfl, rfl⟩ := h
        refine ⟨by omega, by simp, ?_, ?_, by omega⟩
        · rw [put_lt h2]; simp
        · rcases Nat.lt_or_ge k 9 with h9 | h9
          · have : 2 ^ 7 ≤ 2 ^ (64 - 7 * k) := Nat.pow_le_pow_right (by omega) (by omega)
            omega
          · have : k = 9 := by omega
            subst this
            simp; omega
      · rw [if_neg h2] at h
        by_cases h3 : (getR (k + 1) s).2.2 = 0
        · rw [if_pos h3] at h
          simp only [Prod.mk.injEq, and_true] at h
          obtain ⟨rfl, rfl⟩ := h
          have hk9 : k < 9 := by
            rcases Nat.lt_or_ge k 9 with h9 | h9
            · exact h9
            · exact absurd (Or.inl ⟨by omega, by omega⟩) h1
          obtain ⟨i1, i2, i3, i4, i5⟩ := ih (k + 1) (getR (k + 1) s).1 (getR (k + 1) s).2.1 (by omega) (by rw [← h3])
          have i6 := i5 (by omega)
          refine ⟨by omega, by simp; omega, ?_, pow_up hk9 _ (by omega) i4, by omega⟩
          rw [put_ge (by omega)]
          have e1 : (c.toNat - 128 + 128 * (getR (k + 1) s).1) % 128 + 128 = c.toNat := by omega
          have e2 : (c.toNat - 128 + 128 * (getR (k + 1) s).1) / 128 = (getR (k + 1) s).1 := by omega
          rw [e1, e2, List.take_succ_cons, i3]
          simp
        · rw [if_neg h3] at h
          rw [h] at h3
          exact absurd rfl h3

theorem get_ok {s : List UInt8} {n u : Nat} (h : get s = (n, u, 0)) : 0 < u ∧ u ≤ s.length ∧ s.take u = put n ∧ n < 18446744073709551616 := by
  obtain ⟨h1, h2, h3, h4, _⟩ := getR_ok s 0 n u (by omega) h
  exact ⟨h1, h2, h3, by simpa using h4⟩

/-- an error comes with nothing -/
theorem getR_err : ∀ (s : List UInt8) (k : Nat), (getR k s).2.2 ≠ 0 → (getR k s).1 = 0 ∧ (getR k s).2.1 = 0 := by
  intro s
  induction s with
  | nil => intro k _; simp [getR]
  | cons c s ih =>
    intro k h
    simp only [getR] at h ⊢
    split
    · simp
    · rename_i h1
      rw [if_neg h1] at h
      split
      · rename_i h2; rw [if_pos h2] at h; simp at h
      · rename_i h2
        rw [if_neg h2] at h
        split
        · rename_i h3; rw [if_pos h3] at h; simp at h
        · rename_i h3; exact ih _ h3
theorem getR_errs : ∀ (s : List UInt8) (k : Nat), (getR k s).2.2 = 0 ∨ (getR k s).2.2 = 5 ∨ (getR k s).2.2 = 30 := by
  intro s
  induction s with
  | nil => intro k; simp [getR]
  | cons c s ih =>
    intro k
    simp only [getR]
    split
    · simp
    · split
      · simp
      · split
        · simp
        · exact ih _

/-! ### reading, round by round -/
/-- What is told once j bytes have come to acc, and r is what stands behind them. -/
def glue (j acc : Nat) (r : Nat × Nat × Int) : Nat × Nat × Int := if r.2.2 = 0 then (acc + 2 ^ (7 * j) * r.1, j + r.2.1, 0) else r

theorem glue_start (s : List UInt8) : get s = glue 0 0 (getR 0 s) := by
  unfold glue get
  split
  · rename_i h
    simp only [Nat.mul_zero, Nat.pow_zero, Nat.one_mul, Nat.zero_add]
    rw [← h]
  · rfl
theorem glue_form {s t : List UInt8} {j acc : Nat} {b : UInt8} (h : get s = glue j acc (getR j (b :: t))) (hb : (j = 9 ∧ 1 < b.toNat) ∨ (b.toNat = 0 ∧ 0 < j)) : get s = (0, 0, 5) := by
  rw [h, getR, if_pos hb]; rfl
theorem glue_ok {s t : List UInt8} {j acc : Nat} {b : UInt8} (h : get s = glue j acc (getR j (b :: t))) (hb : ¬ ((j = 9 ∧ 1 < b.toNat) ∨ (b.toNat = 0 ∧ 0 < j))) (h1 : b.toNat < 128) :
    get s = (acc + b.toNat * 2 ^ (7 * j), j + 1, 0) := by
  rw [h, getR, if_neg hb, if_pos h1]
  simp [glue, Nat.mul_comm]
theorem glue_more {s t : List UInt8} {j acc : Nat} {b : UInt8} (h : get s = glue j acc (getR j (b :: t))) (hb : ¬ ((j = 9 ∧ 1 < b.toNat) ∨ (b.toNat = 0 ∧ 0 < j))) (h1 : ¬ b.toNat < 128) :
    get s = glue (j + 1) (acc + (b.toNat - 128) * 2 ^ (7 * j)) (getR (j + 1) t) := by
  rw [h, getR, if_neg hb, if_neg h1]
  unfold glue
  by_cases h3 : (getR (j + 1) t).2.2 = 0
  · simp only [h3, if_true]
    have e : 2 ^ (7 * (j + 1)) = 128 * 2 ^ (7 * j) := by rw [show 7 * (j + 1) = 7 * j + 7 by omega, Nat.pow_add]; omega
    rw [e]
    simp only [Prod.mk.injEq, and_true]
    refine ⟨?_, by omega⟩
    rw [Nat.mul_add, Nat.add_assoc, Nat.mul_comm (b.toNat - 128)]
    congr 2
    rw [← Nat.mul_assoc, Nat.mul_comm (2 ^ (7 * j)) 128]
  · simp only [h3, if_false]
theorem glue_end {s : List UInt8} {j acc : Nat} (h : get s = glue j acc (getR j [])) : get s = (0, 0, 30) := by
  rw [h, getR]; rfl

/-! ### the same, by the bytes at the head that are 128 or more -/
def horner : List UInt8 → Nat
  | [] => 0
  | c :: t => c.toNat % 128 + 128 * horner t
theorem horner_snoc : ∀ (l : List UInt8) (c : UInt8), horner (l ++ [c]) = horner l + (c.toNat % 128) * 2 ^ (7 * l.length)
  | [], c => by simp [horner]
  | b :: t, c => by
    simp only [List.cons_append, horner, horner_snoc t c, List.length_cons]
    rw [show 7 * (t.length + 1) = 7 * t.length + 7 by omega, Nat.pow_add, Nat.mul_add, Nat.add_assoc]
    congr 2
    rw [show (2 : Nat) ^ 7 = 128 from rfl, Nat.mul_comm (2 ^ (7 * t.length)) 128, ← Nat.mul_assoc, ← Nat.mul_assoc, Nat.mul_comm 128 (c.toNat % 128)]
theorem horner_lt : ∀ (l : List UInt8), horner l < 2 ^ (7 * l.length)
  | [] => by simp [horner]
  | b :: t => by
    have := horner_lt t
    simp only [horner, List.length_cons]
    rw [show 7 * (t.length + 1) = 7 * t.length + 7 by omega, Nat.pow_add]
    omega
theorem horner_drop_le (l : List UInt8) : ∀ i, horner (l.drop i) ≤ horner l := by
  induction l with
  | nil => intro i; simp
  | cons b t ih =>
    intro i
    cases i with
    | zero => simp
    | succ i => have := ih i; simp only [List.drop_succ_cons, horner]; omega
theorem take_snoc {s : List UInt8} {k : Nat} {b : UInt8} (h : s[k]? = some b) : s.take (k + 1) = s.take k ++ [b] := by
  obtain ⟨h1, h2⟩ := List.getElem?_eq_some_iff.1 h
  rw [List.take_succ_eq_append_getElem h1, h2]
theorem drop_cons {s : List UInt8} {k : Nat} {b : UInt8} (h : s[k]? = some b) : s.drop k = b :: s.drop (k + 1) := by
  obtain ⟨h1, h2⟩ := List.getElem?_eq_some_iff.1 h
  rw [List.drop_eq_getElem_cons h1, h2]

/-- the first k bytes of s are 128 or more -/
def Lead (s : List UInt8) (k : Nat) : Prop := ∀ i b, i < k → s[i]? = some b → 128 ≤ b.toNat
theorem Lead.succ {s : List UInt8} {k : Nat} {b : UInt8} (h : Lead s k) (hb : s[k]? = some b) (h1 : 128 ≤ b.toNat) : Lead s (k + 1) := by
  intro i c hi hc
  rcases Nat.lt_or_ge i k with h2 | h2
  · exact h i c h2 hc
  · obtain rfl : i = k := by omega
    rw [hb] at hc
    obtain rfl := Option.some.inj hc
    exact h1
theorem lead_glue {s : List UInt8} : ∀ (k : Nat), Lead s k → k ≤ 9 → k ≤ s.length → get s = glue k (horner (s.take k)) (getR k (s.drop k)) := by
  intro k
  induction k with
  | zero => intro _ _ _; simpa [horner] using glue_start s
  | succ k ih =>
    intro h hk hl
    have hb : s[k]? = some s[k] := List.getElem?_eq_getElem (by omega)
    have h1 := h k _ (by omega) hb
    have := ih (fun i c hi hc => h i c (by omega) hc) (by omega) (by omega)
    rw [drop_cons hb] at this
    have hg := glue_more this (by omega) (by omega)
    rw [hg, take_snoc hb, horner_snoc, List.length_take, Nat.min_eq_left (by omega)]
    have e : (s[k]).toNat % 128 = (s[k]).toNat - 128 := by have := (s[k]).toNat_lt; omega
    rw [e]
theorem lead_form {s : List UInt8} {k : Nat} {b : UInt8} (h : Lead s k) (hk : k ≤ 9) (hb : s[k]? = some b) (h1 : (k = 9 ∧ 1 < b.toNat) ∨ (b.toNat = 0 ∧ 0 < k)) : get s = (0, 0, 5) := by
  have hl : k < s.length := (List.getElem?_eq_some_iff.1 hb).1
  have := lead_glue k h hk (by omega)
  rw [drop_cons hb] at this
  exact glue_form this h1
theorem lead_ok {s : List UInt8} {k : Nat} {b : UInt8} (h : Lead s k) (hk : k ≤ 9) (hb : s[k]? = some b) (h1 : ¬ ((k = 9 ∧ 1 < b.toNat) ∨ (b.toNat = 0 ∧ 0 < k))) (h2 : b.toNat < 128) : get s = (horner (s.take (k + 1)), k + 1, 0) := by
  have hl : k < s.length := (List.getElem?_eq_some_iff.1 hb).1
  have := lead_glue k h hk (by omega)
  rw [drop_cons hb] at this
  rw [glue_ok this h1 h2, take_snoc hb, horner_snoc, List.length_take, Nat.min_eq_left (by omega), Nat.mod_eq_of_lt h2]
theorem lead_short {s : List UInt8} {k : Nat} (h : Lead s k) (hk : k ≤ 9) (hl : k = s.length) : get s = (0, 0, 30) := by
  have := lead_glue k h hk (by omega)
  rw [List.drop_of_length_le (by omega)] at this
  exact glue_end this

/-- leb.Get: the number at a place, the place behind it, the error. -/
def getAt (l : List UInt8) (at_ : Int) : Nat × Int × Int :=
  if at_ < 0 then (0, 0, 30) else if (get (l.drop at_.toNat)).2.2 = 0 then ((get (l.drop at_.toNat)).1, at_ + ((get (l.drop at_.toNat)).2.1 : Int), 0) else (0, 0, (get (l.drop at_.toNat)).2.2)
theorem getAt_neg {l : List UInt8} {at_ : Int} (h : at_ < 0) : getAt l at_ = (0, 0, 30) := by rw [getAt, if_pos h]
theorem getAt_out {l : List UInt8} {at_ : Int} (h0 : ¬ at_ < 0) (h : (l.length : Int) ≤ at_) : getAt l at_ = (0, 0, 30) := by
  rw [getAt, if_neg h0, List.drop_of_length_le (by omega), get_nil]; rfl
theorem getAt_err {l : List UInt8} {k : Nat} {e : Int} (h : get (l.drop k) = (0, 0, e)) (he : e ≠ 0) : getAt l (k : Int) = (0, 0, e) := by
  rw [getAt, if_neg (by omega), Int.toNat_natCast, h, if_neg he]
theorem getAt_ok {l : List UInt8} {k n u : Nat} (h : get (l.drop k) = (n, u, 0)) : getAt l (k : Int) = (n, (k : Int) + (u : Int), 0) := by
  rw [getAt, if_neg (by omega), Int.toNat_natCast, h]; rfl
/-- what is told of a number that is read -/
theorem getAt_inv {l : List UInt8} {at_ : Int} {n : Nat} {next : Int} (h : getAt l at_ = (n, next, 0)) : ∃ k u : Nat, at_ = k ∧ next = ((k + u : Nat) : Int) ∧ get (l.drop k) = (n, u, 0) := by
  unfold getAt at h
  by_cases h0 : at_ < 0
  · rw [if_pos h0] at h; simp at h
  · rw [if_neg h0] at h
    by_cases h1 : (get (l.drop at_.toNat)).2.2 = 0
    · rw [if_pos h1] at h
      simp only [Prod.mk.injEq, and_true] at h
      obtain ⟨rfl, rfl⟩ := h
      exact ⟨at_.toNat, (get (l.drop at_.toNat)).2.1, by omega, by omega, by rw [← h1]⟩
    · rw [if_neg h1] at h
      simp only [Prod.mk.injEq] at h
      exact absurd h.2.2 h1
theorem getAt_fail {l : List UInt8} {at_ : Int} (h : (getAt l at_).2.2 ≠ 0) : getAt l at_ = (0, 0, (getAt l at_).2.2) := by
  unfold getAt at h ⊢
  by_cases h0 : at_ < 0
  · simp [h0]
  · rw [if_neg h0] at h ⊢
    by_cases h1 : (get (l.drop at_.toNat)).2.2 = 0
    · rw [if_pos h1] at h; simp at h
    · rw [if_neg h1]

/-- neither's bytes begin the other's -/
theorem put_begins {n m : Nat} (hn : n < 18446744073709551616) (hm : m < 18446744073709551616) {k : Nat} (h1 : k ≤ (put n).length) (h2 : k ≤ (put m).length) (h3 : k = (put n).length ∨ k = (put m).length)
    (h : (put n).take k = (put m).take k) : n = m := by
  have key : ∀ {n m : Nat}, n < 18446744073709551616 → m < 18446744073709551616 → (put n).length ≤ (put m).length → (put n).take (put n).length = (put m).take (put n).length → n = m := by
    intro n m hn hm hle h
    have hp : put m = put n ++ (put m).drop (put n).length := by
      conv => lhs; rw [← List.take_append_drop (put n).length (put m), ← h, List.take_length]
    have g1 := get_put (n := m) [] hm
    rw [List.append_nil, hp, get_put _ hn] at g1
    simpa using congrArg Prod.fst g1
  rcases h3 with h3 | h3
  · subst h3; exact key hn hm h2 h
  · subst h3; exact (key hm hn h1 h.symm).symm
theorem put_inj {n m : Nat} (hn : n < 18446744073709551616) (hm : m < 18446744073709551616) (h : put n = put m) : n = m :=
  put_begins hn hm (Nat.le_refl _) (by rw [h]; exact Nat.le_refl _) (.inl rfl) (by rw [h])

/-- numbers with more bytes are no smaller -/
theorem put_mono : ∀ (m n : Nat), n ≤ m → (put n).length ≤ (put m).length := by
  intro m
  induction m using Nat.strongRecOn with
  | _ m ih =>
    intro n h
    by_cases hm : m < 128
    · rw [put_lt hm, put_lt (by omega)]; simp
    · rw [put_ge hm]
      by_cases hn : n < 128
      · rw [put_lt hn]; simp
      · rw [put_ge hn]
        have := ih (m / 128) (by omega) (n / 128) (by omega)
        simp; omega

/-- a number with a sign as one without, and back -/
def zig (n : Int) : Nat := if 0 ≤ n then (2 * n).toNat else (-2 * n - 1).toNat
def zag (u : Nat) : Int := if u % 2 = 0 then (u / 2 : Nat) else -((u / 2 : Nat) : Int) - 1
theorem zag_zig (n : Int) : zag (zig n) = n := by
  unfold zag zig
  split <;> split <;> omega
theorem zig_zag (u : Nat) : zig (zag u) = u := by
  unfold zag zig
  split <;> split <;> omega
theorem zig_lt {n : Int} (h1 : -9223372036854775808 ≤ n) (h2 : n < 9223372036854775808) : zig n < 18446744073709551616 := by
  unfold zig; split <;> omega
theorem zag_range {u : Nat} (h : u < 18446744073709551616) : -9223372036854775808 ≤ zag u ∧ zag u < 9223372036854775808 := by
  unfold zag; split <;> omega
end Go.Proofs.YtbnfdglfakaohaaDoor
