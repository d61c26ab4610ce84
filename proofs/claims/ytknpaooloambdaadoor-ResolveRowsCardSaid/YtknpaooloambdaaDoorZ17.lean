/- Merged: RdPure, ExPure, PLaws, ExCPure, BackPure. -/
import Derived.Test.YtknpaooloambdaaDoorZ16
/- Reading: numbers, texts, bits, floats, values, types, columns, schemas. No program. -/
set_option linter.unusedVariables false
set_option linter.unusedSimpArgs false
namespace Go.Proofs.YtknpaooloambdaaDoor
open Go
def Rd.bind {α β : Type} : Rd α → (α → Nat → Rd β) → Rd β
  | .ok a p, f => f a p
  | .no e, _ => .no e
def rdNum (l : List UInt8) (p : Nat) : Rd Nat := if (getAt l p).2.2 = 0 then .ok (getAt l p).1 (getAt l p).2.1.toNat else .no (getAt l p).2.2
def rdText (l : List UInt8) (most : Nat) (long : Int) (p : Nat) : Rd ByteArray :=
  (rdNum l p).bind fun n q => if most < n then .no long else if l.length < q + n then .no 30 else .ok ⟨((l.drop q).take n).toArray⟩ (q + n)
def rdByte (l : List UInt8) (p : Nat) : Rd Nat := match l[p]? with | some c => .ok c.toNat (p + 1) | none => .no 30
def rdBit (l : List UInt8) (p : Nat) : Rd Nat := (rdByte l p).bind fun c q => if c < 2 then .ok c q else .no 5
/-- The number of bytes, the lowest first. -/
def ofLe : List UInt8 → Nat
  | [] => 0
  | c :: l => c.toNat + 256 * ofLe l
def rdFloat (l : List UInt8) (p : Nat) : Rd Nat :=
  if l.length < p + 8 then .no 30 else if fixB (ofLe ((l.drop p).take 8)) = ofLe ((l.drop p).take 8) then .ok (ofLe ((l.drop p).take 8)) (p + 8) else .no 5
/-- So many times, one behind the other. -/
def rdMany {α : Type} (f : Nat → Rd α) : Nat → Nat → Rd (List α)
  | 0, p => .ok [] p
  | n + 1, p => (f p).bind fun a q => (rdMany f n q).bind fun l r => .ok (a :: l) r
def rdHow (l : List UInt8) (k : Int) (p : Nat) : Rd Nat := if k = 6 then rdBit l p else (rdNum l p).bind fun n q => if 256 < n then .no 3 else .ok n q
def rdScal (l : List UInt8) (k : Int) (p : Nat) : Rd V :=
  if k = 1 then (rdBit l p).bind fun n q => .ok (.mk 1 n 0 ⟨#[]⟩ []) q
  else if k = 2 then (rdNum l p).bind fun n q => .ok (.mk 2 (zag n) 0 ⟨#[]⟩ []) q
  else if k = 3 then (rdFloat l p).bind fun n q => .ok (.mk 3 0 n ⟨#[]⟩ []) q
  else (rdText l 1024 2 p).bind fun t q => if k = 4 ∧ utf t = false then .no 61 else .ok (.mk k 0 0 t []) q
def rdBody (l : List UInt8) (k : Int) (f : Nat → Rd V) (p : Nat) : Rd V :=
  if nestK k = true then (rdHow l k p).bind fun n q => (rdMany f n q).bind fun vs r => .ok (.mk k 0 0 ⟨#[]⟩ vs) r else rdScal l k p
mutual
def rdVal (l : List UInt8) : T → Nat → Rd V
  | .mk k of, p => rdBody l k (rdHead l of) p
def rdHead (l : List UInt8) : List T → Nat → Rd V
  | [], _ => .no 1
  | u :: _, p => rdVal l u p
end
theorem rdVal_eq (l : List UInt8) (k : Int) (of : List T) (p : Nat) : rdVal l (.mk k of) p = rdBody l k (rdHead l of) p := by rw [rdVal]
/-- A type, so many depths deep at most. -/
def rdKind (l : List UInt8) : Nat → Nat → Rd T
  | 0, _ => .no 62
  | d + 1, p => (rdByte l p).bind fun k q => if k < 1 ∨ 7 < k then .no 60 else if nestK k = true then (rdKind l d q).bind fun t r => .ok (.mk k [t]) r else .ok (.mk k []) q
def rdCol (l : List UInt8) (pre : List C) (p : Nat) : Rd C :=
  (rdText l 16 70 p).bind fun n q => if nameB n = false then .no 70 else if (findC pre n).isSome = true then .no 71 else
    (rdKind l 4 q).bind fun t r => (rdBit l r).bind fun h s => if h = 1 then (rdVal l t s).bind fun v u => .ok ⟨n, t, true, v⟩ u else .ok ⟨n, t, false, zeroV⟩ s
def rdCols (l : List UInt8) : Nat → List C → Nat → Rd (List C)
  | 0, pre, p => .ok pre p
  | n + 1, pre, p => (rdCol l pre p).bind fun c q => rdCols l n (pre ++ [c]) q
def rdSch (l : List UInt8) : Rd (List C) :=
  (rdNum l 0).bind fun n p => if n = 0 then .no 4 else if 16 < n then .no 3 else (rdCols l n [] p).bind fun cs q => if q = l.length then .ok cs q else .no 5
/-! ### What is known of what is read -/
theorem Rd.bind_ok {α β : Type} {r : Rd α} {f : α → Nat → Rd β} {b : β} {q : Nat} (h : r.bind f = .ok b q) : ∃ a p, r = .ok a p ∧ f a p = .ok b q := by
  cases r with
  | ok a p => exact ⟨a, p, rfl, h⟩
  | no e => cases h
theorem rdNum_ok {l : List UInt8} {p n q : Nat} (h : rdNum l p = .ok n q) : p < q ∧ q ≤ l.length ∧ n < 18446744073709551616 ∧ getAt l p = (n, (q : Int), 0) ∧ (l.drop p).take (q - p) = put n := by
  unfold rdNum at h
  split at h
  · rename_i he
    injection h with h1 h2
    have h3 : getAt l p = (n, (getAt l p).2.1, 0) := by rw [← h1, ← he]
    obtain ⟨k, u, e1, e2, e3⟩ := getAt_inv h3
    obtain ⟨g1, g2, g3, g4⟩ := get_ok e3
    have e1' : p = k := by omega
    subst e1'
    rw [e2] at h2 h3
    have h2' : p + u = q := by omega
    subst h2'
    simp only [List.length_drop] at g2
    exact ⟨by omega, by omega, g4, h3, by rw [Nat.add_sub_cancel_left]; exact g3⟩
  · cases h
theorem rdNum_no {l : List UInt8} {p : Nat} {e : Int} (h : rdNum l p = .no e) : getAt l p = (0, 0, e) ∧ e ≠ 0 := by
  unfold rdNum at h
  split at h
  · cases h
  · rename_i he
    injection h with h1
    have := getAt_fail he
    rw [h1] at this he
    exact ⟨this, he⟩
theorem rdText_ok {l : List UInt8} {most p q : Nat} {long : Int} {t : ByteArray} (h : rdText l most long p = .ok t q) : p < q ∧ q ≤ l.length ∧ t.size ≤ most ∧ ∃ n r, rdNum l p = .ok n r ∧ n = t.size ∧ q = r + n ∧ t.data.toList = (l.drop r).take n := by
  obtain ⟨n, r, h1, h2⟩ := Rd.bind_ok h
  obtain ⟨k1, k2, k3, k4, _⟩ := rdNum_ok h1
  split at h2
  · cases h2
  split at h2
  · cases h2
  · rename_i a b
    injection h2 with e1 e2
    subst e1 e2
    have : (ByteArray.mk ((l.drop r).take n).toArray).size = n := by
      show ((l.drop r).take n).toArray.size = n
      simp; omega
    exact ⟨by omega, by omega, by omega, n, r, h1, this.symm, rfl, rfl⟩
theorem rdByte_ok {l : List UInt8} {p q c : Nat} (h : rdByte l p = .ok c q) : q = p + 1 ∧ p < l.length ∧ c < 256 ∧ ∃ b, l[p]? = some b ∧ b.toNat = c := by
  unfold rdByte at h
  split at h
  · rename_i b hb
    injection h with h1 h2
    exact ⟨h2.symm, (List.getElem?_eq_some_iff.1 hb).1, by rw [← h1]; exact b.toNat_lt, b, hb, h1⟩
  · cases h
theorem rdBit_ok {l : List UInt8} {p q c : Nat} (h : rdBit l p = .ok c q) : q = p + 1 ∧ p < l.length ∧ c < 2 ∧ ∃ b, l[p]? = some b ∧ b.toNat = c := by
  obtain ⟨a, r, h1, h2⟩ := Rd.bind_ok h
  obtain ⟨k1, k2, k3, k4⟩ := rdByte_ok h1
  split at h2
  · rename_i hc
    injection h2 with e1 e2
    subst e1 e2
    exact ⟨k1, k2, hc, k4⟩
  · cases h2
theorem rdFloat_ok {l : List UInt8} {p q b : Nat} (h : rdFloat l p = .ok b q) : q = p + 8 ∧ q ≤ l.length ∧ fixB b = b ∧ b = ofLe ((l.drop p).take 8) := by
  unfold rdFloat at h
  split at h
  · cases h
  split at h
  · rename_i h1 h2
    injection h with e1 e2
    subst e1 e2
    exact ⟨rfl, by omega, h2, rfl⟩
  · cases h
/-- Some have been read: the rest. -/
theorem rdMany_step {α : Type} {f : Nat → Rd α} {n k p q r : Nat} {vs : List α} {a : α} (h : rdMany f n p = (rdMany f (n - k) q).bind fun l r => .ok (vs ++ l) r) (hk : k < n) (ha : f q = .ok a r) :
    rdMany f n p = (rdMany f (n - (k + 1)) r).bind fun l r => .ok ((vs ++ [a]) ++ l) r := by
  rw [h]
  have e : n - k = (n - (k + 1)) + 1 := by omega
  rw [e, rdMany, ha]
  simp only [Rd.bind]
  cases rdMany f (n - (k + 1)) r with
  | ok l s => simp
  | no e => rfl
theorem rdMany_stop {α : Type} {f : Nat → Rd α} {n k p q : Nat} {vs : List α} {e : Int} (h : rdMany f n p = (rdMany f (n - k) q).bind fun l r => .ok (vs ++ l) r) (hk : k < n) (ha : f q = .no e) : rdMany f n p = .no e := by
  rw [h]
  have e : n - k = (n - (k + 1)) + 1 := by omega
  rw [e, rdMany, ha]
  rfl
theorem rdMany_end {α : Type} {f : Nat → Rd α} {n p q : Nat} {vs : List α} (h : rdMany f n p = (rdMany f (n - n) q).bind fun l r => .ok (vs ++ l) r) : rdMany f n p = .ok vs q := by
  rw [h, Nat.sub_self]
  simp [rdMany, Rd.bind]
theorem rdMany_zero {α : Type} {f : Nat → Rd α} {n p : Nat} : rdMany f n p = (rdMany f (n - 0) p).bind fun l r => .ok ([] ++ l) r := by
  rw [Nat.sub_zero]
  cases rdMany f n p <;> rfl
theorem rdMany_ok {α : Type} {f : Nat → Rd α} (P : Nat → Prop) (hf : ∀ p a q, P p → f p = .ok a q → P q) : ∀ (n p : Nat) (l : List α) (q : Nat), P p → rdMany f n p = .ok l q → P q ∧ l.length = n
  | 0, p, l, q, hp, h => by
    rw [rdMany] at h
    injection h with h1 h2
    subst h1 h2
    exact ⟨hp, rfl⟩
  | n + 1, p, l, q, hp, h => by
    rw [rdMany] at h
    obtain ⟨a, r, h1, h2⟩ := Rd.bind_ok h
    obtain ⟨l', s, h3, h4⟩ := Rd.bind_ok h2
    injection h4 with e1 e2
    subst e1 e2
    obtain ⟨k1, k2⟩ := rdMany_ok P hf n r l' s (hf _ _ _ hp h1) h3
    exact ⟨k1, by simp [k2]⟩
theorem rdScal_le {l : List UInt8} {k : Int} {p q : Nat} {v : V} (h : rdScal l k p = .ok v q) : p ≤ q ∧ q ≤ l.length := by
  unfold rdScal at h
  split at h
  · obtain ⟨n, r, h1, h2⟩ := Rd.bind_ok h
    injection h2 with e1 e2
    have := rdBit_ok h1
    omega
  split at h
  · obtain ⟨n, r, h1, h2⟩ := Rd.bind_ok h
    injection h2 with e1 e2
    have := rdNum_ok h1
    omega
  split at h
  · obtain ⟨n, r, h1, h2⟩ := Rd.bind_ok h
    injection h2 with e1 e2
    have := rdFloat_ok h1
    omega
  · obtain ⟨n, r, h1, h2⟩ := Rd.bind_ok h
    split at h2
    · cases h2
    · injection h2 with e1 e2
      have := rdText_ok h1
      omega
theorem rdHow_ok {l : List UInt8} {k : Int} {p q n : Nat} (h : rdHow l k p = .ok n q) : p < q ∧ q ≤ l.length ∧ n ≤ 256 ∧ (k = 6 → n < 2) := by
  unfold rdHow at h
  split at h
  · have := rdBit_ok h
    omega
  · obtain ⟨m, r, h1, h2⟩ := Rd.bind_ok h
    have := rdNum_ok h1
    split at h2
    · cases h2
    · injection h2 with e1 e2
      omega
mutual
theorem rdVal_le (l : List UInt8) : ∀ (u : T) (p : Nat) (v : V) (q : Nat), rdVal l u p = .ok v q → p ≤ q ∧ q ≤ l.length
  | .mk k m, p, v, q, h => by
    rw [rdVal_eq] at h
    unfold rdBody at h
    split at h
    · obtain ⟨n, r, h1, h2⟩ := Rd.bind_ok h
      obtain ⟨vs, s, h3, h4⟩ := Rd.bind_ok h2
      injection h4 with e1 e2
      have hh := rdHow_ok h1
      have := (rdMany_ok (fun x => r ≤ x ∧ x ≤ l.length) (fun a b c hp hc => by have := rdHead_le l m a b c hc; omega) n r vs s (by omega) h3).1
      omega
    · exact rdScal_le h
theorem rdHead_le (l : List UInt8) : ∀ (m : List T) (p : Nat) (v : V) (q : Nat), rdHead l m p = .ok v q → p ≤ q ∧ q ≤ l.length
  | [], p, v, q, h => by rw [rdHead] at h; cases h
  | u :: _, p, v, q, h => by rw [rdHead] at h; exact rdVal_le l u p v q h
end
theorem rdKind_ok (l : List UInt8) : ∀ (n p : Nat) (t : T) (q : Nat), n ≤ 4 → rdKind l n p = .ok t q → p < q ∧ q ≤ l.length ∧ chkT t (5 - n) = 0
  | 0, p, t, q, _, h => by rw [rdKind] at h; cases h
  | n + 1, p, t, q, hn, h => by
    rw [rdKind] at h
    obtain ⟨k, r, h1, h2⟩ := Rd.bind_ok h
    have hb := rdByte_ok h1
    split at h2
    · cases h2
    rename_i hk
    split at h2
    · rename_i hnk
      obtain ⟨u, s, h3, h4⟩ := Rd.bind_ok h2
      injection h4 with e1 e2
      subst e1 e2
      obtain ⟨g1, g2, g3⟩ := rdKind_ok l n r u s (by omega) h3
      refine ⟨by omega, g2, ?_⟩
      rw [chkT_eq, if_neg (by omega), if_neg, chkTs]
      · rw [show 5 - (n + 1) + 1 = 5 - n by omega]; exact g3
      · unfold badK
        rw [hnk]
        simp
        omega
    · rename_i hnk
      injection h2 with e1 e2
      subst e1 e2
      refine ⟨by omega, by omega, ?_⟩
      rw [chkT_eq, if_neg (by omega), if_neg, chkTs]
      unfold badK
      have : nestK (k : Int) = false := by simpa using hnk
      rw [this]
      simp
      omega
theorem rdCol_ok {l : List UInt8} {pre : List C} {p q : Nat} {c : C} (h : rdCol l pre p = .ok c q) : p < q ∧ q ≤ l.length ∧ nameB c.name = true ∧ (findC pre c.name).isSome = false ∧ chkT c.ty 1 = 0 ∧ (c.has = false → c.dflt = zeroV) := by
  unfold rdCol at h
  obtain ⟨n, r1, h1, h⟩ := Rd.bind_ok h
  have k1 := rdText_ok h1
  split at h
  · cases h
  rename_i a1
  split at h
  · cases h
  rename_i a2
  obtain ⟨t, r2, h2, h⟩ := Rd.bind_ok h
  have k2 := rdKind_ok l 4 _ _ _ (by omega) h2
  obtain ⟨b, r3, h3, h⟩ := Rd.bind_ok h
  have k3 := rdBit_ok h3
  split at h
  · obtain ⟨v, r4, h4, h⟩ := Rd.bind_ok h
    have k4 := rdVal_le l _ _ _ _ h4
    injection h with e1 e2
    subst e1 e2
    exact ⟨by omega, by omega, by simpa using a1, by simpa using a2, k2.2.2, fun h => by cases h⟩
  · injection h with e1 e2
    subst e1 e2
    exact ⟨by omega, by omega, by simpa using a1, by simpa using a2, k2.2.2, fun _ => rfl⟩
theorem rdCols_step {l : List UInt8} {n k p q r : Nat} {cs : List C} {c : C} (h : rdCols l n [] p = rdCols l (n - k) cs q) (hk : k < n) (hc : rdCol l cs q = .ok c r) : rdCols l n [] p = rdCols l (n - (k + 1)) (cs ++ [c]) r := by
  rw [h, show n - k = (n - (k + 1)) + 1 by omega, rdCols, hc]
  rfl
theorem rdCols_stop {l : List UInt8} {n k p q : Nat} {cs : List C} {e : Int} (h : rdCols l n [] p = rdCols l (n - k) cs q) (hk : k < n) (hc : rdCol l cs q = .no e) : rdCols l n [] p = .no e := by
  rw [h, show n - k = (n - (k + 1)) + 1 by omega, rdCols, hc]
  rfl
theorem rdCols_end {l : List UInt8} {n p q : Nat} {cs : List C} (h : rdCols l n [] p = rdCols l (n - n) cs q) : rdCols l n [] p = .ok cs q := by
  rw [h, Nat.sub_self, rdCols]
/-! ### An error is never nought -/
theorem Rd.bind_no {α β : Type} {r : Rd α} {f : α → Nat → Rd β} {e : Int} (h : r.bind f = .no e) : r = .no e ∨ ∃ a p, r = .ok a p ∧ f a p = .no e := by
  cases r with
  | ok a p => exact .inr ⟨a, p, rfl, h⟩
  | no e' => exact .inl (by simpa [Rd.bind] using h)
theorem rdByte_no {l : List UInt8} {p : Nat} {e : Int} (h : rdByte l p = .no e) : e ≠ 0 := by
  unfold rdByte at h
  split at h
  · cases h
  · cases h; decide
theorem rdBit_no {l : List UInt8} {p : Nat} {e : Int} (h : rdBit l p = .no e) : e ≠ 0 := by
  rcases Rd.bind_no h with h | ⟨a, q, h1, h2⟩
  · exact rdByte_no h
  · split at h2
    · cases h2
    · cases h2; decide
theorem rdText_no {l : List UInt8} {most p : Nat} {long e : Int} (hl : long ≠ 0) (h : rdText l most long p = .no e) : e ≠ 0 := by
  rcases Rd.bind_no h with h | ⟨a, q, h1, h2⟩
  · exact (rdNum_no h).2
  · split at h2
    · cases h2; exact hl
    split at h2
    · cases h2; decide
    · cases h2
theorem rdFloat_no {l : List UInt8} {p : Nat} {e : Int} (h : rdFloat l p = .no e) : e ≠ 0 := by
  unfold rdFloat at h
  split at h
  · cases h; decide
  split at h
  · cases h
  · cases h; decide
theorem rdScal_no {l : List UInt8} {k : Int} {p : Nat} {e : Int} (h : rdScal l k p = .no e) : e ≠ 0 := by
  unfold rdScal at h
  split at h
  · rcases Rd.bind_no h with h | ⟨a, q, h1, h2⟩
    · exact rdBit_no h
    · cases h2
  split at h
  · rcases Rd.bind_no h with h | ⟨a, q, h1, h2⟩
    · exact (rdNum_no h).2
    · cases h2
  split at h
  · rcases Rd.bind_no h with h | ⟨a, q, h1, h2⟩
    · exact rdFloat_no h
    · cases h2
  · rcases Rd.bind_no h with h | ⟨a, q, h1, h2⟩
    · exact rdText_no (by decide) h
    · split at h2
      · cases h2; decide
      · cases h2
theorem rdHow_no {l : List UInt8} {k : Int} {p : Nat} {e : Int} (h : rdHow l k p = .no e) : e ≠ 0 := by
  unfold rdHow at h
  split at h
  · exact rdBit_no h
  · rcases Rd.bind_no h with h | ⟨a, q, h1, h2⟩
    · exact (rdNum_no h).2
    · split at h2
      · cases h2; decide
      · cases h2
theorem rdMany_no {α : Type} {f : Nat → Rd α} (hf : ∀ p e, f p = .no e → e ≠ 0) : ∀ (n p : Nat) (e : Int), rdMany f n p = .no e → e ≠ 0
  | 0, p, e, h => by rw [rdMany] at h; cases h
  | n + 1, p, e, h => by
    rw [rdMany] at h
    rcases Rd.bind_no h with h | ⟨a, q, h1, h2⟩
    · exact hf _ _ h
    · rcases Rd.bind_no h2 with h | ⟨b, r, h3, h4⟩
      · exact rdMany_no hf n q e h
      · cases h4
mutual
theorem rdVal_no (l : List UInt8) : ∀ (u : T) (p : Nat) (e : Int), rdVal l u p = .no e → e ≠ 0
  | .mk k m, p, e, h => by
    rw [rdVal_eq] at h
    unfold rdBody at h
    split at h
    · rcases Rd.bind_no h with h | ⟨a, q, h1, h2⟩
      · exact rdHow_no h
      · rcases Rd.bind_no h2 with h | ⟨b, r, h3, h4⟩
        · exact rdMany_no (fun p e h => rdHead_no l m p e h) _ _ _ h
        · cases h4
    · exact rdScal_no h
theorem rdHead_no (l : List UInt8) : ∀ (m : List T) (p : Nat) (e : Int), rdHead l m p = .no e → e ≠ 0
  | [], p, e, h => by rw [rdHead] at h; cases h; decide
  | u :: _, p, e, h => by rw [rdHead] at h; exact rdVal_no l u p e h
end
theorem rdKind_no (l : List UInt8) : ∀ (n p : Nat) (e : Int), rdKind l n p = .no e → e ≠ 0
  | 0, p, e, h => by rw [rdKind] at h; cases h; decide
  | n + 1, p, e, h => by
    rw [rdKind] at h
    rcases Rd.bind_no h with h | ⟨a, q, h1, h2⟩
    · exact rdByte_no h
    · split at h2
      · cases h2; decide
      split at h2
      · rcases Rd.bind_no h2 with h | ⟨b, r, h3, h4⟩
        · exact rdKind_no l n q e h
        · cases h4
      · cases h2
theorem rdCol_no {l : List UInt8} {pre : List C} {p : Nat} {e : Int} (h : rdCol l pre p = .no e) : e ≠ 0 := by
  unfold rdCol at h
  rcases Rd.bind_no h with h | ⟨a, q, h1, h⟩
  · exact rdText_no (by decide) h
  split at h
  · cases h; decide
  split at h
  · cases h; decide
  rcases Rd.bind_no h with h | ⟨a, q, h1, h⟩
  · exact rdKind_no l _ _ _ h
  rcases Rd.bind_no h with h | ⟨a, q, h1, h⟩
  · exact rdBit_no h
  split at h
  · rcases Rd.bind_no h with h | ⟨a, q, h1, h⟩
    · exact rdVal_no l _ _ _ h
    · cases h
  · cases h
theorem rdCols_no {l : List UInt8} : ∀ (n : Nat) (pre : List C) (p : Nat) (e : Int), rdCols l n pre p = .no e → e ≠ 0
  | 0, pre, p, e, h => by rw [rdCols] at h; cases h
  | n + 1, pre, p, e, h => by
    rw [rdCols] at h
    rcases Rd.bind_no h with h | ⟨a, q, h1, h⟩
    · exact rdCol_no h
    · exact rdCols_no n _ _ _ h
theorem rdSch_no {l : List UInt8} {e : Int} (h : rdSch l = .no e) : e ≠ 0 := by
  unfold rdSch at h
  rcases Rd.bind_no h with h | ⟨a, q, h1, h⟩
  · exact (rdNum_no h).2
  split at h
  · cases h; decide
  split at h
  · cases h; decide
  rcases Rd.bind_no h with h | ⟨a, q, h1, h⟩
  · exact rdCols_no _ _ _ _ h
  split at h
  · cases h
  · cases h; decide
end Go.Proofs.YtknpaooloambdaaDoor
/- Two values, floats bit by bit. No program. -/
set_option linter.unusedVariables false
set_option linter.unusedSimpArgs false
namespace Go.Proofs.YtknpaooloambdaaDoor
/- Two values, floats bit by bit. -/
mutual
def exV : V → V → Bool
  | .mk k i f t l, .mk k' i' f' t' l' => decide (k = k') && decide (i = i') && decide (t = t') && decide (f = f') && exL l l'
def exL : List V → List V → Bool
  | [], [] => true
  | x :: l, y :: m => exV x y && exL l m
  | [], _ :: _ => false
  | _ :: _, [] => false
end
theorem exL_length : ∀ (l m : List V), exL l m = true → l.length = m.length
  | [], [], _ => rfl
  | x :: l, y :: m, h => by
    simp only [exL, Bool.and_eq_true] at h
    simp [exL_length l m h.2]
  | [], _ :: _, h => by simp [exL] at h
  | _ :: _, [], h => by simp [exL] at h
theorem exL_of : ∀ (l m : List V), l.length = m.length → (∀ (i : Nat) (x y : V), l[i]? = some x → m[i]? = some y → exV x y = true) → exL l m = true
  | [], [], _, _ => by simp [exL]
  | x :: l, y :: m, hl, h => by
    simp only [exL, Bool.and_eq_true]
    exact ⟨h 0 x y rfl rfl, exL_of l m (by simpa using hl) (fun i a b ha hb => h (i + 1) a b (by simpa using ha) (by simpa using hb))⟩
  | [], _ :: _, h, _ => by simp at h
  | _ :: _, [], h, _ => by simp at h
theorem exL_at : ∀ (l m : List V) (i : Nat) (x y : V), exL l m = true → l[i]? = some x → m[i]? = some y → exV x y = true
  | x :: l, y :: m, i, a, b, h, hx, hy => by
    simp only [exL, Bool.and_eq_true] at h
    cases i with
    | zero =>
      obtain rfl : x = a := by simpa using hx
      obtain rfl : y = b := by simpa using hy
      exact h.1
    | succ i => exact exL_at l m i a b h.2 (by simpa using hx) (by simpa using hy)
  | [], _, _, _, _, _, hx, _ => by simp at hx
  | _ :: _, [], _, _, _, h, _, _ => by simp [exL] at h
mutual
theorem exV_refl : ∀ v : V, exV v v = true
  | .mk k i f t l => by simp [exV, exL_refl l]
theorem exL_refl : ∀ l : List V, exL l l = true
  | [] => by simp [exL]
  | x :: l => by simp [exL, exV_refl x, exL_refl l]
end

theorem exV_eq (k i : Int) (f : Nat) (t : ByteArray) (l : List V) (k' i' : Int) (f' : Nat) (t' : ByteArray) (m : List V) : exV (.mk k i f t l) (.mk k' i' f' t' m) = (decide (k = k') && decide (i = i') && decide (t = t') && decide (f = f') && exL l m) := by rw [exV]
end Go.Proofs.YtknpaooloambdaaDoor
/- The laws of values, plainly: being the same is having the same fixed form. No program. -/
set_option linter.unusedVariables false
set_option linter.unusedSimpArgs false
namespace Go.Proofs.YtknpaooloambdaaDoor
open Go
mutual
theorem sameV_iff : ∀ a b : V, sameV a b = true ↔ mapV fixB a = mapV fixB b
  | .mk k i f t l, .mk k' i' f' t' l' => by simp [sameV, mapV, sameL_iff l l', and_assoc]
theorem sameL_iff : ∀ l m : List V, sameL l m = true ↔ mapL fixB l = mapL fixB m
  | [], [] => by simp [sameL, mapL]
  | x :: l, y :: m => by simp [sameL, mapL, sameV_iff x y, sameL_iff l m]
  | [], _ :: _ => by simp [sameL, mapL]
  | _ :: _, [] => by simp [sameL, mapL]
end
mutual
theorem exV_iff : ∀ a b : V, exV a b = true ↔ a = b
  | .mk k i f t l, .mk k' i' f' t' l' => by
    simp [exV, exL_iff l l', and_assoc]
    intro _ _
    exact ⟨fun ⟨a, b, c⟩ => ⟨b, a, c⟩, fun ⟨a, b, c⟩ => ⟨b, a, c⟩⟩
theorem exL_iff : ∀ l m : List V, exL l m = true ↔ l = m
  | [], [] => by simp [exL]
  | x :: l, y :: m => by simp [exL, exV_iff x y, exL_iff l m]
  | [], _ :: _ => by simp [exL]
  | _ :: _, [] => by simp [exL]
end
mutual
theorem map2 : ∀ a : V, mapV fixB (mapV fixB a) = mapV fixB a
  | .mk k i f t l => by simp [mapV, fixB_fixB, map2L l]
theorem map2L : ∀ l : List V, mapL fixB (mapL fixB l) = mapL fixB l
  | [] => by simp [mapL]
  | x :: l => by simp [mapL, map2 x, map2L l]
end
theorem mapL_length (g : Nat → Nat) (l : List V) : (mapL g l).length = l.length := by rw [mapL_eq, List.length_map]
theorem ownP_map (k i : Int) (f : Nat) (t : ByteArray) (l : List V) : ownP (.mk k i (fixB f) t (mapL fixB l)) ↔ ownP (.mk k i f t l) := by
  simp only [ownP, V.kind_mk, V.int_mk, V.float_mk, V.text_mk, V.items_mk, fixB_fixB, mapL_length]
mutual
theorem chk_map : ∀ (a : V) (d : Nat), chk (mapV fixB a) d = chk a d
  | .mk k i f t l, d => by
    rw [mapV, chk_eq, chk_eq, chks_map l, mapL_length]
    simp only [ownP_map]
theorem chks_map : ∀ (l : List V) (d : Nat), chks (mapL fixB l) d = chks l d
  | [], d => by rw [mapL]
  | x :: l, d => by rw [mapL, chks, chks, chk_map x, chks_map l]
end
mutual
theorem rank_map (g : Nat → Nat) : ∀ a : V, (mapV g a).rank = a.rank
  | .mk k i f t l => by simp only [mapV, V.rank, ranks_map g l]
theorem ranks_map (g : Nat → Nat) : ∀ l : List V, V.ranks (mapL g l) = V.ranks l
  | [] => by simp [mapL, V.ranks]
  | x :: l => by simp [mapL, V.ranks, rank_map g x, ranks_map g l]
end
theorem sameV_refl (a : V) : sameV a a = true := (sameV_iff _ _).2 rfl
theorem sameL_refl (a : List V) : sameL a a = true := (sameL_iff _ _).2 rfl
theorem sameV_symm (a b : V) : sameV b a = sameV a b := by
  apply Bool.eq_iff_iff.2
  rw [sameV_iff, sameV_iff]
  exact ⟨Eq.symm, Eq.symm⟩
theorem sameV_on (a b c : V) (h : sameV a b = true) : sameV b c = sameV a c := by
  apply Bool.eq_iff_iff.2
  rw [sameV_iff, sameV_iff, (sameV_iff _ _).1 h]
theorem sameV_fix (a : V) : sameV (mapV fixB a) a = true := (sameV_iff _ _).2 (map2 a)
theorem exV_refl' (a : V) : exV a a = true := (exV_iff _ _).2 rfl
theorem chk_same (a b : V) (d : Nat) (h : sameV a b = true) : chk a d = chk b d := by rw [← chk_map a, ← chk_map b, (sameV_iff _ _).1 h]
end Go.Proofs.YtknpaooloambdaaDoor
/- Two schemas, floats bit by bit. No program. -/
set_option linter.unusedVariables false
namespace Go.Proofs.YtknpaooloambdaaDoor
open Go
def exC (x y : C) : Bool := decide (x.name = y.name) && decide (x.has = y.has) && sameT x.ty y.ty && exV x.dflt y.dflt
def exCL : List C → List C → Bool
  | [], [] => true
  | x :: l, y :: m => exC x y && exCL l m
  | [], _ :: _ => false
  | _ :: _, [] => false
theorem exCL_length : ∀ (l m : List C), exCL l m = true → l.length = m.length
  | [], [], _ => rfl
  | x :: l, y :: m, h => by
    simp only [exCL, Bool.and_eq_true] at h
    simp [exCL_length l m h.2]
  | [], _ :: _, h => by simp [exCL] at h
  | _ :: _, [], h => by simp [exCL] at h
theorem exCL_of : ∀ (l m : List C), l.length = m.length → (∀ (i : Nat) (x y : C), l[i]? = some x → m[i]? = some y → exC x y = true) → exCL l m = true
  | [], [], _, _ => by simp [exCL]
  | x :: l, y :: m, hl, h => by
    simp only [exCL, Bool.and_eq_true]
    exact ⟨h 0 x y rfl rfl, exCL_of l m (by simpa using hl) (fun i a b ha hb => h (i + 1) a b (by simpa using ha) (by simpa using hb))⟩
  | [], _ :: _, h, _ => by simp at h
  | _ :: _, [], h, _ => by simp at h
theorem exCL_at : ∀ (l m : List C) (i : Nat) (x y : C), exCL l m = true → l[i]? = some x → m[i]? = some y → exC x y = true
  | x :: l, y :: m, i, a, b, h, hx, hy => by
    simp only [exCL, Bool.and_eq_true] at h
    cases i with
    | zero =>
      obtain rfl : x = a := by simpa using hx
      obtain rfl : y = b := by simpa using hy
      exact h.1
    | succ i => exact exCL_at l m i a b h.2 (by simpa using hx) (by simpa using hy)
  | [], _, _, _, _, _, hx, _ => by simp at hx
  | _ :: _, [], _, _, _, h, _, _ => by simp [exCL] at h
mutual
theorem sameT_refl : ∀ v : T, sameT v v = true
  | .mk k l => by rw [sameT_eq]; simp [sameTL_refl l]
theorem sameTL_refl : ∀ l : List T, sameTL l l = true
  | [] => by simp [sameTL]
  | x :: l => by simp [sameTL, sameT_refl x, sameTL_refl l]
end
mutual
theorem sameT_is : ∀ v u : T, sameT v u = true → v = u
  | .mk k l, .mk k' m, h => by
    rw [sameT_eq] at h
    simp only [Bool.and_eq_true, decide_eq_true_eq] at h
    rw [h.1, sameTL_is l m h.2]
theorem sameTL_is : ∀ l m : List T, sameTL l m = true → l = m
  | [], [], _ => rfl
  | x :: l, y :: m, h => by
    simp only [sameTL, Bool.and_eq_true] at h
    rw [sameT_is x y h.1, sameTL_is l m h.2]
  | [], _ :: _, h => by simp [sameTL] at h
  | _ :: _, [], h => by simp [sameTL] at h
end
theorem sameT_comm (v u : T) : sameT v u = sameT u v := by
  cases h : sameT v u
  · cases h' : sameT u v
    · rfl
    · rw [sameT_is u v h', sameT_refl] at h; cases h
  · rw [sameT_is v u h, sameT_refl]
theorem exC_refl (c : C) : exC c c = true := by simp [exC, sameT_refl, exV_refl]
theorem exCL_refl : ∀ l : List C, exCL l l = true
  | [] => rfl
  | x :: l => by simp [exCL, exC_refl x, exCL_refl l]
end Go.Proofs.YtknpaooloambdaaDoor
/- What was written is read; what was read was written. No program. -/
set_option linter.unusedVariables false
set_option linter.unusedSimpArgs false
namespace Go.Proofs.YtknpaooloambdaaDoor
open Go
/-- These bytes stand at a place. -/
def Is (l : List UInt8) (p : Nat) (b : List UInt8) : Prop := ∃ t, l.drop p = b ++ t
theorem Is.left {l : List UInt8} {p : Nat} {a b : List UInt8} (h : Is l p (a ++ b)) : Is l p a := by
  obtain ⟨t, h⟩ := h
  exact ⟨b ++ t, by rw [h, List.append_assoc]⟩
theorem Is.right {l : List UInt8} {p : Nat} {a b : List UInt8} (h : Is l p (a ++ b)) : Is l (p + a.length) b := by
  obtain ⟨t, h⟩ := h
  refine ⟨t, ?_⟩
  rw [← List.drop_drop, h, List.append_assoc, List.drop_left]
theorem Is.app {l : List UInt8} {p : Nat} {a b : List UInt8} (h : Is l p a) (h' : Is l (p + a.length) b) : Is l p (a ++ b) := by
  obtain ⟨t, h⟩ := h
  obtain ⟨u, h'⟩ := h'
  rw [← List.drop_drop, h, List.drop_left] at h'
  exact ⟨u, by rw [h, h', List.append_assoc]⟩
theorem Is.le {l : List UInt8} {p : Nat} {a : List UInt8} (h : Is l p a) (h0 : 0 < a.length) : p + a.length ≤ l.length := by
  obtain ⟨t, h⟩ := h
  have := congrArg List.length h
  simp only [List.length_drop, List.length_append] at this
  omega
theorem Is.take {l : List UInt8} {p : Nat} {a : List UInt8} (h : Is l p a) : (l.drop p).take a.length = a := by
  obtain ⟨t, h⟩ := h
  rw [h, List.take_left]
theorem Is.of_take {l : List UInt8} {p q : Nat} {a : List UInt8} (h : (l.drop p).take (q - p) = a) (hq : p ≤ q) (hl : q ≤ l.length) : Is l p a ∧ q = p + a.length := by
  refine ⟨⟨(l.drop p).drop (q - p), by rw [← h, List.take_append_drop]⟩, ?_⟩
  rw [← h, List.length_take, List.length_drop]
  omega
theorem Is.all (l : List UInt8) : Is l 0 l := ⟨[], by simp⟩
/-! ### What was written is read -/
theorem rdNum_is {l : List UInt8} {p n : Nat} (h : Is l p (put n)) (hn : n < 18446744073709551616) : rdNum l p = .ok n (p + (put n).length) := by
  obtain ⟨t, h⟩ := h
  have hg := getAt_ok (l := l) (k := p) (n := n) (u := (put n).length) (by rw [h]; exact get_put t hn)
  unfold rdNum
  rw [hg]
  simp only [if_true]
  congr 1
theorem rdByte_is {l : List UInt8} {p : Nat} {c : UInt8} (h : Is l p [c]) : rdByte l p = .ok c.toNat (p + 1) := by
  obtain ⟨t, h⟩ := h
  have hx : l[p]? = some c := by
    have := congrArg (·[0]?) h
    simpa using this
  unfold rdByte
  rw [hx]
def bitV (b : Bool) : Nat := if b = true then 1 else 0
theorem rdBit_is {l : List UInt8} {p : Nat} {b : Bool} (h : Is l p (bitB b)) : rdBit l p = .ok (bitV b) (p + 1) := by
  unfold rdBit
  cases b
  · rw [rdByte_is (c := 0) h]; rfl
  · rw [rdByte_is (c := 1) h]; rfl
theorem bitB_len (b : Bool) : (bitB b).length = 1 := by cases b <;> rfl
theorem textB_len (s : ByteArray) : (textB s).length = (put s.size).length + s.size := by
  unfold textB
  rw [List.length_append, show s.data.toList.length = s.size from Array.length_toList]
theorem rdText_is {l : List UInt8} {p most : Nat} {long : Int} {s : ByteArray} (h : Is l p (textB s)) (hs : s.size ≤ most) (hm : most < 18446744073709551616) : rdText l most long p = .ok s (p + (textB s).length) := by
  have e : s.data.toList.length = s.size := Array.length_toList
  unfold textB at h
  have h1 := rdNum_is h.left (by omega)
  have h2 := h.right
  unfold rdText
  rw [h1]
  simp only [Rd.bind]
  have hlen : p + (put s.size).length + s.size ≤ l.length := by
    by_cases h0 : 0 < s.size
    · have := h2.le (by omega); omega
    · have := h.left.le (put_pos _); omega
  rw [if_neg (by omega), if_neg (by omega), textB_len, Nat.add_assoc]
  congr 1
  have := h2.take
  rw [e] at this
  rw [this]
theorem ofLe_leB : ∀ (k n : Nat), n < 256 ^ k → ofLe (leB n k) = n
  | 0, n, h => by simp only [leB, ofLe]; rw [Nat.pow_zero] at h; omega
  | k + 1, n, h => by
    rw [leB, ofLe, ofLe_leB k (n / 256) (by rw [Nat.pow_succ] at h; exact Nat.div_lt_of_lt_mul (by omega))]
    have : (UInt8.ofNat (n % 256)).toNat = n % 256 := by simp
    rw [this]; omega
theorem leB_ofLe : ∀ (l : List UInt8), leB (ofLe l) l.length = l
  | [] => rfl
  | c :: l => by
    have hc := c.toNat_lt
    rw [ofLe, List.length_cons, leB]
    have h1 : (c.toNat + 256 * ofLe l) % 256 = c.toNat := by omega
    have h2 : (c.toNat + 256 * ofLe l) / 256 = ofLe l := by omega
    rw [h1, h2, leB_ofLe l]
    simp
theorem ofLe_lt' : ∀ (l : List UInt8), ofLe l < 256 ^ l.length
  | [] => by simp [ofLe]
  | c :: l => by
    have hc := c.toNat_lt
    have := ofLe_lt' l
    rw [ofLe, List.length_cons, Nat.pow_succ]
    omega
theorem rdFloat_is {l : List UInt8} {p f : Nat} (h : Is l p (leB f 8)) (hf : f < 18446744073709551616) (hx : fixB f = f) : rdFloat l p = .ok f (p + 8) := by
  have e := leB_length 8 f
  have h1 := h.le (by omega)
  have h2 := h.take
  rw [e] at h1 h2
  unfold rdFloat
  rw [if_neg (by omega), h2, ofLe_leB 8 f (by omega), if_pos hx]
theorem rdMany_is {α β : Type} {f : Nat → Rd α} {l : List UInt8} {B : β → List UInt8} {g : β → α} : ∀ (vs : List β) (p : Nat), (∀ v ∈ vs, ∀ q, Is l q (B v) → f q = .ok (g v) (q + (B v).length)) → Is l p (vs.map B).flatten → rdMany f vs.length p = .ok (vs.map g) (p + (vs.map B).flatten.length)
  | [], p, _, _ => by simp [rdMany]
  | v :: vs, p, hf, h => by
    rw [List.map_cons, List.flatten_cons] at h
    rw [List.length_cons, rdMany, hf v (List.mem_cons_self ..) p h.left]
    simp only [Rd.bind]
    rw [rdMany_is vs _ (fun x hx => hf x (List.mem_cons_of_mem _ hx)) h.right]
    simp [Nat.add_assoc]
theorem valBs_flat : ∀ l : List V, valBs l = (l.map valB).flatten
  | [] => rfl
  | x :: l => by rw [valBs, valBs_flat l]; rfl
theorem rdKind_is (l : List UInt8) : ∀ (u : T) (d p n : Nat), chkT u d = 0 → n + d = 5 → Is l p (typeB u) → rdKind l n p = .ok u (p + (typeB u).length)
  | .mk k m, d, p, n, hc, hn, h => by
    obtain ⟨hd, hb, hcs⟩ := chkT_ok hc
    obtain ⟨k1, k2, k3, k4⟩ := badK_no hb
    obtain ⟨n, rfl⟩ : ∃ j, n = j + 1 := ⟨n - 1, by omega⟩
    rw [typeB_eq] at h ⊢
    have hk : (byteK k).toNat = k.toNat := by have := byteK_toNat (k := k) (by omega) (by omega); omega
    have h1 := rdByte_is (c := byteK k) (Is.left (b := typeBs m) h)
    rw [rdKind, h1]
    simp only [Rd.bind]
    rw [hk, if_neg (by omega)]
    have hkk : ((k.toNat : Nat) : Int) = k := by omega
    rw [hkk]
    by_cases hnk : nestK k = true
    · rw [if_pos hnk]
      have h4 := k3 hnk
      match m, h4, hcs, h with
      | [u], _, hcs, h =>
        have h5 : chkT u (d + 1) = 0 := by simpa [chkTs] using hcs
        rw [typeBs] at h ⊢
        rw [rdKind_is l u (d + 1) (p + 1) n h5 (by omega) (Is.right (a := [_]) h)]
        simp only [List.length_cons]
        congr 1
        omega
    · rw [if_neg hnk]
      have h4 := k4 (by simpa using hnk)
      match m, h4 with
      | [], _ => rfl
theorem text_nil {t : ByteArray} (h : t.toList = []) (h2 : t.data.toList = t.toList) : t = ⟨#[]⟩ := by
  rw [h] at h2
  cases t with
  | mk d => simp at h2; rw [h2]
theorem ba_toList (t : ByteArray) (h : t.toList = []) : t = ⟨#[]⟩ := text_nil h ((ByteArray.toList_eq t).symm)
/-- A value of a kind, with the one NaN, is just what reading it gives. -/
theorem nil_of_len {α : Type} {l : List α} (h : l.length = 0) : l = [] := List.length_eq_zero_iff.1 h
theorem rdScal_is {l : List UInt8} {p : Nat} {k i : Int} {f : Nat} {t : ByteArray} {m : List V} {d : Nat} (hc : chk (.mk k i f t m) d = 0) (hf : (V.mk k i f t m).fits) (hk : nestK k = false) (h : Is l p (headB k i f t m.length)) :
    rdScal l k p = .ok (.mk k i (fixB f) t []) (p + (headB k i f t m.length).length) ∧ m = [] := by
  obtain ⟨_, ho, ht, _, hu, _⟩ := chk_ok hc
  obtain ⟨_, _, hi, hfl, _⟩ := V.fits_row hf
  have hn6 : k ≠ 6 := by rintro rfl; simp [nestK] at hk
  have hn7 : k ≠ 7 := by rintro rfl; simp [nestK] at hk
  simp only [ownP, V.kind_mk, V.int_mk, V.float_mk, V.text_mk, V.items_mk] at ho
  rcases ho with ⟨rfl, h1, h2, h3, h4⟩ | ⟨rfl, h2, h3, h4⟩ | ⟨rfl, h1, h3, h4⟩ | ⟨hk45, h1, h2, h4⟩ | ⟨rfl, _⟩ | ⟨rfl, _⟩
  · refine ⟨?_, nil_of_len h4⟩
    rw [h2, ba_toList t h3]
    unfold headB at h ⊢
    rw [if_pos rfl] at h ⊢
    unfold rdScal
    rw [if_pos rfl, rdBit_is h, bitB_len]
    simp only [Rd.bind]
    rcases h1 with rfl | rfl <;> rfl
  · refine ⟨?_, nil_of_len h4⟩
    rw [h2, ba_toList t h3]
    unfold headB at h ⊢
    rw [if_neg (by decide), if_pos rfl] at h ⊢
    unfold rdScal
    rw [if_neg (by decide), if_pos rfl, rdNum_is h (zig_lt hi.1 (by have := hi.2; omega))]
    simp only [Rd.bind]
    rw [zag_zig]
  · refine ⟨?_, nil_of_len h4⟩
    rw [h1, ba_toList t h3]
    unfold headB at h ⊢
    rw [if_neg (by decide), if_neg (by decide), if_pos rfl] at h ⊢
    unfold rdScal
    rw [if_neg (by decide), if_neg (by decide), if_pos rfl, rdFloat_is h (fixB_lt hfl) (fixB_fixB f), leB_length]
    rfl
  · refine ⟨?_, nil_of_len h4⟩
    rw [h2, h1]
    unfold headB at h ⊢
    rw [if_neg (by omega), if_neg (by omega), if_neg (by omega), if_pos hk45] at h ⊢
    unfold rdScal
    rw [if_neg (by omega), if_neg (by omega), if_neg (by omega), rdText_is h ht (by decide)]
    simp only [Rd.bind]
    rw [if_neg]
    rintro ⟨h5, h6⟩
    rw [hu h5] at h6
    cases h6
  · exact absurd rfl hn6
  · exact absurd rfl hn7
theorem rdVal_is (l : List UInt8) : ∀ (N : Nat) (v : V) (u : T) (d e p : Nat), v.rank < N → chk v d = 0 → chkT u e = 0 → ofV v u = true → v.fits → Is l p (valB v) → rdVal l u p = .ok (mapV fixB v) (p + (valB v).length)
  | 0, v, _, _, _, _, h, _, _, _, _, _ => absurd h (Nat.not_lt_zero _)
  | N + 1, .mk k i f t m, .mk k' of, d, e, p, hr, hc, hu, ho, hf, h => by
    rw [ofV_eq, Bool.and_eq_true, decide_eq_true_eq] at ho
    obtain ⟨hkk, hos⟩ := ho
    simp only [T.kind_mk, T.of_mk] at hkk hos
    subst hkk
    rw [valB_eq] at h ⊢
    rw [rdVal_eq]
    unfold rdBody
    by_cases hnk : nestK k = true
    · rw [if_pos hnk]
      obtain ⟨_, hown, _, hlen, _, hall⟩ := chk_ok hc
      have hk67 : k = 6 ∨ k = 7 := by simpa [nestK] using hnk
      obtain ⟨u1, rfl, hu1⟩ := chkT_nest hu hk67
      have hhow : rdHow l k p = .ok m.length (p + (headB k i f t m.length).length) := by
        unfold rdHow
        rcases hk67 with rfl | rfl
        · rw [if_pos rfl]
          have hm1 : m.length ≤ 1 := by
            simp only [ownP, V.kind_mk, V.int_mk, V.float_mk, V.text_mk, V.items_mk] at hown
            omega
          have hh := h.left
          unfold headB at hh ⊢
          simp only [show ¬ ((6 : Int) = 1) by decide, show ¬ ((6 : Int) = 2) by decide, show ¬ ((6 : Int) = 3) by decide, show ¬ ((6 : Int) = 4 ∨ (6 : Int) = 5) by decide, if_false, if_true] at hh ⊢
          rw [rdBit_is hh, bitB_len]
          have : m.length = 0 ∨ m.length = 1 := by omega
          rcases this with hm | hm <;> rw [hm] <;> rfl
        · rw [if_neg (by decide)]
          have hh := h.left
          unfold headB at hh ⊢
          simp only [show ¬ ((7 : Int) = 1) by decide, show ¬ ((7 : Int) = 2) by decide, show ¬ ((7 : Int) = 3) by decide, show ¬ ((7 : Int) = 4 ∨ (7 : Int) = 5) by decide, show ¬ ((7 : Int) = 6) by decide, if_false] at hh ⊢
          rw [rdNum_is hh (by omega)]
          simp only [Rd.bind]
          rw [if_neg (by omega)]
      rw [hhow]
      simp only [Rd.bind]
      have hm := h.right
      rw [valBs_flat] at hm ⊢
      have hrl : V.ranks m ≤ N := by have := V.rank_eq (V.mk k i f t m); simp only [V.items_mk] at this; omega
      have hsub := rdMany_is (f := rdHead l [u1]) (g := mapV fixB) m _ (fun v hv q hq => by
        obtain ⟨j, hj⟩ := List.getElem?_of_mem hv
        rw [rdHead]
        exact rdVal_is l N v u1 (d + 1) (e + 1) q (by have := V.rank_lt hv; omega) (hall v hv) hu1 (ofVs_at m _ j v hos hj) (V.fits_mem hf hv) hq) hm
      rw [hsub]
      simp only [Rd.bind, mapV_eq]
      have hz : i = 0 ∧ fixB f = 0 ∧ t.toList = [] := by
        simp only [ownP, V.kind_mk, V.int_mk, V.float_mk, V.text_mk, V.items_mk] at hown
        rcases hown with ⟨h1, _⟩ | ⟨h1, _⟩ | ⟨h1, _⟩ | ⟨h1, _⟩ | ⟨_, h1, h2, h3, _⟩ | ⟨_, h1, h2, h3⟩
        · omega
        · omega
        · omega
        · omega
        · exact ⟨h1, h2, h3⟩
        · exact ⟨h1, h2, h3⟩
      rw [hz.1, hz.2.1, ba_toList t hz.2.2, List.length_append]
      congr 1
      omega
    · rw [if_neg hnk]
      obtain ⟨h1, rfl⟩ := rdScal_is hc hf (by simpa using hnk) h.left
      rw [h1, mapV_eq]
      simp [valBs]
end Go.Proofs.YtknpaooloambdaaDoor
