/- Merged: BackPure2. -/
import Derived.Test.YtknpaooloambdaaDoorZ17
/- Columns and schemas: what was written is read; what was read was written. No program. -/
set_option linter.unusedVariables false
set_option linter.unusedSimpArgs false
namespace Go.Proofs.YtknpaooloambdaaDoor
open Go
/-- A column as it is read. -/
def normC (c : C) : C := ⟨c.name, c.ty, c.has, if c.has = true then mapV fixB c.dflt else zeroV⟩
theorem findC_some_iff (l : List C) (n : ByteArray) : (findC l n).isSome = twice l n := by
  unfold findC twice
  rw [List.findIdx?_isSome]
theorem twice_norm (l : List C) (n : ByteArray) : twice (l.map normC) n = twice l n := by
  unfold twice
  rw [List.any_map]
  rfl
theorem dfltE_not {c : C} (h : dfltE c = 0) (hh : c.has = false) : sameV c.dflt zeroV = true := by
  unfold dfltE at h
  rw [if_neg (by rw [hh]; decide)] at h
  split at h
  · assumption
  · cases h
theorem rdCol_is {l : List UInt8} {pre : List C} {c : C} {p : Nat} (hc : colE pre c = 0) (hf : c.dflt.fits) (h : Is l p (colB c)) : rdCol l (pre.map normC) p = .ok (normC c) (p + (colB c).length) := by
  obtain ⟨h1, h2, h3, h4⟩ := colE_ok hc
  unfold colB at h ⊢
  unfold rdCol
  rw [rdText_is h.left (nameB_len h1) (by decide)]
  simp only [Rd.bind]
  rw [if_neg (by rw [h1]; decide), if_neg (by rw [findC_some_iff, twice_norm, h2]; decide)]
  have h5 := h.right
  rw [rdKind_is l c.ty 1 _ 4 h3 rfl h5.left]
  simp only []
  have h6 := h5.right
  rw [rdBit_is h6.left]
  simp only []
  have h7 := h6.right
  cases hh : c.has
  · rw [if_neg (by decide)]
    unfold normC
    simp only [hh, List.length_append, bitB_len]
    simp [Nat.add_assoc]
  · rw [if_pos (by rfl)]
    rw [hh] at h7
    rw [if_pos rfl, bitB_len] at h7
    obtain ⟨k1, k2⟩ := dfltE_has h4 hh
    rw [rdVal_is l _ c.dflt c.ty 1 1 _ (Nat.lt_succ_self _) k1 h3 k2 hf h7]
    unfold normC
    simp only [hh, List.length_append, bitB_len]
    simp [Nat.add_assoc]
theorem rdCols_is {l : List UInt8} : ∀ (cs pre : List C) (p : Nat), colsE pre cs = 0 → (∀ c ∈ cs, c.dflt.fits) → Is l p (colsB cs) → rdCols l cs.length (pre.map normC) p = .ok ((pre ++ cs).map normC) (p + (colsB cs).length)
  | [], pre, p, _, _, _ => by simp [rdCols, colsB]
  | c :: cs, pre, p, h, hf, hi => by
    rw [colsE] at h
    split at h
    · rename_i h0
      have hB : colsB (c :: cs) = colB c ++ colsB cs := by simp [colsB]
      rw [hB] at hi ⊢
      rw [List.length_cons, rdCols, rdCol_is h0 (hf c (List.mem_cons_self ..)) hi.left]
      simp only [Rd.bind]
      have := rdCols_is cs (pre ++ [c]) _ h (fun x hx => hf x (List.mem_cons_of_mem _ hx)) hi.right
      rw [List.map_append] at this
      simp only [List.map_cons, List.map_nil] at this
      rw [this]
      simp [Nat.add_assoc]
    · rename_i h0; exact absurd h h0
theorem chkS_is {l : List C} (h : chkS l = 0) : l.length ≠ 0 ∧ l.length ≤ 16 ∧ colsE [] l = 0 ∧ (schB l).length ≤ 1024 := by
  unfold chkS at h
  split at h
  · cases h
  split at h
  · cases h
  split at h
  · split at h
    · cases h
    · rename_i h1 h2 h3 h4
      exact ⟨h1, by omega, h3, by omega⟩
  · rename_i h3; exact absurd h h3
/-- A schema's bytes are read as it. -/
theorem rdSch_is {l : List C} (h : chkS l = 0) (hf : ∀ c ∈ l, c.dflt.fits) : rdSch (schB l) = .ok (l.map normC) (schB l).length := by
  obtain ⟨h1, h2, h3, h4⟩ := chkS_is h
  have hi : Is (schB l) 0 (put l.length ++ colsB l) := Is.all _
  unfold rdSch
  rw [rdNum_is hi.left (by omega)]
  simp only [Rd.bind]
  rw [if_neg h1, if_neg (by omega)]
  have := rdCols_is l [] _ h3 hf hi.right
  simp only [List.map_nil, List.nil_append] at this
  rw [this]
  simp only []
  rw [if_pos (by unfold schB; simp)]
  unfold schB
  simp
theorem sameCL_norm : ∀ (l pre : List C), colsE pre l = 0 → sameCL l (l.map normC) = true
  | [], _, _ => rfl
  | c :: l, pre, h => by
    rw [colsE] at h
    split at h
    · rename_i h0
      rw [List.map_cons, sameCL, sameCL_norm l _ h, Bool.and_true]
      obtain ⟨_, _, _, h4⟩ := colE_ok h0
      unfold sameC normC
      simp only [decide_true, Bool.true_and, sameT_refl]
      cases hh : c.has
      · simpa [hh] using dfltE_not h4 hh
      · simp only [if_true]; rw [sameV_symm]; exact sameV_fix _
    · rename_i h0; exact absurd h h0
/-! ### What was read was written -/
theorem rdNum_back {l : List UInt8} {p n q : Nat} (h : rdNum l p = .ok n q) : Is l p (put n) ∧ q = p + (put n).length ∧ n < 18446744073709551616 ∧ q ≤ l.length := by
  obtain ⟨h1, h2, h3, _, h5⟩ := rdNum_ok h
  obtain ⟨k1, k2⟩ := Is.of_take h5 (by omega) h2
  exact ⟨k1, k2, h3, h2⟩
theorem rdByte_back {l : List UInt8} {p q c : Nat} (h : rdByte l p = .ok c q) : Is l p [UInt8.ofNat c] ∧ q = p + 1 := by
  obtain ⟨h1, h2, h3, b, h4, h5⟩ := rdByte_ok h
  refine ⟨⟨l.drop (p + 1), ?_⟩, h1⟩
  rw [← h5]
  have : l.drop p = l[p] :: l.drop (p + 1) := List.drop_eq_getElem_cons h2
  rw [this]
  have : l[p] = b := (List.getElem?_eq_some_iff.1 h4).2
  rw [this]
  simp
theorem rdBit_back {l : List UInt8} {p q c : Nat} (h : rdBit l p = .ok c q) : c < 2 ∧ q = p + 1 ∧ Is l p (bitB (c == 1)) ∧ q ≤ l.length := by
  have h0 := rdBit_ok h
  obtain ⟨a, r, h1, h2⟩ := Rd.bind_ok h
  obtain ⟨k1, k2⟩ := rdByte_back h1
  split at h2
  · injection h2 with e1 e2
    subst e1 e2
    refine ⟨h0.2.2.1, h0.1, ?_, by omega⟩
    have : a = 0 ∨ a = 1 := by omega
    rcases this with rfl | rfl <;> exact k1
  · cases h2
theorem rdText_back {l : List UInt8} {most p q : Nat} {long : Int} {t : ByteArray} (h : rdText l most long p = .ok t q) : Is l p (textB t) ∧ q = p + (textB t).length ∧ t.size ≤ most ∧ q ≤ l.length := by
  obtain ⟨h1, h2, h3, n, r, h4, h5, h6, h7⟩ := rdText_ok h
  obtain ⟨k1, k2, k3, k4⟩ := rdNum_back h4
  subst h5
  rw [textB_len]
  refine ⟨?_, by omega, h3, h2⟩
  unfold textB
  refine k1.app ?_
  rw [← k2, h7]
  exact ⟨(l.drop r).drop t.size, by rw [List.take_append_drop]⟩
theorem rdFloat_back {l : List UInt8} {p q b : Nat} (h : rdFloat l p = .ok b q) : Is l p (leB b 8) ∧ q = p + 8 ∧ b < 18446744073709551616 ∧ fixB b = b ∧ q ≤ l.length := by
  obtain ⟨h1, h2, h3, h4⟩ := rdFloat_ok h
  have hl : ((l.drop p).take 8).length = 8 := by rw [List.length_take, List.length_drop]; omega
  have h5 := leB_ofLe ((l.drop p).take 8)
  have h6 := ofLe_lt' ((l.drop p).take 8)
  rw [hl] at h5 h6
  rw [← h4] at h5 h6
  refine ⟨?_, h1, by omega, h3, h2⟩
  rw [h5]
  exact ⟨(l.drop p).drop 8, by rw [List.take_append_drop]⟩
theorem rdMany_back {α : Type} {f : Nat → Rd α} {l : List UInt8} {B : α → List UInt8} {G : α → Prop} (hf : ∀ p a q, p ≤ l.length → f p = .ok a q → Is l p (B a) ∧ q = p + (B a).length ∧ G a ∧ q ≤ l.length) : ∀ (n p : Nat) (vs : List α) (q : Nat), p ≤ l.length → rdMany f n p = .ok vs q → Is l p (vs.map B).flatten ∧ q = p + (vs.map B).flatten.length ∧ (∀ v ∈ vs, G v) ∧ vs.length = n ∧ q ≤ l.length
  | 0, p, vs, q, hp, h => by
    rw [rdMany] at h
    injection h with h1 h2
    subst h1 h2
    exact ⟨⟨l.drop p, rfl⟩, rfl, (fun v hv => by cases hv), rfl, hp⟩
  | n + 1, p, vs, q, hp, h => by
    rw [rdMany] at h
    obtain ⟨a, r, h1, h2⟩ := Rd.bind_ok h
    obtain ⟨m, s, h3, h4⟩ := Rd.bind_ok h2
    injection h4 with e1 e2
    subst e1 e2
    obtain ⟨k1, k2, k3, k4⟩ := hf p a r hp h1
    obtain ⟨g1, g2, g3, g4, g5⟩ := rdMany_back hf n r m s k4 h3
    subst k2
    simp only [List.map_cons, List.flatten_cons, List.length_append, List.length_cons]
    exact ⟨k1.app g1, by omega, (fun v hv => by
      rcases List.mem_cons.1 hv with rfl | hv
      · exact k3
      · exact g3 v hv), by omega, g5⟩
/-- What a value that was read is. -/
structure ReadV (u : T) (d : Nat) (v : V) : Prop where
  chk : chk v d = 0
  of : ofV v u = true
  fits : v.fits
theorem nil_list : (⟨#[]⟩ : ByteArray).toList = [] := by rw [ByteArray.toList_eq]
theorem rdScal_back {l : List UInt8} {k : Int} {p q : Nat} {v : V} {d : Nat} (hd : d ≤ 4) (hk : 1 ≤ k ∧ k ≤ 7) (hn : nestK k = false) (h : rdScal l k p = .ok v q) :
    Is l p (valB v) ∧ q = p + (valB v).length ∧ ReadV (.mk k []) d v ∧ q ≤ l.length := by
  have hn6 : k ≠ 6 := by rintro rfl; simp [nestK] at hn
  have hn7 : k ≠ 7 := by rintro rfl; simp [nestK] at hn
  have fz : fixB 0 = 0 := fixB_zero
  have mk : ∀ (i : Int) (f : Nat) (t : ByteArray), ownP (.mk k i f t []) → t.size ≤ 1024 → (k = 4 → utf t = true) → inI i → f < 18446744073709551616 → ReadV (.mk k []) d (.mk k i f t []) := fun i f t h1 h2 h3 h4 h5 => by
    refine ⟨?_, ?_, V.fits_of ⟨by simp, by unfold inI; omega, h4, h5, by omega⟩ fun z hz => by cases hz⟩
    · rw [chk_eq, if_neg (by omega), if_neg (fun h => h h1), if_neg (by omega), if_neg (by simp), if_neg, chks]
      rintro ⟨h6, h7⟩
      rw [h3 h6] at h7
      cases h7
    · rw [ofV_eq]; simp [ofVs]
  unfold rdScal at h
  split at h
  · rename_i hk1
    obtain ⟨n, r, h1, h2⟩ := Rd.bind_ok h
    injection h2 with e1 e2
    subst e1 e2 hk1
    obtain ⟨k1, k2, k3, k4⟩ := rdBit_back h1
    have hv : valB (.mk 1 n 0 ⟨#[]⟩ []) = bitB (n == 1) := by
      rw [valB_eq]
      unfold headB
      have : n = 0 ∨ n = 1 := by omega
      rcases this with rfl | rfl <;> rfl
    rw [hv, bitB_len]
    refine ⟨k3, k2, mk _ _ _ (.inl ⟨rfl, ?_, fz, nil_list, rfl⟩) (by decide) (fun h => by cases h) ?_ (by decide), k4⟩
    · simp only [V.int_mk]; omega
    · unfold inI; omega
  split at h
  · rename_i hk1
    obtain ⟨n, r, h1, h2⟩ := Rd.bind_ok h
    injection h2 with e1 e2
    subst e1 e2 hk1
    obtain ⟨k1, k2, k3, k4⟩ := rdNum_back h1
    have hv : valB (.mk 2 (zag n) 0 ⟨#[]⟩ []) = put n := by
      rw [valB_eq]
      unfold headB
      rw [if_neg (by decide), if_pos rfl, zig_zag]
      simp [valBs]
    rw [hv]
    have hz := zag_range k3
    exact ⟨k1, k2, mk _ _ _ (.inr (.inl ⟨rfl, fz, nil_list, rfl⟩)) (by decide) (fun h => by cases h) (by unfold inI; omega) (by decide), k4⟩
  split at h
  · rename_i hk1
    obtain ⟨n, r, h1, h2⟩ := Rd.bind_ok h
    injection h2 with e1 e2
    subst e1 e2 hk1
    obtain ⟨k1, k2, k3, k4, k5⟩ := rdFloat_back h1
    have hv : valB (.mk 3 0 n ⟨#[]⟩ []) = leB n 8 := by
      rw [valB_eq]
      unfold headB
      rw [if_neg (by decide), if_neg (by decide), if_pos rfl, k4]
      simp [valBs]
    rw [hv, leB_length]
    exact ⟨k1, k2, mk _ _ _ (.inr (.inr (.inl ⟨rfl, rfl, nil_list, rfl⟩))) (by decide) (fun h => by cases h) (by unfold inI; omega) k3, k5⟩
  · obtain ⟨t, r, h1, h2⟩ := Rd.bind_ok h
    split at h2
    · cases h2
    rename_i n1 n2 n3 hu
    injection h2 with e1 e2
    subst e1 e2
    obtain ⟨k1, k2, k3, k4⟩ := rdText_back h1
    have hk45 : k = 4 ∨ k = 5 := by omega
    have hv : valB (.mk k 0 0 t []) = textB t := by
      rw [valB_eq]
      unfold headB
      rw [if_neg (by omega), if_neg (by omega), if_neg (by omega), if_pos hk45]
      simp [valBs]
    rw [hv]
    refine ⟨k1, k2, mk _ _ _ (.inr (.inr (.inr (.inl ⟨hk45, rfl, fz, rfl⟩)))) k3 (fun h4 => ?_) (by unfold inI; omega) (by decide), k4⟩
    cases hh : utf t
    · exact absurd ⟨h4, hh⟩ hu
    · rfl
theorem rdHow_back {l : List UInt8} {k : Int} {p q n : Nat} (hk : k = 6 ∨ k = 7) (h : rdHow l k p = .ok n q) : Is l p (headB k 0 0 ⟨#[]⟩ n) ∧ q = p + (headB k 0 0 ⟨#[]⟩ n).length ∧ n ≤ 256 ∧ (k = 6 → n ≤ 1) ∧ q ≤ l.length := by
  unfold rdHow at h
  split at h
  · rename_i hk6
    subst hk6
    obtain ⟨k1, k2, k3, k4⟩ := rdBit_back h
    have hv : headB 6 0 0 ⟨#[]⟩ n = bitB (n == 1) := by
      unfold headB
      have : n = 0 ∨ n = 1 := by omega
      rcases this with rfl | rfl <;> rfl
    rw [hv, bitB_len]
    exact ⟨k3, k2, by omega, fun _ => by omega, k4⟩
  · rename_i hk6
    obtain ⟨m, r, h1, h2⟩ := Rd.bind_ok h
    split at h2
    · cases h2
    injection h2 with e1 e2
    subst e1 e2
    obtain ⟨k1, k2, k3, k4⟩ := rdNum_back h1
    have hv : headB k 0 0 ⟨#[]⟩ m = put m := by
      unfold headB
      rw [if_neg (by omega), if_neg (by omega), if_neg (by omega), if_neg (by omega), if_neg hk6]
    rw [hv]
    exact ⟨k1, k2, by omega, fun h => absurd h hk6, k4⟩
theorem rdVal_back (l : List UInt8) : ∀ (N : Nat) (u : T) (d p : Nat) (v : V) (q : Nat), u.rank < N → chkT u d = 0 → p ≤ l.length → rdVal l u p = .ok v q → Is l p (valB v) ∧ q = p + (valB v).length ∧ ReadV u d v ∧ q ≤ l.length
  | 0, u, _, _, _, _, h, _, _, _ => absurd h (Nat.not_lt_zero _)
  | N + 1, .mk k of, d, p, v, q, hr, hc, hp, h => by
    obtain ⟨hd, hbad, hcs⟩ := chkT_ok hc
    obtain ⟨k1, k2, k3, k4⟩ := badK_no hbad
    rw [rdVal_eq] at h
    unfold rdBody at h
    split at h
    · rename_i hnk
      have hk67 : k = 6 ∨ k = 7 := by simpa [nestK] using hnk
      obtain ⟨u1, rfl, hu1⟩ := chkT_nest hc hk67
      have hr1 : u1.rank < N := by
        have h1 := T.rank_lt (l := [u1]) (x := u1) (by simp)
        have h2 := T.rank_eq (T.mk k [u1])
        simp only [T.of_mk] at h2
        omega
      obtain ⟨n, r, h1, h2⟩ := Rd.bind_ok h
      obtain ⟨vs, s, h3, h4⟩ := Rd.bind_ok h2
      injection h4 with e1 e2
      subst e1 e2
      obtain ⟨a1, a2, a3, a4, a5⟩ := rdHow_back hk67 h1
      obtain ⟨b1, b2, b3, b4, b5⟩ := rdMany_back (B := valB) (G := ReadV u1 (d + 1)) (fun p a q hp' hq => by
        rw [rdHead] at hq
        exact rdVal_back l N u1 (d + 1) p a q hr1 hu1 hp' hq) n r vs s a5 h3
      rw [valB_eq, b4, valBs_flat, List.length_append]
      subst a2
      refine ⟨a1.app b1, by omega, ⟨?_, ?_, ?_⟩, b5⟩
      · rw [chk_eq, if_neg (by omega), if_neg, if_neg (by decide), if_neg (by omega), if_neg, chks_zero]
        · exact fun i x hx => (b3 x (List.mem_of_getElem? hx)).chk
        · rintro ⟨h5, _⟩; omega
        · refine fun h => h ?_
          rcases hk67 with rfl | rfl
          · exact .inr (.inr (.inr (.inr (.inl ⟨rfl, rfl, fixB_zero, nil_list, by simp only [V.items_mk]; have := a4 rfl; omega⟩))))
          · exact .inr (.inr (.inr (.inr (.inr ⟨rfl, rfl, fixB_zero, nil_list⟩))))
      · rw [ofV_eq]
        simp only [T.kind_mk, decide_true, Bool.true_and, T.of_mk]
        exact ofVs_of _ _ fun i x hx => (b3 x (List.mem_of_getElem? hx)).of
      · exact V.fits_of ⟨by omega, by unfold inI; omega, by unfold inI; omega, by decide, by decide⟩ fun z hz => (b3 z hz).fits
    · rename_i hnk
      have hnk' : nestK k = false := by simpa using hnk
      have h0 := k4 hnk'
      match of, h0 with
      | [], _ => exact rdScal_back hd ⟨k1, k2⟩ hnk' h
theorem rdKind_back (l : List UInt8) : ∀ (n p : Nat) (t : T) (q : Nat), rdKind l n p = .ok t q → Is l p (typeB t) ∧ q = p + (typeB t).length
  | 0, p, t, q, h => by rw [rdKind] at h; cases h
  | n + 1, p, t, q, h => by
    rw [rdKind] at h
    obtain ⟨k, r, h1, h2⟩ := Rd.bind_ok h
    obtain ⟨a1, a2⟩ := rdByte_back h1
    have ak := (rdByte_ok h1).2.2.1
    have hb : byteK (k : Int) = UInt8.ofNat k := by unfold byteK; rw [Int.toNat_natCast]; congr 1; omega
    split at h2
    · cases h2
    split at h2
    · obtain ⟨u, s, h3, h4⟩ := Rd.bind_ok h2
      injection h4 with e1 e2
      subst e1 e2
      obtain ⟨g1, g2⟩ := rdKind_back l n r u s h3
      rw [typeB_eq, hb, typeBs]
      subst a2
      exact ⟨Is.app (a := [_]) a1 g1, by simp only [List.length_cons]; omega⟩
    · injection h2 with e1 e2
      subst e1 e2
      rw [typeB_eq, hb, typeBs]
      exact ⟨a1, a2⟩
theorem rdCol_back {l : List UInt8} {pre : List C} {p q : Nat} {c : C} (h : rdCol l pre p = .ok c q) : Is l p (colB c) ∧ q = p + (colB c).length ∧ colE pre c = 0 ∧ c.dflt.fits ∧ q ≤ l.length := by
  have hk := rdCol_ok h
  obtain ⟨_, hq, n1, n2, n3, n4⟩ := hk
  rw [findC_some_iff] at n2
  have hE : dfltE c = 0 → colE pre c = 0 := fun h0 => by
    unfold colE
    rw [if_neg (by rw [n1]; decide), if_neg (by rw [n2]; decide), if_pos n3, h0]
  unfold rdCol at h
  obtain ⟨n, r1, h1, h⟩ := Rd.bind_ok h
  split at h
  · cases h
  split at h
  · cases h
  obtain ⟨t, r2, h2, h⟩ := Rd.bind_ok h
  obtain ⟨b, r3, h3, h⟩ := Rd.bind_ok h
  obtain ⟨a1, a2, a3, a4⟩ := rdText_back h1
  obtain ⟨b1, b2⟩ := rdKind_back l 4 _ _ _ h2
  obtain ⟨c1, c2, c3, c4⟩ := rdBit_back h3
  subst a2 b2 c2
  unfold colB
  split at h
  · rename_i hb
    subst hb
    obtain ⟨v, r4, h4, h⟩ := Rd.bind_ok h
    injection h with e1 e2
    subst e1 e2
    obtain ⟨d1, d2, d3, d4⟩ := rdVal_back l _ t 1 _ v r4 (Nat.lt_succ_self _) n3 c4 h4
    subst d2
    simp only [if_true, List.length_append, bitB_len] at *
    refine ⟨a1.app (b1.app (c3.app ?_)), by omega, hE ?_, d3.fits, d4⟩
    · exact d1
    · unfold dfltE
      rw [if_pos rfl, if_pos d3.chk, if_pos d3.of]
  · rename_i hb
    injection h with e1 e2
    subst e1 e2
    have : b = 0 := by omega
    subst this
    simp only [List.length_append, bitB_len] at *
    refine ⟨a1.app (b1.app (c3.app ⟨_, rfl⟩)), by simp; omega, hE ?_, ?_, c4⟩
    · unfold dfltE
      rw [if_neg (by simp), if_pos (sameV_refl _)]
    · exact V.fits_of ⟨by simp, by unfold inI; omega, by unfold inI; omega, by decide, by decide⟩ fun z hz => by cases hz
theorem rdCols_back {l : List UInt8} : ∀ (n : Nat) (pre : List C) (p q : Nat) (cs : List C), p ≤ l.length → rdCols l n pre p = .ok cs q → ∃ m, cs = pre ++ m ∧ m.length = n ∧ Is l p (colsB m) ∧ q = p + (colsB m).length ∧ colsE pre m = 0 ∧ (∀ c ∈ m, c.dflt.fits) ∧ q ≤ l.length
  | 0, pre, p, q, cs, hp, h => by
    rw [rdCols] at h
    injection h with e1 e2
    subst e1 e2
    exact ⟨[], by simp, rfl, ⟨_, rfl⟩, rfl, by rw [colsE], (fun c hc => by cases hc), hp⟩
  | n + 1, pre, p, q, cs, hp, h => by
    rw [rdCols] at h
    obtain ⟨c, r, h1, h2⟩ := Rd.bind_ok h
    obtain ⟨a1, a2, a3, a4, a5⟩ := rdCol_back h1
    obtain ⟨m, b1, b2, b3, b4, b5, b6, b7⟩ := rdCols_back n (pre ++ [c]) r q cs a5 h2
    subst a2
    have hB : colsB (c :: m) = colB c ++ colsB m := by simp [colsB]
    refine ⟨c :: m, by rw [b1]; simp, by simp [b2], ?_, ?_, ?_, ?_, b7⟩
    · rw [hB]; exact a1.app b3
    · rw [hB, List.length_append]; omega
    · rw [colsE, if_pos a3, b5]
    · intro x hx
      rcases List.mem_cons.1 hx with rfl | hx
      · exact a4
      · exact b6 x hx
/-- What is read has just these bytes, and may be. -/
theorem rdSch_back {l : List UInt8} {cs : List C} {q : Nat} (h : rdSch l = .ok cs q) (hl : l.length ≤ 1024) : schB cs = l ∧ chkS cs = 0 ∧ (∀ c ∈ cs, c.dflt.fits) := by
  unfold rdSch at h
  obtain ⟨n, p, h1, h⟩ := Rd.bind_ok h
  split at h
  · cases h
  split at h
  · cases h
  obtain ⟨m, r, h2, h⟩ := Rd.bind_ok h
  split at h
  · rename_i n1 n2 hr
    injection h with e1 e2
    subst e1 e2
    obtain ⟨a1, a2, a3, a4⟩ := rdNum_back h1
    obtain ⟨m', b1, b2, b3, b4, b5, b6, _⟩ := rdCols_back n [] p r m a4 h2
    rw [List.nil_append] at b1
    subst b1 a2
    have hB : schB m = l := by
      have hi : Is l 0 (schB m) := by unfold schB; rw [b2]; exact a1.app b3
      obtain ⟨t, ht⟩ := hi
      rw [List.drop_zero] at ht
      have hlen := congrArg List.length ht
      have hs : (schB m).length = r := by unfold schB; rw [b2, List.length_append]; omega
      rw [List.length_append, hs] at hlen
      have : t = [] := List.length_eq_zero_iff.1 (by omega)
      rw [ht, this, List.append_nil]
    refine ⟨hB, ?_, b6⟩
    unfold chkS
    rw [if_neg (by omega), if_neg (by omega), if_pos b5, if_neg (by rw [hB]; omega)]
  · cases h
/-! ### Unlike schemas have unlike bytes -/
mutual
theorem valB_map : ∀ v : V, valB (mapV fixB v) = valB v
  | .mk k i f t l => by
    rw [mapV, valB_eq, valB_eq, valBs_map l, mapL_length]
    unfold headB
    rw [fixB_fixB]
theorem valBs_map : ∀ l : List V, valBs (mapL fixB l) = valBs l
  | [] => by rw [mapL]
  | x :: l => by rw [mapL, valBs, valBs, valB_map x, valBs_map l]
end
theorem valB_same {v u : V} (h : sameV v u = true) : valB v = valB u := by rw [← valB_map v, (sameV_iff v u).1 h, valB_map]
theorem colB_same {x y : C} (h : sameC x y = true) : colB x = colB y := by
  unfold sameC at h
  simp only [Bool.and_eq_true, decide_eq_true_eq] at h
  obtain ⟨⟨⟨h1, h2⟩, h3⟩, h4⟩ := h
  unfold colB
  rw [h1, h2, sameT_is _ _ h3, valB_same h4]
theorem colsB_same : ∀ l m : List C, sameCL l m = true → colsB l = colsB m
  | [], [], _ => rfl
  | x :: l, y :: m, h => by
    simp only [sameCL, Bool.and_eq_true] at h
    have := colsB_same l m h.2
    unfold colsB at this ⊢
    rw [List.map_cons, List.map_cons, List.flatten_cons, List.flatten_cons, colB_same h.1, this]
  | [], _ :: _, h => by simp [sameCL] at h
  | _ :: _, [], h => by simp [sameCL] at h
theorem schB_same {l m : List C} (h : sameCL l m = true) : schB l = schB m := by
  unfold schB
  rw [sameCL_length l m h, colsB_same l m h]
theorem sameC_comm (x y : C) : sameC x y = sameC y x := by
  unfold sameC
  rw [sameT_comm x.ty, sameV_symm x.dflt, show decide (x.name = y.name) = decide (y.name = x.name) by simp [eq_comm], show decide (x.has = y.has) = decide (y.has = x.has) by simp [eq_comm]]
theorem sameCL_comm : ∀ l m : List C, sameCL l m = sameCL m l
  | [], [] => rfl
  | x :: l, y :: m => by rw [sameCL, sameCL, sameC_comm x y, sameCL_comm l m]
  | [], _ :: _ => rfl
  | _ :: _, [] => rfl
theorem sameC_refl (x : C) : sameC x x = true := by simp [sameC, sameT_refl, sameV_refl]
theorem sameCL_refl : ∀ l : List C, sameCL l l = true
  | [] => rfl
  | x :: l => by simp [sameCL, sameC_refl x, sameCL_refl l]
theorem sameC_trans {x y z : C} (h : sameC x y = true) (h' : sameC y z = true) : sameC x z = true := by
  unfold sameC at *
  simp only [Bool.and_eq_true, decide_eq_true_eq] at *
  obtain ⟨⟨⟨h1, h2⟩, h3⟩, h4⟩ := h
  obtain ⟨⟨⟨k1, k2⟩, k3⟩, k4⟩ := h'
  refine ⟨⟨⟨h1.trans k1, h2.trans k2⟩, ?_⟩, ?_⟩
  · rw [sameT_is _ _ h3]; exact k3
  · rw [← sameV_on _ _ _ h4]; exact k4
theorem sameCL_trans : ∀ {l m n : List C}, sameCL l m = true → sameCL m n = true → sameCL l n = true
  | [], [], [], _, _ => rfl
  | x :: l, y :: m, z :: n, h, h' => by
    simp only [sameCL, Bool.and_eq_true] at h h' ⊢
    exact ⟨sameC_trans h.1 h'.1, sameCL_trans h.2 h'.2⟩
  | [], _ :: _, _, h, _ => by simp [sameCL] at h
  | _ :: _, [], _, h, _ => by simp [sameCL] at h
  | _, [], _ :: _, _, h => by simp [sameCL] at h
  | _, _ :: _, [], _, h => by simp [sameCL] at h
theorem schB_iff {l m : List C} (hl : chkS l = 0) (hm : chkS m = 0) (fl : ∀ c ∈ l, c.dflt.fits) (fm : ∀ c ∈ m, c.dflt.fits) : decide (schB l = schB m) = sameCL l m := by
  cases h : sameCL l m
  · rw [decide_eq_false_iff_not]
    intro he
    have h1 := rdSch_is hl fl
    have h2 := rdSch_is hm fm
    rw [he, h2] at h1
    injection h1 with h3
    have h4 := sameCL_norm l [] (chkS_is hl).2.2.1
    have h5 := sameCL_norm m [] (chkS_is hm).2.2.1
    rw [← h3] at h4
    rw [sameCL_comm] at h5
    rw [sameCL_trans h4 h5] at h
    cases h
  · rw [decide_eq_true_eq]
    exact schB_same h
end Go.Proofs.YtknpaooloambdaaDoor
