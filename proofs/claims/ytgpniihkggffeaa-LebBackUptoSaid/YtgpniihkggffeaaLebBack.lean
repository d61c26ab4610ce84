/- The walk of the law LebBack of layer 3. -/
import Derived.Test.YtgpniihkggffeaaLebLaws
import Derived.Test.YtgpniihkggffeaaRegion
set_option linter.unusedVariables false
set_option linter.unusedSimpArgs false
namespace Go.Proofs.Ytgpniihkggffeaa
open Go.RowKit
theorem same_any (A B : Option Addr) (c d n m : Nat) (xs ys : List UInt8) (w : World) (hx : Bs w A xs) (hy : Bs w B ys) (hn : xs.length = n) (hm : ys.length = m) (hmm : xs.length ≤ 9223372036854775806) :
    Calls Try.prog 12 #[.slice A n c, .slice B m d] w fun e w' => e = .returned (.bool (decide (xs = ys))) ∧ ∃ n, w' = w.drewN n := by
  subst hn hm
  exact same_calls A B c d xs ys w hx hy hmm
set_option maxRecDepth 20000 in
set_option maxHeartbeats 1000000 in
theorem LebBack_walk (n : Nat) (at_ : Int) (w : World) (hn : n < 18446744073709551616) (A B : Option Addr) (c d : Nat) (l r : List UInt8) (hl : Bs w A l) (hr : Bs w B r) (hc : l.length ≤ c) (hd : r.length ≤ d) (hs : l.length + r.length ≤ 2097152) :
    Calls Try.prog 7 #[.agg #[.int .u64 n, .slice A l.length c, .slice B r.length d, .int .i64 at_]] w fun e w' => e = .returned (.bool true) ∧ Kept w w' := by
  have hn10 := put_ten hn
  have hnp := put_pos n
  have hgl : getAt (l ++ (put n ++ r)) (l.length : Int) = (n, (l.length : Int) + ((put n).length : Int), 0) :=
    getAt_ok (by rw [List.drop_left]; exact get_put r hn)
  have HG := Lib.hid hgl
  clear hgl
  obtain ⟨m, nx, e2, hgr⟩ : ∃ m nx e2, getAt r at_ = (m, nx, e2) := ⟨_, _, _, rfl⟩
  have HR := Lib.hid hgr
  clear hgr
  go_enter Try.func7, Try.ntmps7
  go_wp2_with fail
  refine (leb_Put n hn _).mono ?_
  rintro e w1 ⟨A1, c1, rfl, hown1, k1⟩
  have k0 := ((Kept.refl w).alloc (.cells #[.int .u64 n, .slice A l.length c, .slice B r.length d, .int .i64 at_] 37)).trans k1
  have k2 := (Kept.refl w1).alloc (.cells #[] 5)
  have tok1 : True := trivial
  go_wp2_with (first
    | (at_builtin
       have tt := tok1
       clear tt tok1
       refine wpList_app0 rfl _ _ _ rfl rowB w1.heap.size rfl (own_new w1 _ 1 0 _ rfl (by unfold maxLen; omega)) (cellsB l) rfl (Src.bytes (hl.kept (k0.trans k2))) (by unfold maxLen; omega) (by omega) k2.size ?_
       intro A2 c2 w2 hown2 hg2 hat2
       have k3 : Kept w1 w2 := k2.app (own_new w1 _ 1 0 _ rfl (by unfold maxLen; omega)) (Nat.le_refl _) hg2
       have tok2 : True := trivial)
    | (at_builtin
       have tt := tok2
       clear tt tok2
       refine wpList_app rfl _ _ _ rfl rowB w1.heap.size (cellsB l) rfl hown2 (cellsB (put n)) rfl (Src.bytes (Bs.own (own_kept hown1 k3))) (by unfold maxLen; omega) (by omega) k3.size ?_
       intro A3 c3 w3 hown3 hg3 hat3
       have k4 : Kept w1 w3 := k3.app hown2 (Nat.le_refl _) hg3
       have tok3 : True := trivial)
    | (at_builtin
       have tt := tok3
       clear tt tok3
       refine wpList_app rfl _ _ _ rfl rowB w1.heap.size (cellsB l ++ cellsB (put n)) rfl hown3 (cellsB r) rfl (Src.bytes (hr.kept (k0.trans k4))) (by unfold maxLen; omega) (by omega) k4.size ?_
       intro A4 c4 w4 hown4 hg4 hat4
       have k5 : Kept w1 w4 := k4.app hown3 (Nat.le_refl _) hg4))
  have hlen : (l ++ (put n ++ r)).length = l.length + (put n).length + r.length := by simp [Nat.add_assoc]
  have hown5 : w4.ownsRow w1.heap.size 5 1 (.slice A4 (l ++ (put n ++ r)).length c4) (l ++ (put n ++ r)).length (cellsB (l ++ (put n ++ r))) := by
    rw [hlen, cellsB_append, cellsB_append, ← List.append_assoc]; exact hown4
  rw [← hlen]
  have HL := Lib.hid hlen
  clear hlen
  refine (leb_Get_eq _ _ (l ++ (put n ++ r)) _ _ (Bs.own hown5) (own_cap hown5) (by have := HL.out; omega) HG.out).mono ?_
  rintro e w5 ⟨rfl, rfl⟩
  go_wp2_with fail
  refine (leb_Len n hn _).mono ?_
  rintro e w5 ⟨rfl, rfl⟩
  go_wp2_with fail
  refine (leb_Len n hn _).mono ?_
  rintro e w5 ⟨rfl, rfl⟩
  go_wp2_with fail
  refine (leb_Get_eq _ _ r _ _ (hr.kept (k0.trans k5)) hd (by omega) HR.out).mono ?_
  rintro e w5 ⟨rfl, rfl⟩
  by_cases he : e2 = 0
  · have hget := HR.out
    rw [he] at hget
    obtain ⟨k, u, hk, hnx, hgd⟩ := getAt_inv hget
    obtain ⟨u0, u1, u2, m0⟩ := get_ok hgd
    have hku : k + u ≤ r.length := by simp at u1; omega
    subst he hk hnx
    clear hget hgd u1 HR
    have hcut : Bs w4 (Option.map (fun x => x.add k) B) ((r.drop k).take u) := by
      have h1 := (hr.kept (k0.trans k5)).cut (k := k) (m := u) (cap := d) (by omega) hd
      rw [if_neg (by omega)] at h1
      exact h1
    rw [u2] at hcut
    have hum : (put m).length = u := by rw [← u2]; simp; omega
    have HM := Lib.hid hum
    have b1 : decide ((k : Int) < 0) = false := decide_eq_false (by omega)
    have b2 : decide (k + u ≤ k) = false := decide_eq_false (by omega)
    have b3 : decide (r.length < k + u) = false := decide_eq_false (by omega)
    have t1 : (0 : Int) ≤ (k : Int) := by omega
    have t2 : (k : Int) ≤ ((k + u : Nat) : Int) := by omega
    have t3 : ((k + u : Nat) : Int) ≤ (d : Int) := by omega
    clear hum u2
    go_wp2_with fail
    clear b1 b2 b3 HG HL k2 hat2 hat3 hat4 hg2 hg3 hg4 hown2 hown3 hown4 hown5
    refine wp_good (fun a' w' => a'.defers = [] ∧ a'.tmps.getD 2 undef = .bool true ∧ Kept w w') ?_ ?_
    · intro Q' hQ'
      clear hl hr hc hs hn10 hnp
      refine wp_region_ord [(0, false), (1, true), (2, true), (3, true), (4, true), (5, true), (7, true), (8, true), (9, true), (10, true), (6, false), (11, false), (12, false), (13, false)] (by kernel_rfl) (by kernel_rfl) ?_
      refine wpOrd_forced rfl (fun K hK => ?_)
      go_simp
      refine (live_calls _).mono ?_
      rintro e w6 ⟨rfl, k6⟩
      refine hK _ _ ?_
      clear hK K
      have f1 : (0 : Int) ≤ (k : Int) + (u : Int) := by omega
      have f2 : (k : Int) + (u : Int) ≤ (d : Int) := by omega
      have f3 : k ≤ ((k : Int) + (u : Int)).toNat := by omega
      have f4 : ¬ d = k := by omega
      iterate 9 (refine wpOrd_free rfl (fun K hK => ?_); go_simp; refine hK _ _ ?_; clear hK K)
      refine wpOrd_forced rfl (fun K hK => ?_)
      go_simp
      refine (leb_Put m m0 _).mono ?_
      rintro e w7 ⟨A7, c7, rfl, hown7, k7⟩
      refine hK _ _ ?_
      clear hK K
      refine wpOrd_forced rfl (fun K hK => ?_)
      go_simp
      refine (same_any _ _ _ _ _ _ (put m) (put m) _ (by exact Bs.own hown7) (by exact hcut.kept ((Kept.refl _).drew.trans (k6.trans k7))) (by rfl) (by have := HM.out; omega) (by have := put_ten m0; omega)).mono ?_
      rintro e w8 ⟨rfl, nq, rfl⟩
      rw [decide_eq_true rfl]
      refine hK _ _ ?_
      clear hK K
      iterate 2 (refine wpOrd_forced rfl (fun K hK => ?_); go_simp; refine hK _ _ ?_; clear hK K)
      refine wpOrd_nil (hQ' _ _ ⟨rfl, rfl, ?_⟩)
      exact ((((k0.trans k5).drew).trans k6).trans k7).drewN _
    · rintro ⟨tm, df⟩ w5 ⟨hd5, hr5, hk5⟩
      simp only at hd5 hr5
      subst hd5
      go_wp2_with fail
      refine bodyPost_ret (results_tmp rfl _ _ _) rfl ?_
      exact ⟨by rw [hr5], hk5⟩
  · have hb : (e2 != 0) = true := bne_iff_ne.2 he
    have hf := getAt_fail (l := r) (at_ := at_) (by rw [HR.out]; exact he)
    rw [HR.out] at hf
    simp only [Prod.mk.injEq, and_true] at hf
    obtain ⟨rfl, rfl⟩ := hf
    clear he
    go_wp2_with fail
    refine (live_calls _).mono ?_
    rintro e w6 ⟨rfl, k6⟩
    go_wp2_with fail
    go_ret
    exact ⟨rfl, (k0.trans k5).trans k6⟩
end Go.Proofs.Ytgpniihkggffeaa
