/- Merged: ALong2, APk. -/
import Derived.Test.YtilpiclmdmnlkaaZ20
/- block.longest: the longest match at a place with one of some places ahead of it. -/
set_option linter.unusedVariables false
set_option linter.unusedSimpArgs false
namespace Go.Proofs.Ytilpiclmdmnlkaa
open Go.RowKit
attribute [local go_sem] normK_app aopsK_app atSt_app ofK_app stK_app extK_val panicK_app thenA_normal thenA_exit thenA_ret thenA_panic blockK_normal blockK_exit blockK_ret blockK_panic callK_ret callK_panic awp_skip awp_region awp_draw awp_seq awp_cond acond_true acond_false dstAt_zero dstAt_succ guardV_some aops_guard_eq aguard_true aguard_true' aguard_false aguard_false' aguard_und ogF_und ogS_und ord_guard ogF_tt ogF_ft ogF_tf ogF_ff ogS_tt ogS_ff ogS_ft ogS_tf awp_block awp_loop awp_exit awp_ret awp_label awp_scope aops_nil aops_plain exec_move exec_assign exec_pick exec_alloc pick_true pick_false free_pick fpick_true fpick_false exec_box exec_build exec_buildSlice exec_load exec_store exec_nilCheck exec_binOp abinK_some exec_unOp aunK_some exec_convert conv_s exec_makeInterface exec_makeFunc exec_slice exec_fieldAddr exec_field exec_indexAddr exec_index exec_extract exec_call exec_panic call_value call_builtin alitsK_some acallB_true acallB_false callF_fn bi_len eval_tmp eval_const eval_func look_cons look_nil put_some put_none ofV_int ofV_bool ofV_float ofV_string ofV_slice ofV_ptr ofV_map ofV_agg ofV_tup lit_s box_eq box_var get_here get_here0 set_here set_here0 number_nil number_cons retK_ret retK_normal retK_panic ends1 ends2 ends3 ends0 retOne_app endsC TRun AV.lits AV.lit0 aordF_app aordS_not aordS_late ord_nil ord_free ord_solo freeK_app free_move free_assign free_build free_buildSlice free_load free_nilCheck free_binOp free_unOp free_convert free_makeInterface free_makeFunc free_slice free_fieldAddr free_field free_indexAddr free_index free_extract free_len free_call freeF_fn agives_false roundK_normal roundK_exit roundK_ret roundK_panic roundC_normal roundC_exit roundC_ret roundC_panic sub_nil sub_cons aalloc abox aiface afield aindex aextract alen abuild abuildSlice afill afillS splice Tag.calm oneV AV.forget AV.forget1 one_any dat0_any known_any cells_any forget0_any one_s dat0_s known_s cells_s forget0_s one_agg dat0_agg known_agg cells_agg forget0_agg one_tup dat0_tup known_tup cells_tup forget0_tup one_bp dat0_bp known_bp cells_bp forget0_bp one_rp dat0_rp known_rp cells_rp forget0_rp one_sl dat0_sl known_sl cells_sl forget0_sl one_fn dat0_fn known_fn cells_fn forget0_fn one_ifc dat0_ifc known_ifc cells_ifc forget0_ifc okCells_nil okCells_cons load_rpA load_rp1 loadB_some load_bpA load1_some at1_some load_bp1 storeB_some store_bp fieldAddr_bp fieldAddr_rp idxE_some index_sl index_arr nil_bp nil_rp nil_fn bi_append appB_sl appB_str aappend one_mp dat0_mp known_mp cells_mp forget0_mp exec_makeMap exec_lookup exec_mapUpdate withOk_true withOk_false exec_mapEntry exec_entryStore exec_arrAt exec_makeSlice arrAt_sl ty2 ty3 ty4 ty5 ty6 ty7 ty8 ty9 ty10 ty11 ty12 ty13 ty14 ty15 ty16 ty17 ty18 ty19 ty20 ty21 ty22 ty23 ty24 ty25 ty27 ty28 ty37 ty38 ty41 ty48 ty51 ty52 ty57 ty58 ty59 ty61 ty62 ty63 ty64 ty65 ty66 hb0 hb1 hb2 hb3 hb4 hb5 hb6 hb7 hb8 hb9 hb10 hb11 hb12 hb13 hb14 hb15 hb16 hb17 hb18 hb19 hb20 hb21 hb22 hb23 hb24 hb25 hb26 hb27 hb28 hb29 hb30 hb31 hb32 hb33 hb34
attribute [local go_sem] encB_len ordSK_not ordSK_late ordS_nil ordS_solo bodyK_normal bodyK_exit onlyN_normal
set_option maxRecDepth 20000
/-- The boxes of longest. -/
def lgBx (B : List (List AV)) (o : Bool) (b : List UInt8) (k : Nat) (s : Nat × Nat) : List (List AV) := B ++ [[.sl o .none (encB b)], [.s (.int .i64 (k : Int))], [.s (.int .i64 (s.1 : Int))], [.s (.int .i64 (s.2 : Int))]]
theorem lng_stop {b : List UInt8} {k f : Nat} {r : List Nat} {s : Nat × Nat} (h : 1024 < k - f ∨ s.1 = 255) : lng b k (f :: r) s = s := by rw [lng, if_pos h]
theorem lng_go {b : List UInt8} {k f : Nat} {r : List Nat} {s : Nat × Nat} (h : ¬ (1024 < k - f ∨ s.1 = 255)) : lng b k (f :: r) s = lng b k r (if s.1 < mlen b k f then (mlen b k f, k - f) else s) := by rw [lng, if_neg h]
def LgJ (st : AS) (o : Bool) (b : List UInt8) (k : Nat) (pre : List (Int × Plc k)) (st' : AS) : Prop :=
  ∃ s : Nat × Nat, st' = ⟨lgBx st.bx o b k s, st.ln⟩ ∧ s.1 ≤ 255 ∧ s.2 ≤ k ∧ ∀ r, lng b k (pre.map (·.2.1) ++ r) (0, 0) = lng b k r s
def LgX (st : AS) (o : Bool) (b : List UInt8) (k : Nat) (c : Code) (pre : List (Int × Plc k)) (st' : AS) : Prop :=
  c = .exit 0 ∧ ∃ s : Nat × Nat, st' = ⟨lgBx st.bx o b k s, st.ln⟩ ∧ ∀ r, lng b k (pre.map (·.2.1) ++ r) (0, 0) = s
set_option maxHeartbeats 4000000 in
theorem g_longest (b : List UInt8) (o p : Bool) (k : Nat) (l : List Nat) (hk : k ≤ b.length) (hl : ∀ f ∈ l, f ≤ k) :
    Gives Try.prog 12 [.sl o .none (encB b), .s (.int .i64 (k : Int)), .sl p .none (encI l)] (.tup [.s (.int .i64 ((lng b k l.reverse (0, 0)).1 : Int)), .s (.int .i64 ((lng b k l.reverse (0, 0)).2 : Int))]) := by
  intro st
  refine bound_sl 0 rfl fun hb => ?_
  rw [encB_len] at hb
  obtain ⟨zs, hzs⟩ : ∃ zs : List (Plc k), zs.map (·.1) = l := ⟨l.attach.map fun x => ⟨x.1, hl x.1 x.2⟩, by simp⟩
  have hzl : zs.length = l.length := by rw [← hzs, List.length_map]
  obtain ⟨d, hd⟩ : ∃ d : Plc k, d.1 = 0 := ⟨⟨0, Nat.zero_le _⟩, rfl⟩
  refine enter_range (α := Int × Plc k) Try.func12 rfl Try.ntmps12 Try.results12 (by simp)
    ⟨61, [(14, backFn p l), (3, .bp st.bx.length 0), (4, .bp (st.bx.length + 1) 0), (8, .bp (st.bx.length + 2) 0), (9, .bp (st.bx.length + 3) 0)]⟩ ⟨lgBx st.bx o b k (0, 0), st.ln⟩ ?pre
    (encs := encP) (fun x => ⟨61, [(11, .s (.int .i64 (x.2.1 : Int))), (3, .bp st.bx.length 0), (4, .bp (st.bx.length + 1) 0), (8, .bp (st.bx.length + 2) 0), (9, .bp (st.bx.length + 3) 0)]⟩)
    (fun a3 x => (Act.put { tmps := (#[15, 16].zip (encP x)).foldl (fun t (p, v) => t.setIfInBounds p v) a3.tmps, defers := [] } (some 11) (Act.eval { tmps := (#[15, 16].zip (encP x)).foldl (fun t (p, v) => t.setIfInBounds p v) a3.tmps, defers := [] } (.tmp 16))))
    17 (N := l.length) (S := fun xs => xs = downto zs d zs.length) (Sp := fun pre => ∃ k, k ≤ zs.length ∧ pre = downto zs d k) (LgJ st o b k) (LgX st o b k) ?ps ?it ?gf ?J ?Jx ?j0 ?ass ?fa ?nd ?body ?jxe ?post
  case pre =>
    go_simp
    refine (g_Backward l p .none).mono ?_
    rintro out st' ⟨rfl, rfl⟩
    go_simp
    rfl
  case ps => intro x; rfl
  case it =>
    intro g3 a3 w3 hi hf
    obtain ⟨Bs, Bo, A, cap, h1, h2, h3, h4⟩ := back_cells (t := 14) hi hf (o := p) (l := l) rfl
    refine ⟨_, g3.K, h1, ?_, fun pre st g' W _ hle hW b o v hv => (hW.K b o v (hle.K b o v hv)).1⟩
    have := back_seq (zs := zs) (Bs := Bs) (Bo := Bo) (cap := cap) (A := A) hi d (by omega) (by rw [hzl]; exact h3) (fun j hj => by
      have := h4 j (by omega)
      have e : (zs.getD j d).1 = l.getD j 0 := by
        rw [← hzs]
        simp [List.getD_eq_getElem?_getD, hj]
      rw [e]
      exact this)
    rw [hzl] at this ⊢
    exact this
  case gf => rfl
  case J => rintro pre st' ⟨s, rfl, _⟩; simp [lgBx]
  case Jx => rintro c pre st' ⟨_, s, rfl, _⟩; simp [lgBx]
  case j0 => exact ⟨(0, 0), rfl, Nat.zero_le _, Nat.zero_le _, fun r => rfl⟩
  case ass =>
    intro a3 l x W K hK
    exact assign_one hK
  case fa =>
    intro g a3 x hf
    have hd : a3.defers = [] := hf.defers
    obtain ⟨tm, df⟩ := a3
    dsimp only at hd
    subst hd
    have h1 := ((hf.put (v := .s (.int .i64 x.1)) (.s _ rfl) (some 15) (fun _ _ => rfl)).put (v := .s (.int .i64 (x.2.1 : Int))) (.s _ rfl) (some 16) (fun _ _ => rfl))
    have h2 := h1.put (h1.eval (.tmp 16)) (some 11) (fun _ _ => rfl)
    have e : (#[15, 16].zip (encP x)).foldl (fun t (p, v) => t.setIfInBounds p v) tm = (tm.setIfInBounds 15 (.int .i64 x.1)).setIfInBounds 16 (.int .i64 (x.2.1 : Int)) := by simp [encP]
    rw [e]
    refine FSim.sub h2 ?_
    go_simp
  case nd => kernel_rfl
  case body =>
    rintro pre ⟨ix, f, hfk⟩ st' ⟨s, rfl, hs1, hs2, hs⟩ hpl
    obtain ⟨s1, s2⟩ := s
    dsimp only at hs1 hs2
    obtain ⟨m, hm1, hm2⟩ : ∃ m, m + f ≤ k ∧ k ≤ m + f := ⟨k - f, by omega, by omega⟩
    have wA : IntKind.i64.wrap ((k : Int) - (f : Int)) = (m : Int) := by rw [IntWalk.i64_in _ (by omega)]; omega
    have hmap : (pre ++ [((ix, ⟨f, hfk⟩) : Int × Plc k)]).map (·.2.1) = pre.map (·.2.1) ++ [f] := by simp
    have stop : (1024 < k - f ∨ s1 = 255) → LgX st o b k (.exit 0) (pre ++ [(ix, ⟨f, hfk⟩)]) ⟨lgBx st.bx o b k (s1, s2), st.ln⟩ := fun h => ⟨rfl, (s1, s2), rfl, fun r => by
      rw [hmap, List.append_assoc, hs]
      exact lng_stop h⟩
    have go : ∀ q, ¬ (1024 < k - f ∨ s1 = 255) → q = (if s1 < mlen b k f then (mlen b k f, k - f) else (s1, s2)) → LgJ st o b k (pre ++ [(ix, ⟨f, hfk⟩)]) ⟨lgBx st.bx o b k q, st.ln⟩ := fun q h e => by
      refine ⟨q, rfl, ?_, ?_, fun r => ?_⟩
      · rw [e]; split
        · exact (mlen_le b k f).1
        · exact hs1
      · rw [e]; split
        · show k - f ≤ k; omega
        · exact hs2
      · rw [hmap, List.append_assoc, hs, e]
        exact lng_go h
    have STOP := Lib.hid stop
    have GO := Lib.hid go
    clear stop go hs hmap
    simp only [lgBx]
    by_cases c1 : 1024 < m
    · have i1 : decide ((1024 : Int) < (m : Int)) = true := by rw [decide_eq_true_eq]; omega
      go_simp
      refine ⟨BoxesOk.same, ?_⟩
      rw [cut_len (by simp) (by simp)]
      exact STOP.out (by omega)
    have i1 : decide ((1024 : Int) < (m : Int)) = false := by rw [decide_eq_false_iff_not]; omega
    by_cases c2 : s1 = 255
    · subst c2
      go_simp
      refine ⟨BoxesOk.same, ?_⟩
      rw [cut_len (by simp) (by simp)]
      exact STOP.out (by omega)
    have i2 : ((s1 : Int) == 255) = false := by rw [beq_eq_false_iff_ne]; omega
    go_simp
    have hML := mlen_le b k f
    have hget : ∀ i, i < mlen b k f → b.getD (k + i) 0 = b.getD (f + i) 0 := fun i h => by
      rw [List.getD_eq_getElem?_getD, List.getD_eq_getElem?_getD, mlen_get h]
    have hne : mlen b k f < 255 → k + mlen b k f < b.length → b.getD (k + mlen b k f) 0 ≠ b.getD (f + mlen b k f) 0 := fun e1 e2 hbb => by
      have := mlen_ge (b := b) (k := k) (f := f) (n := mlen b k f + 1) (by omega) (by omega) (fun i hi => by
        by_cases hi2 : i < mlen b k f
        · exact mlen_get hi2
        · obtain rfl : i = mlen b k f := by omega
          rw [List.getD_eq_getElem?_getD, List.getD_eq_getElem?_getD, List.getElem?_eq_getElem e2, List.getElem?_eq_getElem (show f + mlen b k f < b.length by omega)] at hbb
          rw [List.getElem?_eq_getElem e2, List.getElem?_eq_getElem (show f + mlen b k f < b.length by omega)]
          exact congrArg some hbb)
      omega
    have GO2 : Hid (∀ q, (q = if s1 < mlen b k f then (mlen b k f, k - f) else (s1, s2)) → LgJ st o b k (pre ++ [(ix, ⟨f, hfk⟩)]) ⟨lgBx st.bx o b k q, st.ln⟩) := Lib.hid fun q => GO.out q (by omega)
    have hkf : k - f = m := by omega
    rw [hkf] at GO2
    simp only [lgBx] at GO2
    clear GO STOP hkf
    obtain ⟨hM1, hM2⟩ := hML
    generalize mlen b k f = M at *
    refine loop_cut (σ := { n : Nat // n ≤ M }) (fun z => ⟨61, [(12, .s (.int .i64 (z.1 : Int))), (11, .s (.int .i64 (f : Int))), (3, .bp st.bx.length 0), (4, .bp (st.bx.length + 1) 0), (8, .bp (st.bx.length + 2) 0), (9, .bp (st.bx.length + 3) 0)]⟩) (fun z => ⟨lgBx st.bx o b k (s1, s2), st.ln⟩) (fun z => M - z.1) ⟨0, Nat.zero_le _⟩ (by go_simp) rfl ?_
    rintro ⟨n, hn⟩
    simp only [lgBx]
    obtain ⟨kn, hkn⟩ : ∃ kn, kn = k + n := ⟨_, rfl⟩
    obtain ⟨fn, hfn⟩ : ∃ fn, fn = f + n := ⟨_, rfl⟩
    have w1 : IntKind.i64.wrap ((k : Int) + (n : Int)) = (kn : Int) := by rw [IntWalk.i64_in _ (by omega)]; omega
    have w2 : IntKind.i64.wrap ((f : Int) + (n : Int)) = (fn : Int) := by rw [IntWalk.i64_in _ (by omega)]; omega
    have w3 : IntKind.i64.wrap ((n : Int) + 1) = (n : Int) + 1 := IntWalk.i64_in _ (by omega)
    by_cases hnM : n < M
    · have j1 : decide ((n : Int) < 255) = true := by rw [decide_eq_true_eq]; omega
      have j2 : decide ((k : Int) + (n : Int) < (b.length : Int)) = true := by rw [decide_eq_true_eq]; omega
      have g1 := encB_at? b kn (by omega)
      have g2 := encB_at? b fn (by omega)
      have t1 : (0 : Int) ≤ (k : Int) + (n : Int) := by omega
      have t2 : (0 : Int) ≤ (f : Int) + (n : Int) := by omega
      rw [hkn, show k + n = ((k : Int) + (n : Int)).toNat by omega] at g1
      rw [hfn, show f + n = ((f : Int) + (n : Int)).toNat by omega] at g2
      have hbb : b.getD kn 0 = b.getD fn 0 := by
        rw [hkn, hfn, hget n hnM]
      have j3 : (((b.getD kn 0).toNat : Int) == ((b.getD fn 0).toNat : Int)) = true := by rw [beq_iff_eq, hbb]
      rw [hkn, hfn, show k + n = ((k : Int) + (n : Int)).toNat by omega, show f + n = ((f : Int) + (n : Int)).toNat by omega] at j3
      generalize (b.getD ((k : Int) + (n : Int)).toNat 0).toNat = x1 at *
      generalize (b.getD ((f : Int) + (n : Int)).toNat 0).toNat = x2 at *
      clear hbb
      go_simp
      refine draw [(false, false), (false, false), (false, false), (true, false), (true, false), (true, false), (false, false), (false, false), (false, false), (false, false), (false, false), (true, false), (true, false), (true, false), (true, false), (true, false), (true, false), (true, false), (true, false), (false, false), (false, false), (false, false), (false, false), (false, false), (false, false)] (by kernel_rfl) (by kernel_rfl) ?_
      go_simp
      exact ⟨⟨n + 1, by omega⟩, by go_simp, by rw [cut_len (by simp) (by simp)], by show M - (n + 1) < M - n; omega, .same, by simp [InB_s, InB_bp]⟩
    obtain rfl : M = n := by omega
    have hex : decide (((M : Nat) : Int) < 255) = false ∨ (decide (((M : Nat) : Int) < 255) = true ∧ decide ((k : Int) + ((M : Nat) : Int) < (b.length : Int)) = false) ∨
        (decide (((M : Nat) : Int) < 255) = true ∧ decide ((k : Int) + ((M : Nat) : Int) < (b.length : Int)) = true ∧ ∃ x1 x2 : Nat, (encB b)[((k : Int) + ((M : Nat) : Int)).toNat]? = some [.s (.int .u8 (x1 : Int))] ∧ (encB b)[((f : Int) + ((M : Nat) : Int)).toNat]? = some [.s (.int .u8 (x2 : Int))] ∧ ((x1 : Int) == (x2 : Int)) = false) := by
      by_cases e1 : M < 255
      · have d1 : decide (((M : Nat) : Int) < 255) = true := by rw [decide_eq_true_eq]; omega
        by_cases e2 : k + M < b.length
        · refine .inr (.inr ⟨d1, by rw [decide_eq_true_eq]; omega, _, _, encB_at? b _ (by omega), encB_at? b _ (by omega), ?_⟩)
          rw [beq_eq_false_iff_ne, show ((k : Int) + ((M : Nat) : Int)).toNat = k + M by omega, show ((f : Int) + ((M : Nat) : Int)).toNat = f + M by omega]
          intro he
          have hbb : b.getD (k + M) 0 = b.getD (f + M) 0 := UInt8.toNat_inj.1 (by omega)
          exact hne e1 e2 hbb
        · exact .inr (.inl ⟨d1, by rw [decide_eq_false_iff_not]; omega⟩)
      · exact .inl (by rw [decide_eq_false_iff_not]; omega)
    have t1 : (0 : Int) ≤ (k : Int) + ((M : Nat) : Int) := by omega
    have t2 : (0 : Int) ≤ (f : Int) + ((M : Nat) : Int) := by omega
    clear hkn hfn w1 w2 w3 hnM
    have w1 : IntKind.i64.wrap ((k : Int) + (M : Int)) = (k : Int) + (M : Int) := IntWalk.i64_in _ (by omega)
    have w2 : IntKind.i64.wrap ((f : Int) + (M : Int)) = (f : Int) + (M : Int) := IntWalk.i64_in _ (by omega)
    have hlast : (s1 < M ∧ decide (s1 < M) = true) ∨ (¬ s1 < M ∧ decide (s1 < M) = false) := by
      by_cases h : s1 < M
      · exact .inl ⟨h, by rw [decide_eq_true_eq]; omega⟩
      · exact .inr ⟨h, by rw [decide_eq_false_iff_not]; omega⟩
    rcases hlast with ⟨q1, q2⟩ | ⟨q1, q2⟩
    · have HG := Lib.hid (GO2.out (M, m) (by rw [if_pos q1]))
      clear GO2
      have q3 := Lib.hid q1
      clear q1
      rcases hex with j1 | ⟨j1, j2⟩ | ⟨j1, j2, x1, x2, g1, g2, j3⟩
      all_goals
        go_simp
        refine draw [(false, false), (false, false), (false, false), (true, false), (true, false), (true, false), (false, false), (false, false), (false, false), (false, false), (false, false), (true, false), (true, false), (true, false), (true, false), (true, false), (true, false), (true, false), (true, false), (false, false), (false, false), (false, false), (false, false), (false, false), (false, false)] (by kernel_rfl) (by kernel_rfl) ?_
        go_simp
        refine drawS (fun S => ∃ c d, S = ⟨st.bx ++ [[.sl o .none (encB b)], [.s (.int .i64 (k : Int))], [.s (.int .i64 c)], [.s (.int .i64 d)]], st.ln⟩) [(true, false), (true, false), (true, false), (true, false), (false, false), (false, false)] (by kernel_rfl) (by kernel_rfl) ?_
        refine ordS_free (.s (.int .i64 (M : Int))) ⟨_, _, rfl⟩ (by rintro s ⟨c, d, rfl⟩; go_simp) ?_
        go_simp
        refine ordS_free (.s (.int .i64 (k : Int))) ⟨_, _, rfl⟩ (by rintro s ⟨c, d, rfl⟩; go_simp) ?_
        go_simp
        refine ordS_free (.s (.int .i64 (f : Int))) ⟨_, _, rfl⟩ (by rintro s ⟨c, d, rfl⟩; go_simp) ?_
        go_simp
        refine ordS_free (.s (.int .i64 (m : Int))) ⟨_, _, rfl⟩ (by rintro s ⟨c, d, rfl⟩; go_simp) ?_
        go_simp
        refine ⟨boxes_as0 rfl (box_cons (.inl rfl) (box_cons (.inl rfl) (box_cons (.inr (by simp [InB_s])) (box_cons (.inr (by simp [InB_s])) box_nil)))), ?_⟩
        rw [cut_len (by simp) (by simp)]
        exact HG.out
    · have HG := Lib.hid (GO2.out (s1, s2) (by rw [if_neg q1]))
      clear GO2
      have q3 := Lib.hid q1
      clear q1
      rcases hex with j1 | ⟨j1, j2⟩ | ⟨j1, j2, x1, x2, g1, g2, j3⟩
      all_goals
        go_simp
        refine draw [(false, false), (false, false), (false, false), (true, false), (true, false), (true, false), (false, false), (false, false), (false, false), (false, false), (false, false), (true, false), (true, false), (true, false), (true, false), (true, false), (true, false), (true, false), (true, false), (false, false), (false, false), (false, false), (false, false), (false, false), (false, false)] (by kernel_rfl) (by kernel_rfl) ?_
        go_simp
        refine ⟨BoxesOk.same, ?_⟩
        rw [cut_len (by simp) (by simp)]
        exact HG.out
  case jxe => rintro c pre st' ⟨h, _⟩; exact h
  case post =>
    intro st4 h4
    have hf : ∃ s : Nat × Nat, st4 = ⟨lgBx st.bx o b k s, st.ln⟩ ∧ lng b k l.reverse (0, 0) = s := by
      rcases h4 with ⟨xs, rfl, s, rfl, _, _, hs⟩ | ⟨pre, ⟨j, hj, rfl⟩, _, s, rfl, hs⟩
      · refine ⟨s, rfl, ?_⟩
        have := hs []
        rw [downto_take _ _ _ (Nat.le_refl _), hzs, List.append_nil, hzl, List.take_of_length_le (by simp)] at this
        exact this
      · refine ⟨s, rfl, ?_⟩
        have := hs (l.reverse.drop j)
        rw [downto_take _ _ _ hj, hzs, List.take_append_drop] at this
        exact this
    clear h4
    obtain ⟨s, rfl, hr⟩ := hf
    rw [hr]
    simp only [lgBx]
    go_simp
    refine draw [(true, false), (true, false), (false, false), (false, false)] (by kernel_rfl) (by kernel_rfl) ?_
    go_simp
    exact end_pure1 rfl (by simp [InB_tup, InB_s])
end Go.Proofs.Ytilpiclmdmnlkaa
/- What block.Pack holds while it works: the places of each four bytes, and what is packed so far. -/
set_option linter.unusedVariables false
set_option linter.unusedSimpArgs false
namespace Go.Proofs.Ytilpiclmdmnlkaa
open Go.RowKit

/-! ### Places, plain -/
/-- The places ahead of k at which q stands. -/
def cnd (b : List UInt8) (k : Nat) (q : List UInt8) : List Nat := (List.range k).filter fun f => decide (f + 4 ≤ b.length) && (four b f == q)
theorem cands_cnd (b : List UInt8) (k : Nat) : cands b k = cnd b k (four b k) := rfl
theorem cnd_succ (b : List UInt8) (k : Nat) (q : List UInt8) : cnd b (k + 1) q = cnd b k q ++ (if k + 4 ≤ b.length ∧ four b k = q then [k] else []) := by
  unfold cnd
  rw [List.range_succ, List.filter_append]
  congr 1
  by_cases h : k + 4 ≤ b.length ∧ four b k = q
  · rw [if_pos h]; simp [h.1, h.2]
  · rw [if_neg h]
    rw [List.filter_eq_nil_iff]
    intro x hx
    obtain rfl : x = k := by simpa using hx
    simp only [Bool.and_eq_true, decide_eq_true_eq, beq_iff_eq]
    exact h
theorem cnd_lt {b : List UInt8} {k : Nat} {q : List UInt8} : ∀ f ∈ cnd b k q, f ≤ k := fun f h => by
  have := (List.mem_filter.1 h).1
  simp at this
  omega
theorem cnd_len (b : List UInt8) (k : Nat) (q : List UInt8) : (cnd b k q).length ≤ k := by
  unfold cnd
  refine Nat.le_trans (List.length_filter_le _ _) ?_
  simp
theorem four_len {b : List UInt8} {k : Nat} (h : k + 4 ≤ b.length) : (four b k).length = 4 := by
  unfold four
  rw [List.length_take, List.length_drop]; omega

/-! ### What is held -/
structure Ent where
  q : List UInt8
  l : List Nat
  id : Nat
def Ent.pair (e : Ent) : Value × AV := (keyV e.q, .sl true (.lin e.id) (encI e.l))
structure PS (L0 : List (Nat × Nat × Nat)) (b : List UInt8) (k : Nat) (es : List Ent) (tag : Tag) (out : List UInt8) (ln : List (Nat × Nat × Nat)) : Prop where
  len4 : ∀ e ∈ es, e.q.length = 4
  keys : (es.map (·.q)).Nodup
  ids : (es.map (·.id)).Nodup
  rows : ∀ e ∈ es, ln[e.id]? = some (e.l.length, 3, 1)
  has : ∀ e ∈ es, e.l = cnd b k e.q
  all : ∀ q, q ∉ es.map (·.q) → cnd b k q = []
  pre : ln.take L0.length = L0
  ge : ∀ e ∈ es, L0.length ≤ e.id
  pt : (tag = .full ∧ out ≠ []) ∨ ∃ id, tag = .lin id ∧ ln[id]? = some (out.length, 5, 1) ∧ id ∉ es.map (·.id) ∧ L0.length ≤ id
theorem set_pre {α : Type} {ln : List α} {n id : Nat} {x : α} (h : n ≤ id) : (ln.set id x).take n = ln.take n := by
  refine List.ext_getElem? fun i => ?_
  rw [List.getElem?_take, List.getElem?_take]
  split
  · rw [List.getElem?_set_ne (by omega)]
  · rfl
theorem pre_le {α : Type} {ln L0 : List α} (h : ln.take L0.length = L0) : L0.length ≤ ln.length := by
  have := congrArg List.length h
  rw [List.length_take] at this
  omega
theorem app_pre {α : Type} {ln L0 r : List α} (h : ln.take L0.length = L0) : (ln ++ r).take L0.length = L0 := by
  rw [List.take_append_of_le_length (pre_le h)]; exact h
theorem PS.keysOk {L0 : List (Nat × Nat × Nat)} {b : List UInt8} {k : Nat} {es : List Ent} {tag : Tag} {out : List UInt8} {ln : List (Nat × Nat × Nat)} (h : PS L0 b k es tag out ln) : ∀ p ∈ es.map Ent.pair, KeyOk Try.prog 38 p.1 := by
  intro p hp
  obtain ⟨e, he, rfl⟩ := List.mem_map.1 hp
  exact keyV_ok _ (h.len4 e he)
/-- What a key finds. -/
theorem PS.find {L0 : List (Nat × Nat × Nat)} {b : List UInt8} {k : Nat} {es : List Ent} {tag : Tag} {out : List UInt8} {ln : List (Nat × Nat × Nat)} (h : PS L0 b k es tag out ln) (q : List UInt8) :
    (q ∉ es.map (·.q) ∧ Finds (es.map Ent.pair) (keyV q) none) ∨ ∃ (j : Nat) (e : Ent), es[j]? = some e ∧ e.q = q ∧ Finds (es.map Ent.pair) (keyV q) (some (j, .sl true (.lin e.id) (encI e.l))) := by
  by_cases hq : q ∈ es.map (·.q)
  · right
    obtain ⟨e, he, rfl⟩ := List.mem_map.1 hq
    obtain ⟨j, hj⟩ := List.getElem?_of_mem he
    refine ⟨j, e, hj, rfl, by rw [List.getElem?_map, hj]; rfl, fun j' v' hj' => ?_⟩
    rw [List.getElem?_map, Option.map_eq_some_iff] at hj'
    obtain ⟨e', he', hp⟩ := hj'
    have hk : e'.q = e.q := keyV_inj (congrArg Prod.fst hp)
    have h1 : (es.map (·.q))[j']? = some e.q := by rw [List.getElem?_map, he']; simp [hk]
    have h2 : (es.map (·.q))[j]? = some e.q := by rw [List.getElem?_map, hj]; rfl
    exact (List.getElem?_inj (List.getElem?_eq_some_iff.1 h1).1 h.keys).1 (h1.trans h2.symm)
  · left
    refine ⟨hq, fun p hp he => ?_⟩
    obtain ⟨e, hm, rfl⟩ := List.mem_map.1 hp
    exact hq (List.mem_map.2 ⟨e, hm, keyV_inj he⟩)
/-- A place at which no four bytes stand. -/
theorem PS.skip {L0 : List (Nat × Nat × Nat)} {b : List UInt8} {k : Nat} {es : List Ent} {tag : Tag} {out : List UInt8} {ln : List (Nat × Nat × Nat)} (h : PS L0 b k es tag out ln) (hk : b.length < k + 4) : PS L0 b (k + 1) es tag out ln := by
  have hc : ∀ q, cnd b (k + 1) q = cnd b k q := fun q => by rw [cnd_succ, if_neg (by omega), List.append_nil]
  exact ⟨h.len4, h.keys, h.ids, h.rows, fun e he => by rw [hc]; exact h.has e he, fun q hq => by rw [hc]; exact h.all q hq, h.pre, h.ge, h.pt⟩
/-- A place is noted: an entry there is. -/
theorem PS.more {L0 : List (Nat × Nat × Nat)} {b : List UInt8} {k j : Nat} {es : List Ent} {e : Ent} {tag : Tag} {out : List UInt8} {ln : List (Nat × Nat × Nat)} (h : PS L0 b k es tag out ln) (hk : k + 4 ≤ b.length) (hj : es[j]? = some e) (hq : e.q = four b k) :
    PS L0 b (k + 1) (es.set j ⟨e.q, e.l ++ [k], e.id⟩) tag out (ln.set e.id (e.l.length + 1, 3, 1)) := by
  have hjl := (List.getElem?_eq_some_iff.1 hj).1
  have hem := List.mem_of_getElem? hj
  have mq : (es.set j ⟨e.q, e.l ++ [k], e.id⟩).map (·.q) = es.map (·.q) := by
    rw [List.map_set]
    refine List.ext_getElem? fun i => ?_
    by_cases hi : j = i
    · subst hi
      simp [hjl, hj]
      exact congrArg Ent.q (List.getElem?_eq_some_iff.1 hj).2.symm
    · rw [List.getElem?_set_ne hi]
  have mi : (es.set j ⟨e.q, e.l ++ [k], e.id⟩).map (·.id) = es.map (·.id) := by
    rw [List.map_set]
    refine List.ext_getElem? fun i => ?_
    by_cases hi : j = i
    · subst hi
      simp [hjl, hj]
      exact congrArg Ent.id (List.getElem?_eq_some_iff.1 hj).2.symm
    · rw [List.getElem?_set_ne hi]
  have get : ∀ x, x ∈ es.set j ⟨e.q, e.l ++ [k], e.id⟩ → x = ⟨e.q, e.l ++ [k], e.id⟩ ∨ ∃ i, i ≠ j ∧ es[i]? = some x := fun x hx => by
    obtain ⟨i, hi⟩ := List.getElem?_of_mem hx
    by_cases hij : j = i
    · subst hij
      left
      simpa [hjl] using hi.symm
    · rw [List.getElem?_set_ne hij] at hi
      exact .inr ⟨i, fun h => hij h.symm, hi⟩
  have other : ∀ (i : Nat) x, i ≠ j → es[i]? = some x → x.id ≠ e.id ∧ x.q ≠ e.q := fun i x hij hi => by
    refine ⟨fun he => hij ?_, fun he => hij ?_⟩
    · have h1 : (es.map (·.id))[i]? = some e.id := by rw [List.getElem?_map, hi]; simp [he]
      have h2 : (es.map (·.id))[j]? = some e.id := by rw [List.getElem?_map, hj]; rfl
      exact (List.getElem?_inj (List.getElem?_eq_some_iff.1 h1).1 h.ids).1 (h1.trans h2.symm)
    · have h1 : (es.map (·.q))[i]? = some e.q := by rw [List.getElem?_map, hi]; simp [he]
      have h2 : (es.map (·.q))[j]? = some e.q := by rw [List.getElem?_map, hj]; rfl
      exact (List.getElem?_inj (List.getElem?_eq_some_iff.1 h1).1 h.keys).1 (h1.trans h2.symm)
  have hrow := h.rows e hem
  have hlt := (List.getElem?_eq_some_iff.1 hrow).1
  refine ⟨fun x hx => ?_, by rw [mq]; exact h.keys, by rw [mi]; exact h.ids, fun x hx => ?_, fun x hx => ?_, fun q hqn => ?_, (set_pre (h.ge e hem)).trans h.pre, fun x hx => ?_, ?_⟩
  · rcases get x hx with rfl | ⟨i, hi, hx⟩
    · exact h.len4 e hem
    · exact h.len4 x (List.mem_of_getElem? hx)
  · rcases get x hx with rfl | ⟨i, hi, hx⟩
    · show (ln.set e.id _)[e.id]? = _
      rw [List.getElem?_set_self hlt]
      simp
    · rw [List.getElem?_set_ne (Ne.symm (other i x hi hx).1)]
      exact h.rows x (List.mem_of_getElem? hx)
  · rcases get x hx with rfl | ⟨i, hi, hx⟩
    · show e.l ++ [k] = cnd b (k + 1) e.q
      rw [cnd_succ, if_pos ⟨hk, hq.symm⟩, h.has e hem]
    · rw [cnd_succ, if_neg (fun hc => (other i x hi hx).2 (by rw [hq]; exact hc.2.symm)), List.append_nil]
      exact h.has x (List.mem_of_getElem? hx)
  · rw [mq] at hqn
    rw [cnd_succ, if_neg (fun hc => hqn (by rw [← hc.2, ← hq]; exact List.mem_map.2 ⟨e, hem, rfl⟩)), List.append_nil]
    exact h.all q hqn
  · rcases get x hx with rfl | ⟨i, hi, hx⟩
    · exact h.ge e hem
    · exact h.ge x (List.mem_of_getElem? hx)
  · rcases h.pt with hp | ⟨id, h1, h2, h3, h4⟩
    · exact .inl hp
    · refine .inr ⟨id, h1, ?_, by rw [mi]; exact h3, h4⟩
      rw [List.getElem?_set_ne (fun (hh : e.id = id) => h3 (List.mem_map.2 ⟨e, hem, hh⟩))]
      exact h2
/-- A place is noted: a new entry. -/
theorem PS.new {L0 : List (Nat × Nat × Nat)} {b : List UInt8} {k : Nat} {es : List Ent} {tag : Tag} {out : List UInt8} {ln : List (Nat × Nat × Nat)} (h : PS L0 b k es tag out ln) (hk : k + 4 ≤ b.length) (hq : four b k ∉ es.map (·.q)) :
    PS L0 b (k + 1) (es ++ [⟨four b k, [k], ln.length⟩]) tag out (ln ++ [(1, 3, 1)]) := by
  have fresh : ∀ e ∈ es, e.id < ln.length := fun e he => (List.getElem?_eq_some_iff.1 (h.rows e he)).1
  have get : ∀ x, x ∈ es ++ [⟨four b k, [k], ln.length⟩] → x ∈ es ∨ x = ⟨four b k, [k], ln.length⟩ := fun x hx => by simpa using hx
  refine ⟨fun x hx => ?_, ?_, ?_, fun x hx => ?_, fun x hx => ?_, fun q hqn => ?_, app_pre h.pre, fun x hx => ?_, ?_⟩
  · rcases get x hx with hx | rfl
    · exact h.len4 x hx
    · exact four_len hk
  · rw [List.map_append, List.nodup_append]
    refine ⟨h.keys, by simp, fun a ha c hc he => ?_⟩
    have : c = four b k := by simpa using hc
    subst this
    subst he
    exact hq ha
  · rw [List.map_append, List.nodup_append]
    refine ⟨h.ids, by simp, fun a ha c hc he => ?_⟩
    have : c = ln.length := by simpa using hc
    subst this
    subst he
    obtain ⟨e, he, h1⟩ := List.mem_map.1 ha
    have := fresh e he
    omega
  · rcases get x hx with hx | rfl
    · rw [List.getElem?_append_left (fresh x hx)]
      exact h.rows x hx
    · simp
  · rcases get x hx with hx | rfl
    · rw [cnd_succ, if_neg (fun hc => hq (by rw [hc.2]; exact List.mem_map.2 ⟨x, hx, rfl⟩)), List.append_nil]
      exact h.has x hx
    · show [k] = cnd b (k + 1) (four b k)
      rw [cnd_succ, if_pos ⟨hk, rfl⟩, h.all _ hq]
      rfl
  · simp only [List.map_append, List.mem_append, not_or] at hqn
    rw [cnd_succ, if_neg (fun hc => hqn.2 (by simp [hc.2])), List.append_nil]
    exact h.all q hqn.1
  · rcases get x hx with hx | rfl
    · exact h.ge x hx
    · exact pre_le h.pre
  · rcases h.pt with hp | ⟨id, h1, h2, h3, h4⟩
    · exact .inl hp
    · have hlt := (List.getElem?_eq_some_iff.1 h2).1
      refine .inr ⟨id, h1, by rw [List.getElem?_append_left hlt]; exact h2, ?_, h4⟩
      simp only [List.map_append, List.mem_append, not_or]
      refine ⟨h3, ?_⟩
      simp
      omega
/-- Bytes are laid behind what is packed. -/
theorem PS.app {L0 : List (Nat × Nat × Nat)} {b : List UInt8} {k : Nat} {es : List Ent} {tag : Tag} {out m : List UInt8} {B : List (List AV)} {ln : List (Nat × Nat × Nat)} {news : List (List AV)} (h : PS L0 b k es tag out ln) {K : AV → AS → Prop} (hm : news = encB m) (hm0 : m ≠ [])
    (hlen : out.length + m.length ≤ 140737488355328) (hK : ∀ tag' ln', PS L0 b k es tag' (out ++ m) ln' → K (.sl true tag' (encB (out ++ m))) ⟨B, ln'⟩) : aapp 5 1 1 (.sl true tag (encB out)) news ⟨B, ln⟩ K := by
  have hne : out ++ m ≠ [] := by simp [hm0]
  rcases h.pt with ⟨rfl, h0⟩ | ⟨id, rfl, h2, h3, h4⟩
  · subst hm
    refine ⟨by rw [encB_len, encB_len]; omega, encB_lens out, .inl ⟨.inr (by intro h; exact hm0 (by simpa [encB] using h)), ?_⟩⟩
    rw [encB_app, encB_len]
    have fresh : ∀ e ∈ es, e.id < ln.length := fun e he => (List.getElem?_eq_some_iff.1 (h.rows e he)).1
    refine hK _ _ ⟨h.len4, h.keys, h.ids, fun e he => ?_, h.has, h.all, app_pre h.pre, h.ge, .inr ⟨_, rfl, by simp, fun hh => ?_, pre_le h.pre⟩⟩
    · rw [List.getElem?_append_left (fresh e he)]; exact h.rows e he
    · obtain ⟨e, he, h1⟩ := List.mem_map.1 hh
      have := fresh e he
      have h2 : e.id = ln.length := h1
      omega
  · have hlt := (List.getElem?_eq_some_iff.1 h2).1
    refine aapp_bytes hm h2 hlen (hK _ _ ⟨h.len4, h.keys, h.ids, fun e he => ?_, h.has, h.all, (set_pre h4).trans h.pre, h.ge, .inr ⟨id, rfl, by rw [List.getElem?_set_self hlt]; simp, h3, h4⟩⟩)
    rw [List.getElem?_set_ne (fun (hh : id = e.id) => h3 (List.mem_map.2 ⟨e, he, hh.symm⟩))]
    exact h.rows e he
theorem map_set_pair (es : List Ent) (j : Nat) (e : Ent) : (es.set j e).map Ent.pair = (es.map Ent.pair).set j e.pair := by rw [List.map_set]
end Go.Proofs.Ytilpiclmdmnlkaa
