/- Merged: AUnp. -/
import Derived.Test.YtilpiclmdmnlkaaZ19
/- block.Unpack: token by token. -/
set_option linter.unusedVariables false
set_option linter.unusedSimpArgs false
namespace Go.Proofs.Ytilpiclmdmnlkaa
open Go.RowKit
attribute [local go_sem] normK_app aopsK_app atSt_app ofK_app stK_app extK_val panicK_app thenA_normal thenA_exit thenA_ret thenA_panic blockK_normal blockK_exit blockK_ret blockK_panic callK_ret callK_panic awp_skip awp_region awp_draw awp_seq awp_cond acond_true acond_false dstAt_zero dstAt_succ guardV_some aops_guard_eq aguard_true aguard_true' aguard_false aguard_false' aguard_und ogF_und ogS_und ord_guard ogF_tt ogF_ft ogF_tf ogF_ff ogS_tt ogS_ff ogS_ft ogS_tf awp_block awp_loop awp_exit awp_ret awp_label awp_scope aops_nil aops_plain exec_move exec_assign exec_pick exec_alloc pick_true pick_false free_pick fpick_true fpick_false exec_box exec_build exec_buildSlice exec_load exec_store exec_nilCheck exec_binOp abinK_some exec_unOp aunK_some exec_convert conv_s exec_makeInterface exec_makeFunc exec_slice exec_fieldAddr exec_field exec_indexAddr exec_index exec_extract exec_call exec_panic call_value call_builtin alitsK_some acallB_true acallB_false callF_fn bi_len eval_tmp eval_const eval_func look_cons look_nil put_some put_none ofV_int ofV_bool ofV_float ofV_string ofV_slice ofV_ptr ofV_map ofV_agg ofV_tup lit_s box_eq box_var get_here get_here0 set_here set_here0 number_nil number_cons retK_ret retK_normal retK_panic ends1 ends2 ends3 ends0 retOne_app endsC TRun AV.lits AV.lit0 aordF_app aordS_not aordS_late ord_nil ord_free ord_solo freeK_app free_move free_assign free_build free_buildSlice free_load free_nilCheck free_binOp free_unOp free_convert free_makeInterface free_makeFunc free_slice free_fieldAddr free_field free_indexAddr free_index free_extract free_len free_call freeF_fn agives_false roundK_normal roundK_exit roundK_ret roundK_panic roundC_normal roundC_exit roundC_ret roundC_panic sub_nil sub_cons aalloc abox aiface afield aindex aextract alen abuild abuildSlice afill afillS splice Tag.calm oneV AV.forget AV.forget1 one_any dat0_any known_any cells_any forget0_any one_s dat0_s known_s cells_s forget0_s one_agg dat0_agg known_agg cells_agg forget0_agg one_tup dat0_tup known_tup cells_tup forget0_tup one_bp dat0_bp known_bp cells_bp forget0_bp one_rp dat0_rp known_rp cells_rp forget0_rp one_sl dat0_sl known_sl cells_sl forget0_sl one_fn dat0_fn known_fn cells_fn forget0_fn one_ifc dat0_ifc known_ifc cells_ifc forget0_ifc okCells_nil okCells_cons load_rpA load_rp1 loadB_some load_bpA load1_some at1_some load_bp1 storeB_some store_bp fieldAddr_bp fieldAddr_rp idxE_some index_sl index_arr nil_bp nil_rp nil_fn bi_append appB_sl appB_str aappend one_mp dat0_mp known_mp cells_mp forget0_mp exec_makeMap exec_lookup exec_mapUpdate withOk_true withOk_false exec_mapEntry exec_entryStore exec_arrAt exec_makeSlice arrAt_sl ty2 ty3 ty4 ty5 ty6 ty7 ty8 ty9 ty10 ty11 ty12 ty13 ty14 ty15 ty16 ty17 ty18 ty19 ty20 ty21 ty22 ty23 ty24 ty25 ty27 ty28 ty37 ty38 ty41 ty48 ty51 ty52 ty57 ty58 ty59 ty61 ty62 ty63 ty64 ty65 ty66 hb0 hb1 hb2 hb3 hb4 hb5 hb6 hb7 hb8 hb9 hb10 hb11 hb12 hb13 hb14 hb15 hb16 hb17 hb18 hb19 hb20 hb21 hb22 hb23 hb24 hb25 hb26 hb27 hb28 hb29 hb30 hb31 hb32 hb33 hb34
attribute [local go_sem] encB_len ordSK_not ordSK_late ordS_nil ordS_solo nthC_zero nthC_succ pickL_nil pickL_cons
set_option maxRecDepth 20000

def tupB (r : List UInt8 × Int) : AV := .tup [.sl true .none (encB r.1), .s (.int .i64 r.2)]
theorem encB_drop (l : List UInt8) (k : Nat) : encB (l.drop k) = (encB l).drop k := by simp [encB]
theorem encB_take (l : List UInt8) (k : Nat) : encB (l.take k) = (encB l).take k := by simp [encB]
theorem slice_B {own : Bool} {tag : Tag} {l s : List UInt8} {ik ik' : IntKind} {lo hi : Int} {j m : Nat} {K : AV → Prop} (hlo : lo = (j : Nat)) (hhi : hi = ((j + m : Nat) : Int)) (hk : j + m ≤ l.length) (hs : (l.drop j).take m = s)
    (h : K (.sl own .none (encB s))) : aslice Try.prog 23 (.sl own tag (encB l)) (some (.s (.int ik lo))) (some (.s (.int ik' hi))) K := by
  subst hlo hhi hs
  refine slice_lh ty23 (by omega) (by rw [encB_len]; omega) (by decide) (encB_lens l) ?_
  rw [← encB_take, ← encB_drop, List.drop_take, Nat.add_sub_cancel_left]
  exact h
theorem wk_t2 {a a' b : AV} (h : Wk a a') : Wk (.tup [a, b]) (.tup [a', b]) := by
  intro g x hx
  cases hx with
  | tup l y hs hh =>
    refine .tup _ y hs fun i z hz => ?_
    match i, hz with
    | 0, hz => obtain rfl := Option.some.inj hz; exact h _ _ (hh 0 _ rfl)
    | 1, hz => obtain rfl := Option.some.inj hz; exact hh 1 _ rfl
theorem end_no {st : AS} {e : Int} {k : List (Nat × Nat × Nat)} : RetForm st (.tup [.s (.slice none 0 0), .s (.int .i64 e)]) ⟨st.bx, st.ln ++ k⟩ (GW st (tupB ([], e))) := by
  have h := end_w (st := st) (u := .tup [.s (.slice none 0 0), .s (.int .i64 e)]) (v := tupB ([], e)) (l := []) (k := k) (by simp [AV.forget, AV.forget1, AV.forget0, InB_tup, InB_agg, InB_s, InB_none]) (wk_t2 (Wk.nil _))
  simpa using h
theorem end_no0 {st : AS} {e : Int} : RetForm st (.tup [.s (.slice none 0 0), .s (.int .i64 e)]) st (GW st (tupB ([], e))) := by
  simpa using end_no (st := st) (e := e) (k := [])
theorem end_yes {st : AS} {l : List UInt8} {i : Nat} {k : List (Nat × Nat × Nat)} : RetForm st (.tup [.sl true (.lin i) (encB l), .s (.int .i64 0)]) ⟨st.bx, st.ln ++ k⟩ (GW st (tupB (l, 0))) := by
  have h := end_w (st := st) (u := .tup [.sl true (.lin i) (encB l), .s (.int .i64 0)]) (v := tupB (l, 0)) (l := []) (k := k) (by simp [AV.forget, AV.forget1, AV.forget0, InB_tup, InB_agg, InB_s, InB_none]) (Wk.refl _)
  simpa using h
theorem end_yes0 {st : AS} {l : List UInt8} : RetForm st (.tup [.sl true .none (encB l), .s (.int .i64 0)]) st (GW st (tupB (l, 0))) := by
  have h := end_w (st := st) (u := .tup [.sl true .none (encB l), .s (.int .i64 0)]) (v := tupB (l, 0)) (l := []) (k := []) (by simp [AV.forget, AV.forget1, AV.forget0, InB_tup, InB_agg, InB_s, InB_none]) (Wk.refl _)
  simpa using h
theorem encB_at? (l : List UInt8) (i : Nat) (h : i < l.length) : (encB l)[i]? = some [.s (.int .u8 ((l.getD i 0).toNat : Int))] := by
  simp [encB, List.getD_eq_getElem?_getD, h]
set_option maxHeartbeats 4000000 in
theorem g_Unpack (p : List UInt8) (o : Bool) : Gives Try.prog 5 [.sl o .none (encB p)] (tupB (unp p)) := by
  refine .of_GW fun st => ?_
  refine bound_sl 0 rfl fun hb => ?_
  rw [encB_len] at hb
  refine enter Try.func5 rfl Try.ntmps5 Try.results5 (by simp) ?_
  by_cases h0 : p.length = 0
  · have hp : p = [] := List.length_eq_zero_iff.1 h0
    subst hp
    have hu : unp [] = ([], 4) := rfl
    rw [hu]
    go_simp
    exact end_no0
  have i0 : ((p.length : Int) == 0) = false := by rw [beq_eq_false_iff_ne]; omega
  have g0 : (encB p)[0]? = some [.s (.int .u8 ((p.getD 0 0).toNat : Int))] := encB_at? p 0 (by omega)
  have hu : unp p = if 1 < (p.getD 0 0).toNat then ([], 5) else if (p.getD 0 0).toNat = 0 then (if 2049 < p.length then ([], 2) else (p.drop 1, 0)) else unL p p.length 1 [] := by unfold unp; rw [if_neg h0]
  have hlt : (p.getD 0 0).toNat < 256 := UInt8.toNat_lt _
  generalize (p.getD 0 0).toNat = c at *
  by_cases h1 : 1 < c
  · rw [if_pos h1] at hu
    rw [hu]
    have i1 : decide ((1 : Int) < (c : Int)) = true := by rw [decide_eq_true_eq]; omega
    go_simp
    exact end_no0
  rw [if_neg h1] at hu
  have i1 : decide ((1 : Int) < (c : Int)) = false := by rw [decide_eq_false_iff_not]; omega
  by_cases h2 : c = 0
  · subst h2
    rw [if_pos rfl] at hu
    have w1 : IntKind.i64.wrap ((p.length : Int) - 1) = (p.length : Int) - 1 := IntWalk.i64_in _ (by omega)
    by_cases h3 : 2049 < p.length
    · rw [if_pos h3] at hu
      rw [hu]
      have i2 : decide ((2048 : Int) < (p.length : Int) - 1) = true := by rw [decide_eq_true_eq]; omega
      go_simp
      exact end_no0
    · rw [if_neg h3] at hu
      rw [hu]
      have i2 : decide ((2048 : Int) < (p.length : Int) - 1) = false := by rw [decide_eq_false_iff_not]; omega
      go_simp
      refine slice_lo (k := 1) ty23 (by rw [encB_len]; omega) (by decide) (encB_lens p) ?_
      rw [← encB_drop]
      go_simp
      by_cases hd : p.tail = []
      · rw [hd]
        refine g_Clone0 _ _ ?_
        go_simp
        exact end_yes0 (l := [])
      · refine g_Clone p.tail _ _ hd ?_ (by rw [List.length_tail]; omega)
        go_simp
        exact end_yes
  rw [if_neg h2] at hu
  obtain rfl : c = 1 := by omega
  have HU0 := Lib.hid hu
  clear hu
  go_simp
  refine grow_tmp 5 1 4 rfl ?_
  go_simp
  refine loop_cut (σ := {z : Nat × List UInt8 // 1 ≤ z.1 ∧ z.1 ≤ p.length ∧ z.2.length ≤ 2048 ∧ Hid (unp p = unL p p.length z.1 z.2)}) (fun z => ⟨147, [(8, .s (.int .i64 z.1.1)), (5, .s (.int .i64 0)), (4, .sl true (.lin st.ln.length) (encB z.1.2)), (0, .sl o .none (encB p))]⟩) (fun z => ⟨st.bx, st.ln ++ [(z.1.2.length, 5, 1)]⟩) (fun z => p.length - z.1.1) ⟨(1, []), Nat.le_refl _, by show 1 ≤ p.length; omega, Nat.zero_le _, HU0⟩ (by go_simp; trivial) rfl ?_
  clear HU0 g0 h1 h2 hlt
  rintro ⟨⟨k, out⟩, hk1, hk, hol, HU⟩
  dsimp only at hk1 hk hol HU ⊢
  by_cases hlt : k < p.length
  · have i2 : decide ((k : Int) < (p.length : Int)) = true := by rw [decide_eq_true_eq]; omega
    rcases hg : get (p.drop k) with ⟨n, u, e⟩
    by_cases he : e = 0
    · subst he
      have ga := getAt_ok hg
      obtain ⟨u1, u2⟩ := get_used hg
      rw [List.length_drop] at u2
      have hn64 := (get_ok hg).2.2.2
      have cg := g_Get p k o .none
      rw [ga] at cg
      have CG := Lib.hid cg
      clear cg ga
      obtain ⟨m, hm1, hm2⟩ : ∃ m, 2 * m ≤ n ∧ n ≤ 2 * m + 1 := ⟨n / 2, by omega, by omega⟩
      obtain ⟨r, hr1, hr2⟩ : ∃ r, r + out.length ≤ 2048 ∧ 2048 ≤ r + out.length := ⟨2048 - out.length, by omega, by omega⟩
      have w2 : IntKind.u64.wrap ((n : Int) / 2) = (m : Int) := by rw [IntWalk.u64_in _ (by omega)]; omega
      have w3 : IntKind.i64.wrap (2048 - (out.length : Int)) = (r : Int) := by rw [IntWalk.i64_in _ (by omega)]; omega
      have w4 : IntKind.u64.wrap (r : Int) = (r : Int) := IntWalk.u64_in _ (by omega)
      have hm2' : ((n : Int).tmod 2) = ((n % 2 : Nat) : Int) := by rw [Int.tmod_eq_emod_of_nonneg (by omega)]; omega
      by_cases hn : n % 2 = 0
      · have i3 : ((n : Int).tmod 2 == 1) = false := by rw [hm2', hn]; rfl
        clear hm2'
        by_cases c1 : m = 0
        · have ht : tok p k out = (0, [], 5) := by unfold tok; rw [hg]; dsimp only; rw [if_neg (by simp), if_pos hn, if_pos (by omega)]
          have hq : Hid (unp p = ([], _)) := Lib.hid (HU.out.trans (unL_err hlt ht (by decide)))
          clear ht hg
          have i4 : ((m : Int) == 0) = true := by rw [beq_iff_eq]; omega
          go_simp
          refine (CG.out _).mono ?_
          rintro o2 st2 ⟨rfl, rfl⟩
          go_simp
          rw [hq.out]
          exact end_no
        have i4 : ((m : Int) == 0) = false := by rw [beq_eq_false_iff_ne]; omega
        by_cases c2 : r < m
        · have ht : tok p k out = (0, [], 2) := by unfold tok; rw [hg]; dsimp only; rw [if_neg (by simp), if_pos hn, if_neg (by omega), if_pos (by omega)]
          have hq : Hid (unp p = ([], _)) := Lib.hid (HU.out.trans (unL_err hlt ht (by decide)))
          clear ht hg
          have i5 : decide ((r : Int) < (m : Int)) = true := by rw [decide_eq_true_eq]; omega
          go_simp
          refine (CG.out _).mono ?_
          rintro o2 st2 ⟨rfl, rfl⟩
          go_simp
          rw [hq.out]
          exact end_no
        have i5 : decide ((r : Int) < (m : Int)) = false := by rw [decide_eq_false_iff_not]; omega
        obtain ⟨q, hq1, hq2⟩ : ∃ q, q + (k + u) ≤ p.length ∧ p.length ≤ q + (k + u) := ⟨p.length - (k + u), by omega, by omega⟩
        have w5 : IntKind.i64.wrap ((p.length : Int) - ((k : Int) + (u : Int))) = (q : Int) := by rw [IntWalk.i64_in _ (by omega)]; omega
        have w6 : IntKind.u64.wrap (q : Int) = (q : Int) := IntWalk.u64_in _ (by omega)
        by_cases c3 : q < m
        · have ht : tok p k out = (0, [], 30) := by unfold tok; rw [hg]; dsimp only; rw [if_neg (by simp), if_pos hn, if_neg (by omega), if_neg (by omega), if_pos (by omega)]
          have hq : Hid (unp p = ([], _)) := Lib.hid (HU.out.trans (unL_err hlt ht (by decide)))
          clear ht hg
          have i6 : decide ((q : Int) < (m : Int)) = true := by rw [decide_eq_true_eq]; omega
          go_simp
          refine (CG.out _).mono ?_
          rintro o2 st2 ⟨rfl, rfl⟩
          go_simp
          rw [hq.out]
          exact end_no
        have i6 : decide ((q : Int) < (m : Int)) = false := by rw [decide_eq_false_iff_not]; omega
        have ht : tok p k out = (k + u + m, out ++ (p.drop (k + u)).take m, 0) := by unfold tok; rw [hg]; dsimp only; rw [if_neg (by simp), if_pos hn, if_neg (by omega), if_neg (by omega), if_neg (by omega), show n / 2 = m by omega]
        have HN : Hid (unp p = unL p p.length (k + u + m) (out ++ (p.drop (k + u)).take m)) := Lib.hid (HU.out.trans (unL_next hlt ht))
        have w7 : IntKind.i64.wrap (m : Int) = (m : Int) := IntWalk.i64_in _ (by omega)
        have w8 : IntKind.i64.wrap ((k : Int) + (u : Int) + (m : Int)) = ((k + u + m : Nat) : Int) := by rw [IntWalk.i64_in _ (by omega)]; omega
        have hs : ((p.drop (k + u)).take m).length = m := by rw [List.length_take, List.length_drop]; omega
        clear ht hg
        obtain ⟨s, hsd⟩ : ∃ s, (p.drop (k + u)).take m = s := ⟨_, rfl⟩
        rw [hsd] at HN hs
        have HS := Lib.hid hsd
        clear hsd
        go_simp
        refine (CG.out _).mono ?_
        rintro o2 st2 ⟨rfl, rfl⟩
        go_simp
        refine slice_B (j := k + u) (m := m) (s := s) (by omega) (by omega) (by omega) HS.out ?_
        go_simp
        refine ⟨encB_lens _, aapp_bytes (m := s) rfl (by simp) (by omega) ?_⟩
        go_simp
        refine ⟨⟨(k + u + m, out ++ s), by show 1 ≤ k + u + m; omega, by show k + u + m ≤ p.length; omega, by show (out ++ s).length ≤ 2048; rw [List.length_append]; omega, HN⟩, by go_simp, ?_, by show p.length - (k + u + m) < p.length - k; omega, .same, by simp [InB_s, InB_lin, InB_bp, InB_none]⟩
        refine Eq.trans ?_ (Eq.symm (cut_len (by simp) (by simp)))
        simp [hs]
      · have i3 : ((n : Int).tmod 2 == 1) = true := by rw [hm2', show n % 2 = 1 by omega]; rfl
        clear hm2'
        by_cases c1 : m < 4
        · have ht : tok p k out = (0, [], 5) := by unfold tok; rw [hg]; dsimp only; rw [if_neg (by simp), if_neg hn, if_pos (by omega)]
          have hq : Hid (unp p = ([], _)) := Lib.hid (HU.out.trans (unL_err hlt ht (by decide)))
          clear ht hg
          have i4 : decide ((m : Int) < 4) = true := by rw [decide_eq_true_eq]; omega
          go_simp
          refine (CG.out _).mono ?_
          rintro o2 st2 ⟨rfl, rfl⟩
          go_simp
          rw [hq.out]
          exact end_no
        have i4 : decide ((m : Int) < 4) = false := by rw [decide_eq_false_iff_not]; omega
        by_cases c2 : 255 < m
        · have ht : tok p k out = (0, [], 5) := by unfold tok; rw [hg]; dsimp only; rw [if_neg (by simp), if_neg hn, if_pos (by omega)]
          have hq : Hid (unp p = ([], _)) := Lib.hid (HU.out.trans (unL_err hlt ht (by decide)))
          clear ht hg
          have i5 : decide ((255 : Int) < (m : Int)) = true := by rw [decide_eq_true_eq]; omega
          go_simp
          refine (CG.out _).mono ?_
          rintro o2 st2 ⟨rfl, rfl⟩
          go_simp
          rw [hq.out]
          exact end_no
        have i5 : decide ((255 : Int) < (m : Int)) = false := by rw [decide_eq_false_iff_not]; omega
        rcases hg2 : get (p.drop (k + u)) with ⟨d, v, f⟩
        by_cases hf : f = 0
        · subst hf
          have ga := getAt_ok hg2
          obtain ⟨v1, v2⟩ := get_used hg2
          rw [List.length_drop] at v2
          have hd64 := (get_ok hg2).2.2.2
          have cg := g_Get p ((k + u : Nat) : Int) o .none
          rw [ga] at cg
          simp only [Int.natCast_add] at cg
          have CG2 := Lib.hid cg
          clear cg ga
          have w9 : IntKind.u64.wrap (out.length : Int) = (out.length : Int) := IntWalk.u64_in _ (by omega)
          by_cases c3 : d < 1
          · have ht : tok p k out = (0, [], 5) := by unfold tok; rw [hg]; dsimp only; rw [if_neg (by simp), if_neg hn, if_neg (by omega), hg2]; dsimp only; rw [if_neg (by simp), if_pos (by omega)]
            have hq : Hid (unp p = ([], _)) := Lib.hid (HU.out.trans (unL_err hlt ht (by decide)))
            clear ht hg hg2
            have i6 : decide ((d : Int) < 1) = true := by rw [decide_eq_true_eq]; omega
            go_simp
            refine (CG.out _).mono ?_
            rintro o2 st2 ⟨rfl, rfl⟩
            go_simp
            refine (CG2.out _).mono ?_
            rintro o2 st2 ⟨rfl, rfl⟩
            go_simp
            rw [hq.out]
            exact end_no
          have i6 : decide ((d : Int) < 1) = false := by rw [decide_eq_false_iff_not]; omega
          by_cases c4 : 1024 < d
          · have ht : tok p k out = (0, [], 5) := by unfold tok; rw [hg]; dsimp only; rw [if_neg (by simp), if_neg hn, if_neg (by omega), hg2]; dsimp only; rw [if_neg (by simp), if_pos (by omega)]
            have hq : Hid (unp p = ([], _)) := Lib.hid (HU.out.trans (unL_err hlt ht (by decide)))
            clear ht hg hg2
            have i7 : decide ((1024 : Int) < (d : Int)) = true := by rw [decide_eq_true_eq]; omega
            go_simp
            refine (CG.out _).mono ?_
            rintro o2 st2 ⟨rfl, rfl⟩
            go_simp
            refine (CG2.out _).mono ?_
            rintro o2 st2 ⟨rfl, rfl⟩
            go_simp
            rw [hq.out]
            exact end_no
          have i7 : decide ((1024 : Int) < (d : Int)) = false := by rw [decide_eq_false_iff_not]; omega
          by_cases c5 : out.length < d
          · have ht : tok p k out = (0, [], 5) := by unfold tok; rw [hg]; dsimp only; rw [if_neg (by simp), if_neg hn, if_neg (by omega), hg2]; dsimp only; rw [if_neg (by simp), if_pos (by omega)]
            have hq : Hid (unp p = ([], _)) := Lib.hid (HU.out.trans (unL_err hlt ht (by decide)))
            clear ht hg hg2
            have i8 : decide ((out.length : Int) < (d : Int)) = true := by rw [decide_eq_true_eq]; omega
            go_simp
            refine (CG.out _).mono ?_
            rintro o2 st2 ⟨rfl, rfl⟩
            go_simp
            refine (CG2.out _).mono ?_
            rintro o2 st2 ⟨rfl, rfl⟩
            go_simp
            rw [hq.out]
            exact end_no
          have i8 : decide ((out.length : Int) < (d : Int)) = false := by rw [decide_eq_false_iff_not]; omega
          by_cases c6 : r < m
          · have ht : tok p k out = (0, [], 2) := by unfold tok; rw [hg]; dsimp only; rw [if_neg (by simp), if_neg hn, if_neg (by omega), hg2]; dsimp only; rw [if_neg (by simp), if_neg (by omega), if_pos (by omega)]
            have hq : Hid (unp p = ([], _)) := Lib.hid (HU.out.trans (unL_err hlt ht (by decide)))
            clear ht hg hg2
            have i9 : decide ((r : Int) < (m : Int)) = true := by rw [decide_eq_true_eq]; omega
            go_simp
            refine (CG.out _).mono ?_
            rintro o2 st2 ⟨rfl, rfl⟩
            go_simp
            refine (CG2.out _).mono ?_
            rintro o2 st2 ⟨rfl, rfl⟩
            go_simp
            rw [hq.out]
            exact end_no
          have i9 : decide ((r : Int) < (m : Int)) = false := by rw [decide_eq_false_iff_not]; omega
          have ht : tok p k out = (k + u + v, rep out d m, 0) := by unfold tok; rw [hg]; dsimp only; rw [if_neg (by simp), if_neg hn, if_neg (by omega), hg2]; dsimp only; rw [if_neg (by simp), if_neg (by omega), if_neg (by omega), show n / 2 = m by omega]
          have HN : Hid (unp p = unL p p.length (k + u + v) (rep out d m)) := Lib.hid (HU.out.trans (unL_next hlt ht))
          have wd : IntKind.i64.wrap (d : Int) = (d : Int) := IntWalk.i64_in _ (by omega)
          clear ht hg hg2
          go_simp
          refine (CG.out _).mono ?_
          rintro o2 st2 ⟨rfl, rfl⟩
          go_simp
          refine (CG2.out _).mono ?_
          rintro o2 st2 ⟨rfl, rfl⟩
          go_simp
          refine loop_cut (σ := {j : Nat // j ≤ m}) (fun z => ⟨147, [(129, .s (.int .u64 z.1)), (128, .s (.int .u64 m)), (8, .s (.int .i64 ((k : Int) + u + v))), (7, .s (.int .u64 d)), (5, .s (.int .i64 0)), (4, .sl true (.lin st.ln.length) (encB (rep out d z.1))), (0, .sl o .none (encB p))]⟩) (fun z => ⟨st.bx, st.ln ++ [((rep out d z.1).length, 5, 1)]⟩) (fun z => m - z.1) ⟨0, Nat.zero_le _⟩ (by go_simp; trivial) rfl ?_
          rintro ⟨j, hj⟩
          dsimp only at hj ⊢
          have hrl := rep_len d j out
          by_cases hjm : j < m
          · have j1 : decide ((j : Int) < (m : Int)) = true := by rw [decide_eq_true_eq]; omega
            obtain ⟨ix, hx1, hx2⟩ : ∃ ix, ix + d ≤ out.length + j ∧ out.length + j ≤ ix + d := ⟨out.length + j - d, by omega, by omega⟩
            have j2 : IntKind.i64.wrap ((out.length : Int) + (j : Int) - (d : Int)) = (ix : Int) := by rw [IntWalk.i64_in _ (by omega)]; omega
            have j3 : IntKind.u64.wrap ((j : Int) + 1) = (j : Int) + 1 := IntWalk.u64_in _ (by omega)
            have j4 := encB_at? (rep out d j) ix (by omega)
            have hrs := rep_succ d j out
            rw [show (rep out d j).length - d = ix by omega] at hrs
            obtain ⟨x, hx⟩ : ∃ x, x = (rep out d j).getD ix 0 := ⟨_, rfl⟩
            rw [← hx] at j4 hrs
            have HRS := Lib.hid hrs
            clear hrs hx
            obtain ⟨R, hR⟩ : ∃ R, R = rep out d j := ⟨_, rfl⟩
            rw [← hR] at j4 HRS hrl ⊢
            clear hR
            go_simp
            refine aapp_bytes (m := [x]) rfl (by simp [hrl]) (by show _ + 1 ≤ _; omega) ?_
            go_simp
            refine ⟨⟨j + 1, by omega⟩, by go_simp; rw [HRS.out], ?_, by show m - (j + 1) < m - j; omega, .same, by simp [InB_s, InB_lin, InB_bp, InB_none]⟩
            refine Eq.trans ?_ (Eq.symm (cut_len (by first | rfl | simp) (by first | rfl | simp)))
            simp [rep_len]
            first | done | omega
          · have j1 : decide ((j : Int) < (m : Int)) = false := by rw [decide_eq_false_iff_not]; omega
            obtain rfl : j = m := by omega
            go_simp
            refine ⟨⟨(k + u + v, rep out d j), by show 1 ≤ k + u + v; omega, by show k + u + v ≤ p.length; omega, by show (rep out d j).length ≤ 2048; omega, HN⟩, by go_simp, ?_, by show p.length - (k + u + v) < p.length - k; omega, .same, by simp [InB_s, InB_lin, InB_bp, InB_none]⟩
            refine Eq.trans ?_ (Eq.symm (cut_len (by first | rfl | simp) (by first | rfl | simp)))
            first | rfl | simp [rep_len]
        · have hz := getR_err (p.drop (k + u)) 0 (by show (get (p.drop (k + u))).2.2 ≠ 0; rw [hg2]; exact hf)
          have hz2 : d = 0 ∧ v = 0 := by
            have : getR 0 (p.drop (k + u)) = (d, v, f) := hg2
            rw [this] at hz
            exact hz
          obtain ⟨rfl, rfl⟩ := hz2
          have ga := getAt_err hg2 hf
          have cg := g_Get p ((k + u : Nat) : Int) o .none
          rw [ga] at cg
          simp only [Int.natCast_add] at cg
          have CG2 := Lib.hid cg
          clear cg ga hz
          have ht : tok p k out = (0, [], f) := by unfold tok; rw [hg]; dsimp only; rw [if_neg (by simp), if_neg hn, if_neg (by omega), hg2]; dsimp only; rw [if_pos hf]
          have hq : Hid (unp p = ([], f)) := Lib.hid (HU.out.trans (unL_err hlt ht hf))
          have i6 : (f != 0) = true := by rw [bne_iff_ne]; exact hf
          clear ht hg hg2
          go_simp
          refine (CG.out _).mono ?_
          rintro o2 st2 ⟨rfl, rfl⟩
          go_simp
          refine (CG2.out _).mono ?_
          rintro o2 st2 ⟨rfl, rfl⟩
          go_simp
          rw [hq.out]
          exact end_no
    · have hz := getR_err (p.drop k) 0 (by show (get (p.drop k)).2.2 ≠ 0; rw [hg]; exact he)
      have hz2 : n = 0 ∧ u = 0 := by
        have : getR 0 (p.drop k) = (n, u, e) := hg
        rw [this] at hz
        exact hz
      obtain ⟨rfl, rfl⟩ := hz2
      have ga := getAt_err hg he
      have cg := g_Get p k o .none
      rw [ga] at cg
      have CG := Lib.hid cg
      clear cg ga hz
      have ht : tok p k out = (0, [], e) := by unfold tok; rw [hg]; dsimp only; rw [if_pos he]
      have hq : Hid (unp p = ([], e)) := Lib.hid (HU.out.trans (unL_err hlt ht he))
      have i3 : (e != 0) = true := by rw [bne_iff_ne]; exact he
      clear ht hg
      go_simp
      refine (CG.out _).mono ?_
      rintro o2 st2 ⟨rfl, rfl⟩
      go_simp
      rw [hq.out]
      exact end_no
  · have i2 : decide ((k : Int) < (p.length : Int)) = false := by rw [decide_eq_false_iff_not]; omega
    have hq : Hid (unp p = (out, 0)) := Lib.hid (HU.out.trans (unL_stop hlt))
    go_simp
    rw [hq.out]
    exact end_yes
end Go.Proofs.Ytilpiclmdmnlkaa
