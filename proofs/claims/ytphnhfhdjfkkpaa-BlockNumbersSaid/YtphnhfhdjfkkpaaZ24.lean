/- Merged: ALs10, ALs102, OpenGen, AOp10. -/
import Derived.Test.YtphnhfhdjfkkpaaZ23
import Derived.ProofKit
import Derived.OpenShut
import Derived.SizedLaws
import Derived.Laws.Cover2
/- Laws of layer 10: same, live. -/
set_option linter.unusedVariables false
set_option linter.unusedSimpArgs false
namespace Go.Proofs.Ytphnhfhdjfkkpaa
open Go.RowKit
attribute [local go_sem] normK_app aopsK_app atSt_app ofK_app stK_app extK_val panicK_app thenA_normal thenA_exit thenA_ret thenA_panic blockK_normal blockK_exit blockK_ret blockK_panic callK_ret callK_panic awp_skip awp_region awp_draw awp_seq awp_cond acond_true acond_false dstAt_zero dstAt_succ guardV_some aops_guard_eq aguard_true aguard_true' aguard_false aguard_false' aguard_und ogF_und ogS_und ord_guard ogF_tt ogF_ft ogF_tf ogF_ff ogS_tt ogS_ff ogS_ft ogS_tf awp_block awp_loop awp_exit awp_ret awp_label awp_scope aops_nil aops_plain exec_move exec_assign exec_pick exec_alloc pick_true pick_false free_pick fpick_true fpick_false exec_box exec_build exec_buildSlice exec_load exec_store exec_nilCheck exec_binOp abinK_some exec_unOp aunK_some exec_convert conv_s exec_makeInterface exec_makeFunc exec_slice exec_fieldAddr exec_field exec_indexAddr exec_index exec_extract exec_call exec_panic call_value call_builtin alitsK_some acallB_true acallB_false callF_fn bi_len eval_tmp eval_const eval_func look_cons look_nil put_some put_none ofV_int ofV_bool ofV_float ofV_string ofV_slice ofV_ptr ofV_map ofV_agg ofV_tup lit_s box_eq box_var get_here get_here0 set_here set_here0 number_nil number_cons retK_ret retK_normal retK_panic ends1 ends2 ends3 ends0 retOne_app endsC TRun AV.lits AV.lit0 aordF_app aordS_not aordS_late ord_nil ord_free ord_solo freeK_app free_move free_assign free_build free_buildSlice free_load free_nilCheck free_binOp free_unOp free_convert free_makeInterface free_makeFunc free_slice free_fieldAddr free_field free_indexAddr free_index free_extract free_len free_call freeF_fn agives_false roundK_normal roundK_exit roundK_ret roundK_panic roundC_normal roundC_exit roundC_ret roundC_panic sub_nil sub_cons aalloc abox aiface afield aindex aextract alen abuild abuildSlice afill afillS splice Tag.calm oneV AV.forget AV.forget1 one_any dat0_any known_any cells_any forget0_any one_s dat0_s known_s cells_s forget0_s one_agg dat0_agg known_agg cells_agg forget0_agg one_tup dat0_tup known_tup cells_tup forget0_tup one_bp dat0_bp known_bp cells_bp forget0_bp one_rp dat0_rp known_rp cells_rp forget0_rp one_sl dat0_sl known_sl cells_sl forget0_sl one_fn dat0_fn known_fn cells_fn forget0_fn one_ifc dat0_ifc known_ifc cells_ifc forget0_ifc okCells_nil okCells_cons load_rpA load_rp1 loadB_some load_bpA load1_some at1_some load_bp1 storeB_some store_bp fieldAddr_bp fieldAddr_rp idxE_some index_sl index_arr nil_bp nil_rp nil_fn bi_append appB_sl appB_str aappend one_mp dat0_mp known_mp cells_mp forget0_mp exec_makeMap exec_lookup exec_mapUpdate withOk_true withOk_false exec_mapEntry exec_entryStore exec_arrAt exec_makeSlice arrAt_sl ty2 ty3 ty4 ty5 ty6 ty7 ty8 ty9 ty10 ty11 ty12 ty13 ty14 ty15 ty16 ty17 ty18 ty19 ty20 ty21 ty22 ty23 ty31 ty32 ty33 ty35 ty37 ty38 ty41 ty53 ty56 ty57 ty62 ty63 ty64 ty66 ty67 ty68 ty69 ty70 ty71 hb0 hb1 hb2 hb3 hb4 hb5 hb6 hb7 hb8 hb9 hb10 hb11 hb12 hb13 hb14 hb15 hb16 hb17 hb18 hb19 hb20 hb21 hb22 hb23 hb24 hb25 hb26 hb27 hb28 hb29 hb30 hb31 hb32 hb33 hb34 hb35 hb36 hb37 hb38 hb39 hb40 hb41 hb42 hb43 hb44
attribute [local go_sem] encB_len
set_option maxRecDepth 20000
theorem s_bool10 {b c : Bool} (h : b = c) : AV.forget (.s (.bool b)) = .s (.bool c) := by subst h; rfl
theorem encB_at10 {l : List UInt8} {k : Nat} {b : UInt8} (h : l[k]? = some b) : ∀ h', (encB l)[k]'h' = [.s (.int .u8 (b.toNat : Int))] := fun h' => by
  obtain ⟨hl, rfl⟩ := List.getElem?_eq_some_iff.1 h
  simp [encB]
set_option maxHeartbeats 1000000 in
theorem g_same10 (a b : List UInt8) (oa ob : Bool) : Gives Try.prog 12 [.sl oa .none (encB a), .sl ob .none (encB b)] (.s (.bool (decide (a = b)))) := by
  intro st
  refine bound_sl 0 rfl fun hb => ?_
  rw [encB_len] at hb
  refine enter Try.func12 rfl Try.ntmps12 Try.results12 (by simp) ?_
  go_simp
  refine part (fun h => ?_) (fun h => ?_) <;> go_simp
  · refine end_pure0 (s_bool10 ?_) (.s _)
    symm
    rw [decide_eq_false_iff_not]
    rintro rfl
    simp at h
  have hlen : a.length = b.length := by simp at h; omega
  have HL := Lib.hid hlen
  clear h hlen
  refine loop_cut (σ := {k : Nat // k ≤ a.length ∧ a.take k = b.take k})
    (fun s => ⟨26, [(5, .s (.int .i64 s.1)), (1, .sl ob .none (encB b)), (0, .sl oa .none (encB a))]⟩) (fun _ => st) (fun s => a.length - s.1) ⟨0, Nat.zero_le _, rfl⟩ (by go_simp) rfl ?_
  rintro ⟨k, hk, HE⟩
  have HE := Lib.hid HE
  simp only []
  by_cases hlt : k < a.length
  · have i1 : decide ((k : Int) < (a.length : Int)) = true := by simpa using hlt
    have hkb : k < b.length := by have := HL.out; omega
    have hx : a[k]? = some a[k] := List.getElem?_eq_getElem hlt
    have hy : b[k]? = some b[k] := List.getElem?_eq_getElem _
    obtain ⟨x, hxe⟩ : ∃ x, x = a[k] := ⟨_, rfl⟩
    obtain ⟨y, hye⟩ : ∃ y, y = b[k] := ⟨_, rfl⟩
    rw [← hxe] at hx
    rw [← hye] at hy
    clear hxe hye
    have hw : IntKind.i64.wrap ((k : Int) + 1) = (k : Int) + 1 := IntWalk.i64_in _ (by omega)
    have gx := encB_at10 hx
    have gy := encB_at10 hy
    have HX := Lib.hid hx
    have HY := Lib.hid hy
    clear hx hy
    go_simp
    refine draw [(true, false), (true, false), (true, false), (true, false), (true, false), (false, false), (false, false), (false, false), (false, false)] (by kernel_rfl) (by kernel_rfl) ?_
    go_simp
    refine part (fun h => ?_) (fun h => ?_) <;> go_simp
    · refine end_pure0 (s_bool10 ?_) (.s _)
      symm
      rw [decide_eq_false_iff_not]
      rintro rfl
      have e1 := HX.out
      rw [HY.out] at e1
      obtain rfl := Option.some.inj e1
      simp at h
    · have hxy : x = y := UInt8.toNat_inj.1 (by simp at h; omega)
      refine ⟨⟨k + 1, by omega, ?_⟩, by go_simp, cut_same.symm, by show a.length - (k + 1) < a.length - k; omega, .same, by simp [InB_s, InB_none]⟩
      rw [List.take_add_one, List.take_add_one, HE.out, HX.out, HY.out, hxy]
  · have i1 : decide ((k : Int) < (a.length : Int)) = false := by simpa using hlt
    go_simp
    refine end_pure0 (s_bool10 ?_) (.s _)
    symm
    rw [decide_eq_true_eq]
    have h1 := HE.out
    rwa [List.take_of_length_le (by omega), List.take_of_length_le (by have := HL.out; omega)] at h1
/-- What no box and no row is asked of is answered in every store. -/
theorem Gives.of_empty {P : Program} {f : FuncId} {c : Value} (hc : oneV c = true) (h : DoesCall P f [] ⟨[], []⟩ fun o st' => o = .ret (.s c)) : Gives P f [] (.s c) := fun st => .of_kept fun g w vs hi ha => by
  cases ha
  have hi0 : Inv ⟨g.K, [], [], ⟨w, 0, fun _ => none⟩⟩ ⟨[], []⟩ w :=
    ⟨hi.K, rfl, fun i b cs h => by simp at h, fun b h => by simp at h, List.nodup_nil, rfl, fun i L h => by simp at h, fun i j L L' a a' h => by simp at h, ⟨⟨Kept.refl _, Nat.zero_le _⟩, fun b o h => by cases h⟩, hi.ok.kept hi.kept.1.1⟩
  refine (h _ w [] hi0 .nil).mono ?_
  rintro e w' ⟨g', o, st', h1, h2, h3, rfl⟩
  have hk := h2.kept
  rw [h1.w0] at hk
  cases h3 with
  | ret _ x hx =>
    cases hx
    exact ⟨_, .ret _ _ (.s c hc), ⟨rfl, rfl⟩, hk.1.1⟩
theorem conv_mark {P : Program} {s e bs s1 s3 sz : Nat} {a1 a3 : Bool} {z1 z3 : AV} {tag : Tag} {es : List (List AV)} {K : AV → Prop} (h1 : tyOf P s = some ⟨s1, a1, z1, .slice e sz bs⟩) (h3 : tyOf P e = some ⟨s3, a3, z3, .int .u8⟩)
    (hne : es.flatten ≠ []) (h : K (.sl true .none es)) : aconv P s s (.sl true tag es) [] K := by
  simp only [aconv, h1, h3]
  exact ⟨trivial, trivial, trivial, hne, h⟩
set_option maxHeartbeats 4000000 in
theorem g_live10 : Gives Try.prog 10 [] (.s (.bool true)) := by
  refine .of_empty rfl ?_
  have c1 := g_Unpack [1, 2, 97, 11, 1] true
  have c2 := g_Unpack [2] true
  have c3 := g_Pack [97, 98, 99] true
  have c4 := g_Unpack (pack [97, 98, 99]).1 true
  rw [show unp [1, 2, 97, 11, 1] = ([97, 97, 97, 97, 97, 97], 0) by kernel_rfl] at c1
  rw [show unp [2] = ([], 5) by kernel_rfl] at c2
  rw [(pack_back (b := [97, 98, 99]) (by decide)).2.1] at c4
  have hp1 := (pack_back (b := [97, 98, 99]) (by decide)).1
  have hp2 := (pack_back (b := [97, 98, 99]) (by decide)).2.2
  have c5 := (g_same10 [97, 97, 97, 97, 97, 97] [97, 97, 97, 97, 97, 97] true true)
  have c6 := (g_same10 [97, 98, 99] [97, 98, 99] true true)
  rw [show decide (([97, 97, 97, 97, 97, 97] : List UInt8) = [97, 97, 97, 97, 97, 97]) = true by decide] at c5
  rw [show decide (([97, 98, 99] : List UInt8) = [97, 98, 99]) = true by decide] at c6
  unfold tupB at c1 c2 c3 c4
  dsimp only at c1 c2 c3 c4
  generalize pack [97, 98, 99] = q at *
  obtain ⟨q1, q2⟩ := q
  dsimp only at hp1 hp2 c3 c4
  subst hp1
  have hp3 : decide ((q1.length : Int) ≤ 4) = true := by rw [decide_eq_true_eq]; simp at hp2; omega
  have w1 : Wk (.sl true .full [[.s (.int .u8 1)], [.s (.int .u8 2)], [.s (.int .u8 97)], [.s (.int .u8 11)], [.s (.int .u8 1)]]) (.sl true .none (encB [1, 2, 97, 11, 1])) := fun g x h => forget0_sim h
  have w2 : Wk (.sl true .full [[.s (.int .u8 2)]]) (.sl true .none (encB [2])) := fun g x h => forget0_sim h
  have C1 := Lib.hid (c1.weak (args := [_]) ⟨w1, trivial⟩)
  have C2 := Lib.hid (c2.weak (args := [_]) ⟨w2, trivial⟩)
  have C3 := Lib.hid c3
  have C4 := Lib.hid c4
  have C5 := Lib.hid c5
  have C6 := Lib.hid c6
  clear c1 c2 c3 c4 c5 c6 w1 w2 hp2
  have e1 : [[AV.s (.int .u8 97)], [AV.s (.int .u8 98)], [AV.s (.int .u8 99)]] = encB [97, 98, 99] := rfl
  have e2 : [[AV.s (.int .u8 97)], [AV.s (.int .u8 97)], [AV.s (.int .u8 97)], [AV.s (.int .u8 97)], [AV.s (.int .u8 97)], [AV.s (.int .u8 97)]] = encB [97, 97, 97, 97, 97, 97] := rfl
  have E1 := Lib.hid e1
  have E2 := Lib.hid e2
  clear e1 e2
  refine enter Try.func10 rfl Try.ntmps10 Try.results10 (by simp) ?_
  go_simp
  refine (C1.out _).mono ?_
  rintro o2 st2 ⟨rfl, rfl⟩
  go_simp
  refine (C2.out _).mono ?_
  rintro o2 st2 ⟨rfl, rfl⟩
  go_simp
  refine conv_mark ty22 ty5 (by simp) ?_
  rw [E1.out]
  go_simp
  refine (C3.out _).mono ?_
  rintro o2 st2 ⟨rfl, rfl⟩
  go_simp
  refine (C4.out _).mono ?_
  rintro o2 st2 ⟨rfl, rfl⟩
  go_simp
  refine conv_mark ty22 ty5 (by simp) ?_
  rw [E2.out]
  go_simp
  refine (C5.out _).mono ?_
  rintro o2 st2 ⟨rfl, rfl⟩
  go_simp
  refine conv_mark ty22 ty5 (by simp) ?_
  rw [E1.out]
  go_simp
  refine (C6.out _).mono ?_
  rintro o2 st2 ⟨rfl, rfl⟩
  go_simp
  exact .asis rfl
end Go.Proofs.Ytphnhfhdjfkkpaa
/- Laws of layer 10: numbers, packs, back. -/
set_option linter.unusedVariables false
set_option linter.unusedSimpArgs false
namespace Go.Proofs.Ytphnhfhdjfkkpaa
open Go.RowKit
attribute [local go_sem] normK_app aopsK_app atSt_app ofK_app stK_app extK_val panicK_app thenA_normal thenA_exit thenA_ret thenA_panic blockK_normal blockK_exit blockK_ret blockK_panic callK_ret callK_panic awp_skip awp_region awp_draw awp_seq awp_cond acond_true acond_false dstAt_zero dstAt_succ guardV_some aops_guard_eq aguard_true aguard_true' aguard_false aguard_false' aguard_und ogF_und ogS_und ord_guard ogF_tt ogF_ft ogF_tf ogF_ff ogS_tt ogS_ff ogS_ft ogS_tf awp_block awp_loop awp_exit awp_ret awp_label awp_scope aops_nil aops_plain exec_move exec_assign exec_pick exec_alloc pick_true pick_false free_pick fpick_true fpick_false exec_box exec_build exec_buildSlice exec_load exec_store exec_nilCheck exec_binOp abinK_some exec_unOp aunK_some exec_convert conv_s exec_makeInterface exec_makeFunc exec_slice exec_fieldAddr exec_field exec_indexAddr exec_index exec_extract exec_call exec_panic call_value call_builtin alitsK_some acallB_true acallB_false callF_fn bi_len eval_tmp eval_const eval_func look_cons look_nil put_some put_none ofV_int ofV_bool ofV_float ofV_string ofV_slice ofV_ptr ofV_map ofV_agg ofV_tup lit_s box_eq box_var get_here get_here0 set_here set_here0 number_nil number_cons retK_ret retK_normal retK_panic ends1 ends2 ends3 ends0 retOne_app endsC TRun AV.lits AV.lit0 aordF_app aordS_not aordS_late ord_nil ord_free ord_solo freeK_app free_move free_assign free_build free_buildSlice free_load free_nilCheck free_binOp free_unOp free_convert free_makeInterface free_makeFunc free_slice free_fieldAddr free_field free_indexAddr free_index free_extract free_len free_call freeF_fn agives_false roundK_normal roundK_exit roundK_ret roundK_panic roundC_normal roundC_exit roundC_ret roundC_panic sub_nil sub_cons aalloc abox aiface afield aindex aextract alen abuild abuildSlice afill afillS splice Tag.calm oneV AV.forget AV.forget1 one_any dat0_any known_any cells_any forget0_any one_s dat0_s known_s cells_s forget0_s one_agg dat0_agg known_agg cells_agg forget0_agg one_tup dat0_tup known_tup cells_tup forget0_tup one_bp dat0_bp known_bp cells_bp forget0_bp one_rp dat0_rp known_rp cells_rp forget0_rp one_sl dat0_sl known_sl cells_sl forget0_sl one_fn dat0_fn known_fn cells_fn forget0_fn one_ifc dat0_ifc known_ifc cells_ifc forget0_ifc okCells_nil okCells_cons load_rpA load_rp1 loadB_some load_bpA load1_some at1_some load_bp1 storeB_some store_bp fieldAddr_bp fieldAddr_rp idxE_some index_sl index_arr nil_bp nil_rp nil_fn bi_append appB_sl appB_str aappend one_mp dat0_mp known_mp cells_mp forget0_mp exec_makeMap exec_lookup exec_mapUpdate withOk_true withOk_false exec_mapEntry exec_entryStore exec_arrAt exec_makeSlice arrAt_sl ty2 ty3 ty4 ty5 ty6 ty7 ty8 ty9 ty10 ty11 ty12 ty13 ty14 ty15 ty16 ty17 ty18 ty19 ty20 ty21 ty22 ty23 ty31 ty32 ty33 ty35 ty37 ty38 ty41 ty53 ty56 ty57 ty62 ty63 ty64 ty66 ty67 ty68 ty69 ty70 ty71 hb0 hb1 hb2 hb3 hb4 hb5 hb6 hb7 hb8 hb9 hb10 hb11 hb12 hb13 hb14 hb15 hb16 hb17 hb18 hb19 hb20 hb21 hb22 hb23 hb24 hb25 hb26 hb27 hb28 hb29 hb30 hb31 hb32 hb33 hb34 hb35 hb36 hb37 hb38 hb39 hb40 hb41 hb42 hb43 hb44
attribute [local go_sem] encB_len
set_option maxRecDepth 20000
theorem zeros (n : Nat) : List.replicate n [AV.s (.int .u8 0)] = encB (List.replicate n 0) := by
  unfold encB
  rw [List.map_replicate]
  rfl
/-- make([]byte, n). -/
theorem mk_bytes {n : Nat} {k1 k2 : IntKind} {K : AV → Prop} (hn : n ≤ 65536) (h : K (.sl true .full (encB (List.replicate n 0)))) : amakeSlice Try.prog 22 (.s (.int k1 (n : Int))) (.s (.int k2 (n : Int))) K := by
  simp only [amakeSlice, ty22, ty5]
  refine ⟨rfl, rfl, rfl, by decide, by omega, trivial, by omega, by omega, ?_⟩
  rw [Int.toNat_natCast]
  have e : AV.cells (.s (.int .u8 0)) = [.s (.int .u8 0)] := rfl
  rw [e, zeros]
  exact h
set_option maxHeartbeats 4000000 in
theorem l_BlockNumbers : Gives Try.prog 3 [] (.s (.bool true)) := by
  intro st
  have hr : (List.replicate 2048 (0 : UInt8)).length = 2048 := List.length_replicate
  have hr2 : (List.replicate 2049 (0 : UInt8)).length = 2049 := List.length_replicate
  have hper : Per (List.replicate 2048 (0 : UInt8)) 1 := fun i h1 h2 => by
    rw [hr] at h2
    rw [List.getElem?_replicate, List.getElem?_replicate, if_pos h2, if_pos (by omega)]
  have hsh := pack_short hper (Nat.le_refl _) (by decide) (by rw [hr]; decide) (by rw [hr]; decide)
  rw [hr] at hsh
  have hbk := pack_back (b := List.replicate 2048 (0 : UInt8)) (by rw [hr]; decide)
  have hlg := pack_long (b := List.replicate 2049 (0 : UInt8)) (by rw [hr2]; decide)
  have c1 := (g_Pack (List.replicate 2048 0) true).weak (args := [.sl true .full (encB (List.replicate 2048 0))]) ⟨fun g x h => forget0_sim h, trivial⟩
  have c2 := (g_Pack (List.replicate 2049 0) true).weak (args := [.sl true .full (encB (List.replicate 2049 0))]) ⟨fun g x h => forget0_sim h, trivial⟩
  rw [hlg] at c2
  have hb1 := hbk.1
  generalize pack (List.replicate 2048 (0 : UInt8)) = q at *
  obtain ⟨q1, q2⟩ := q
  dsimp only at hb1 hsh
  subst hb1
  have j1 : decide ((q1.length : Int) ≤ 80) = true := by rw [decide_eq_true_eq]; omega
  unfold tupB at c1 c2
  dsimp only at c1 c2
  have C1 := Lib.hid c1
  have C2 := Lib.hid c2
  have C3 := Lib.hid g_live10
  clear c1 c2 hbk hsh hper hlg hr hr2
  refine enter Try.func3 rfl Try.ntmps3 Try.results3 (by simp) ?_
  go_simp
  refine mk_bytes (n := 2048) (by decide) ?_
  generalize encB (List.replicate 2048 0) = Z1 at *
  go_simp
  refine (C1.out _).mono ?_
  rintro o2 st2 ⟨rfl, rfl⟩
  go_simp
  refine mk_bytes (n := 2049) (by decide) ?_
  generalize encB (List.replicate 2049 0) = Z2 at *
  go_simp
  refine (C2.out _).mono ?_
  rintro o2 st2 ⟨rfl, rfl⟩
  go_simp
  refine (C3.out _).mono ?_
  rintro o2 st2 ⟨rfl, rfl⟩
  go_simp
  exact end_pure0 rfl (.s _)
set_option maxHeartbeats 4000000 in
theorem l_BlockPacks (b : List UInt8) : Gives Try.prog 4 [.sl false .none (encB b)] (.s (.bool true)) := by
  intro st
  refine bound_sl 0 rfl fun hb => ?_
  rw [encB_len] at hb
  have c1 := g_Pack b false
  have c2 := (g_Pack b true).weak (args := [.sl true (.lin st.ln.length) (encB b)]) ⟨fun g x h => forget0_sim h, trivial⟩
  have c3 := g_rUnpack (pack b).1 true
  have c4 := (g_same10 b b true true).weak (args := [.sl true .none (encB b), .sl true (.lin st.ln.length) (encB b)]) ⟨.refl _, fun g x h => forget0_sim h, trivial⟩
  have c5 := (g_same10 b b false true).weak (args := [.sl false .none (encB b), .sl true (.lin st.ln.length) (encB b)]) ⟨.refl _, fun g x h => forget0_sim h, trivial⟩
  have c6 := g_same10 (pack b).1 (pack b).1 true true
  rw [decide_eq_true rfl] at c4 c5 c6
  have C4 := Lib.hid c4
  have C5 := Lib.hid c5
  have C7 := Lib.hid g_live10
  clear c4 c5
  have app : ∀ {K : AV → AS → Prop}, K (.sl true (.lin st.ln.length) (encB b)) ⟨st.bx, st.ln ++ [(b.length, 5, 1)]⟩ → aapp 5 1 1 (.sl true .full []) (encB b) st K := fun {K} h => by
    refine ⟨by rw [encB_len]; simp; omega, (fun x hx => by cases hx), .inl ⟨.inl rfl, ?_⟩⟩
    rw [List.nil_append, encB_len]
    exact h
  by_cases hl : 2048 < b.length
  · rw [pack_long hl] at c1 c2
    unfold tupB at c1 c2
    dsimp only at c1 c2
    have C1 := Lib.hid c1
    have C2 := Lib.hid c2
    clear c1 c2 c3 c6
    have j1 : decide ((2048 : Int) < (b.length : Int)) = true := by rw [decide_eq_true_eq]; omega
    refine enter Try.func4 rfl Try.ntmps4 Try.results4 (by simp) ?_
    go_simp
    refine ⟨encB_lens _, app ?_⟩
    go_simp
    refine (C1.out _).mono ?_
    rintro o2 st2 ⟨rfl, rfl⟩
    go_simp
    refine (C2.out _).mono ?_
    rintro o2 st2 ⟨rfl, rfl⟩
    go_simp
    refine (C7.out _).mono ?_
    rintro o2 st2 ⟨rfl, rfl⟩
    go_simp
    have h := end_pure (st := st) (v := .s (.bool true)) (r := .s (.bool true)) (l := []) (k := [(b.length, 5, 1)]) rfl (.s _)
    simpa using h
  · obtain ⟨h1, h2, h3⟩ := pack_back (b := b) (by omega)
    rw [h2] at c3
    generalize pack b = q at *
    obtain ⟨q1, q2⟩ := q
    dsimp only at h1 h3 c3 c6
    subst h1
    unfold tupB at c1 c2 c3
    dsimp only at c1 c2 c3
    have C1 := Lib.hid c1
    have C2 := Lib.hid c2
    have C3 := Lib.hid c3
    have C6 := Lib.hid c6
    clear c1 c2 c3 c6 h2
    have w1 : IntKind.i64.wrap ((b.length : Int) + 1) = (b.length : Int) + 1 := IntWalk.i64_in _ (by omega)
    have j1 : decide ((2048 : Int) < (b.length : Int)) = false := by rw [decide_eq_false_iff_not]; omega
    have j2 : decide ((q1.length : Int) ≤ (b.length : Int) + 1) = true := by rw [decide_eq_true_eq]; omega
    refine enter Try.func4 rfl Try.ntmps4 Try.results4 (by simp) ?_
    go_simp
    refine ⟨encB_lens _, app ?_⟩
    go_simp
    refine (C1.out _).mono ?_
    rintro o2 st2 ⟨rfl, rfl⟩
    go_simp
    refine (C2.out _).mono ?_
    rintro o2 st2 ⟨rfl, rfl⟩
    go_simp
    refine (C3.out _).mono ?_
    rintro o2 st2 ⟨rfl, rfl⟩
    go_simp
    refine (C7.out _).mono ?_
    rintro o2 st2 ⟨rfl, rfl⟩
    go_simp
    refine (C4.out _).mono ?_
    rintro o2 st2 ⟨rfl, rfl⟩
    go_simp
    refine (C5.out _).mono ?_
    rintro o2 st2 ⟨rfl, rfl⟩
    go_simp
    refine (C6.out _).mono ?_
    rintro o2 st2 ⟨rfl, rfl⟩
    go_simp
    have h := end_pure (st := st) (v := .s (.bool true)) (r := .s (.bool true)) (l := []) (k := [(b.length, 5, 1)]) rfl (.s _)
    simpa using h
set_option maxHeartbeats 4000000 in
theorem l_BlockBack (b p : List UInt8) : Gives Try.prog 7 [.sl false .none (encB b), .sl false .none (encB p)] (.s (.bool true)) := by
  intro st
  refine bound_sl 0 rfl fun hb => ?_
  rw [encB_len] at hb
  have c1 := g_Pack b false
  have c2 := g_Unpack (pack b).1 true
  have c3 := g_Unpack p false
  obtain ⟨u1, u2⟩ := unp_out p
  have C7 := Lib.hid g_live10
  generalize unp p = u at *
  obtain ⟨d, g⟩ := u
  dsimp only at u1 u2
  have j3 : decide ((d.length : Int) ≤ 2048) = true := by rw [decide_eq_true_eq]; omega
  have hg : ((g == 0) = true) ∨ ((g == 0) = false ∧ d = []) := by
    by_cases h : g = 0
    · exact .inl (by simpa using h)
    · exact .inr ⟨by simpa using h, u2 h⟩
  clear u1 u2
  by_cases hl : 2048 < b.length
  · rw [pack_long hl] at c1 c2
    rw [show unp ([], (2 : Int)).1 = ([], 4) from rfl] at c2
    unfold tupB at c1 c2 c3
    dsimp only at c1 c2 c3
    have C1 := Lib.hid c1
    have C2 := Lib.hid c2
    have C3 := Lib.hid c3
    clear c1 c2 c3
    have j1 : decide ((2048 : Int) < (b.length : Int)) = true := by rw [decide_eq_true_eq]; omega
    refine enter Try.func7 rfl Try.ntmps7 Try.results7 (by simp) ?_
    go_simp
    refine (C1.out _).mono ?_
    rintro o2 st2 ⟨rfl, rfl⟩
    go_simp
    refine (C2.out _).mono ?_
    rintro o2 st2 ⟨rfl, rfl⟩
    go_simp
    refine (C3.out _).mono ?_
    rintro o2 st2 ⟨rfl, rfl⟩
    go_simp
    refine (C7.out _).mono ?_
    rintro o2 st2 ⟨rfl, rfl⟩
    rcases hg with hg | ⟨hg, rfl⟩ <;> go_simp <;> exact end_pure0 rfl (.s _)
  · obtain ⟨h1, h2, h3⟩ := pack_back (b := b) (by omega)
    rw [h2] at c2
    generalize pack b = q at *
    obtain ⟨q1, q2⟩ := q
    dsimp only at h1 h3 c2
    subst h1
    have c6 := g_same10 b b true false
    rw [decide_eq_true rfl] at c6
    unfold tupB at c1 c2 c3
    dsimp only at c1 c2 c3
    have C1 := Lib.hid c1
    have C2 := Lib.hid c2
    have C3 := Lib.hid c3
    have C6 := Lib.hid c6
    clear c1 c2 c3 c6 h2
    have j1 : decide ((2048 : Int) < (b.length : Int)) = false := by rw [decide_eq_false_iff_not]; omega
    refine enter Try.func7 rfl Try.ntmps7 Try.results7 (by simp) ?_
    go_simp
    refine (C1.out _).mono ?_
    rintro o2 st2 ⟨rfl, rfl⟩
    go_simp
    refine (C2.out _).mono ?_
    rintro o2 st2 ⟨rfl, rfl⟩
    go_simp
    refine (C6.out _).mono ?_
    rintro o2 st2 ⟨rfl, rfl⟩
    go_simp
    refine (C3.out _).mono ?_
    rintro o2 st2 ⟨rfl, rfl⟩
    go_simp
    refine (C7.out _).mono ?_
    rintro o2 st2 ⟨rfl, rfl⟩
    rcases hg with hg | ⟨hg, rfl⟩ <;> go_simp <;> exact end_pure0 rfl (.s _)
end Go.Proofs.Ytphnhfhdjfkkpaa
/- From a row's data to plain data: scalars, slices and structs that came in. No program beside the given type facts. -/
set_option linter.unusedVariables false
set_option linter.unusedSimpArgs false
namespace Go.Proofs.Ytphnhfhdjfkkpaa
open Go.ChangeShapes Go.WideShapes Go.ChangeAt Go.RowKit
section
variable {H : Type} {enc : TypeId × Value → H} {W : World} {P : Program}
/-- Every weight in it is within the form's reach. -/
def Light (P : Program) (t : TypeId) (d : DataW H) : Prop := ∀ n ∈ d.weights P t, n ≤ reachBytes
theorem light_at {ts : List TypeId} {ds : List (DataW H)} (h : (DataW.weightsEach P ts ds).all (· ≤ reachBytes) = true) {j : Nat} {t : TypeId} {d : DataW H} (ht : ts[j]? = some t) (hd : ds[j]? = some d) : Light P t d := fun n hn => by
  have := List.all_eq_true.1 h _ (DataW.weights_mem_each ht hd n hn)
  simpa using this
theorem weightsAll_mem {e : TypeId} : ∀ {l : List (DataW H)} {d : DataW H}, d ∈ l → ∀ n ∈ d.weights P e, n ∈ DataW.weightsAll P e l
  | x :: l, d, h, n, hn => by
    simp only [DataW.weightsAll, List.mem_append]
    rcases List.mem_cons.1 h with rfl | h
    · exact .inl hn
    · exact .inr (weightsAll_mem h n hn)
  | [], _, h, _, _ => by cases h
theorem Light.field {t : TypeId} {fs : Array Field} {ds : List (DataW H)} (hu : P.underlying t = some (.struct fs)) (h : Light P t (.agg ds)) {j : Nat} {f : Field} {d : DataW H} (hf : fs[j]? = some f) (hd : ds[j]? = some d) : Light P f.type d := fun n hn => by
  refine h n ?_
  simp only [DataW.weights, hu]
  exact DataW.weights_mem_each (j := j) (by simp [hf]) hd n hn
theorem Light.elem {t e : TypeId} {es sp : List (DataW H)} (hu : P.underlying t = some (.slice e)) (h : Light P t (.slice es sp)) {d : DataW H} (hd : d ∈ es) : Light P e d := fun n hn => by
  refine h n ?_
  simp only [DataW.weights, hu, List.mem_cons, List.mem_append]
  exact .inr (.inl (weightsAll_mem hd n hn))
theorem Light.len {t e : TypeId} {es sp : List (DataW H)} (hu : P.underlying t = some (.slice e)) (h : Light P t (.slice es sp)) : es.length * P.bytesOf e ≤ 140737488351232 := by
  have := h ((es.length + sp.length) * P.bytesOf e) (by simp [DataW.weights, hu])
  have h2 : es.length * P.bytesOf e ≤ (es.length + sp.length) * P.bytesOf e := Nat.mul_le_mul_right _ (by omega)
  have h3 : reachBytes = 140737488351232 := rfl
  omega

/-- Cells that read as plain data, in a world at the beginning. -/
def Reads (W : World) (l : List AV) (cs : List Value) : Prop := cs.length = l.length ∧ ∀ (i : Nat) x, l[i]? = some x → x.one = true ∧ x.dat0 = true ∧ oneV (cs.getD i undef) = true ∧ VSim (gh0 W) x (cs.getD i undef)
theorem Reads.nil : Reads W [] [] := ⟨rfl, fun i x h => by simp at h⟩
theorem Reads.app {l m : List AV} {cs ds : List Value} (h : Reads W l cs) (h' : Reads W m ds) : Reads W (l ++ m) (cs ++ ds) := by
  refine ⟨by simp [h.1, h'.1], fun i x hx => ?_⟩
  rcases Nat.lt_or_ge i l.length with hi | hi
  · rw [List.getElem?_append_left hi] at hx
    have := h.2 i x hx
    rwa [List.getD_eq_getElem?_getD, List.getElem?_append_left (by rw [h.1]; exact hi), ← List.getD_eq_getElem?_getD]
  · rw [List.getElem?_append_right hi] at hx
    have := h'.2 _ x hx
    rwa [List.getD_eq_getElem?_getD, List.getElem?_append_right (by rw [h.1]; exact hi), h.1, ← List.getD_eq_getElem?_getD]
theorem Reads.s {v : Value} (h : oneV v = true) (hd : AV.dat0 (.s v) = true) : Reads W [.s v] [v] := ⟨rfl, fun i x hx => by
  cases i with
  | zero =>
    obtain rfl : AV.s v = x := by simpa using hx
    exact ⟨h, hd, h, .s v h⟩
  | succ i => simp at hx⟩
theorem Reads.agg {l : List AV} {cs : List Value} (h : Reads W l cs) : VSim (gh0 W) (.agg l) (.agg cs.toArray) :=
  .agg l _ (by simp [h.1]) (fun i x hx => (h.2 i x hx).1) (fun i x hx => by
    have := (h.2 i x hx).2.2.2
    rwa [show cs.toArray.getD i undef = cs.getD i undef by simp [Array.getD_eq_getD_getElem?]])
theorem Reads.one {x : AV} {v : Value} (h : Reads W [x] [v]) : VSim (gh0 W) x v := (h.2 0 x rfl).2.2.2

theorem trod_float' {w : World} {base : Nat} {sp : Nat → Bool} {held : Bool} {fuel : Nat} {t : TypeId} {k : FloatKind} {cs : List Value} {x : DataW H × List MemPlace} (ht : P.underlying t = some (.float k)) (h : DataW.trod enc P w base sp held fuel t cs = some x) : ∃ b, cs = [.float k b] ∧ x = (.lit (.float k b), []) ∧ (Lit.float k b).wf = true := by
  cases fuel with
  | zero => simp [DataW.trod] at h
  | succ n =>
    unfold DataW.trod at h
    rw [ht] at h
    split at h <;> simp_all
theorem trod_bool' {w : World} {base : Nat} {sp : Nat → Bool} {held : Bool} {fuel : Nat} {t : TypeId} {cs : List Value} {x : DataW H × List MemPlace} (ht : P.underlying t = some .bool) (h : DataW.trod enc P w base sp held fuel t cs = some x) : ∃ b, cs = [.bool b] ∧ x = (.lit (.bool b), []) := by
  cases fuel with
  | zero => simp [DataW.trod] at h
  | succ n =>
    unfold DataW.trod at h
    rw [ht] at h
    split at h <;> simp_all
theorem addr_add (a : Addr) (m k : Nat) : (a.add m).add k = a.add (m + k) := by
  by_cases hm : m = 0
  · subst hm
    simp [Addr.add]
  · by_cases hk : k = 0
    · subst hk
      simp [Addr.add, hm]
    · simp [Addr.add, hm, hk, Nat.add_assoc]
theorem addr_none {a : Addr} (h : a.spot = none) {j : Nat} : (⟨a.block, a.off + j, none⟩ : Addr) = a.add j := by
  unfold Addr.add
  split
  · rename_i h0
    subst h0
    cases a
    cases h
    rfl
  · rfl
/-- A slice that came in: a list of what its elements are. -/
theorem open_slice_gen {α : Type} (E : α → List AV) (Good : α → Prop) {sz : Nat} {t e : TypeId} {n : Nat} {cs : List Value} {y : DataW H × List MemPlace} (ht : P.underlying t = some (.slice e)) (hs : P.cellsOf e = sz) (h0 : 0 < sz) (hby : 0 < P.bytesOf e) (hE : ∀ x, (E x).length = sz)
    (ih : ∀ m cs' y', m < n → DataW.trod enc P W 0 (fun _ => true) true m e cs' = some y' → Light P e y'.1 → ∃ x, Good x ∧ Reads W (E x) cs')
    (h : DataW.trod enc P W 0 (fun _ => true) true n t cs = some y) (hl : Light P t y.1) :
    ∃ l : List α, (∀ x ∈ l, Good x) ∧ l.length * P.bytesOf e ≤ 140737488351232 ∧ l.length ≤ 140737488355328 ∧ Reads W [.sl false .none (l.map E)] cs := by
  rcases DataW.trod_slice ht h with ⟨rfl, rfl⟩ | ⟨a, len, cap, elems, rest, m, hn, rfl, rfl, hb, hlc, hm, hlen, hel, hsp, hns⟩
  · refine ⟨[], by simp, by simp, by simp, rfl, fun i x hx => ?_⟩
    cases i with
    | zero =>
      obtain rfl : AV.sl false .none [] = x := by simpa using hx
      exact ⟨rfl, rfl, rfl, .sl false .none [] none 0 0 (fun _ => undef) (Nat.le_refl _) (Nat.zero_le _) (fun e he => by cases he) (fun j x hx => by simp at hx) (fun h => absurd rfl h) (fun j x hx => by simp at hx) trivial⟩
    | succ i => simp at hx
  · have each : ∀ i, i < len → ∃ x : α, ∃ cs', Good x ∧ W.cells? 0 (a.add (i * sz)) sz = some cs' ∧ Reads W (E x) cs' := by
      intro i hi
      have hx : elems[i]? = some elems[i] := List.getElem?_eq_getElem (by omega)
      have := hel i hi
      rw [hx, hs, Option.bind_eq_some_iff] at this
      obtain ⟨cs', q1, q2⟩ := this
      obtain ⟨x, r1, r2⟩ := ih m cs' _ (by omega) q2 (hl.elem ht (by
        simp only [List.mem_map]
        exact ⟨_, List.getElem_mem (by omega), rfl⟩))
      exact ⟨x, cs', r1, q1, r2⟩
    obtain ⟨l, hll, hlx⟩ : ∃ l : List α, l.length = len ∧ ∀ (i : Nat) x, l[i]? = some x → Good x ∧ ∃ cs', W.cells? 0 (a.add (i * sz)) sz = some cs' ∧ Reads W (E x) cs' := by
      clear hel hl h hsp hns ih hlen hlc
      induction len with
      | zero => exact ⟨[], rfl, fun i x hx => by simp at hx⟩
      | succ k ihk =>
        obtain ⟨l, q1, q2⟩ := ihk (fun i hi => each i (by omega))
        obtain ⟨x, cs', r1, r2, r3⟩ := each k (by omega)
        refine ⟨l ++ [x], by simp [q1], fun i z hz => ?_⟩
        rcases Nat.lt_or_ge i l.length with hi | hi
        · rw [List.getElem?_append_left hi] at hz
          exact q2 i z hz
        · rw [List.getElem?_append_right hi] at hz
          have h0 : i - l.length = 0 := by
            rcases Nat.eq_zero_or_pos (i - l.length) with h | h
            · exact h
            · obtain ⟨j, hj⟩ : ∃ j, i - l.length = j + 1 := ⟨i - l.length - 1, by omega⟩
              rw [hj] at hz; simp at hz
          rw [h0] at hz
          obtain rfl : x = z := by simpa using hz
          obtain rfl : i = k := by omega
          exact ⟨r1, cs', r2, r3⟩
    have hlb := hl.len ht
    rw [List.length_map, hlen] at hlb
    have hlen2 : len ≤ 140737488355328 := by
      have : len * 1 ≤ len * P.bytesOf e := Nat.mul_le_mul_left _ hby
      omega
    refine ⟨l, fun x hx => by obtain ⟨i, hi⟩ := List.getElem?_of_mem hx; exact (hlx i x hi).1, by rw [hll]; exact hlb, by omega, rfl, fun i x hx => ?_⟩
    cases i with
    | succ i => simp at hx
    | zero =>
      obtain rfl : AV.sl false .none (l.map E) = x := by simpa using hx
      have flat : ∀ (j : Nat) (x : AV), (l.map E).flatten[j]? = some x → x.one = true ∧ x.dat0 = true ∧ ∃ v, W.cell? (a.add j) = some v ∧ oneV v = true ∧ VSim (gh0 W) x v := by
        intro j x hj
        have hfl : ∀ (l : List α) (j : Nat), (l.map E).flatten[j]? = (l[j / sz]?).bind fun z => (E z)[j % sz]? := by
          intro l
          induction l with
          | nil => intro j; simp
          | cons z l ih2 =>
            intro j
            simp only [List.map_cons, List.flatten_cons]
            rcases Nat.lt_or_ge j sz with hj | hj
            · rw [List.getElem?_append_left (by rw [hE]; exact hj), Nat.div_eq_of_lt hj, Nat.mod_eq_of_lt hj]
              rfl
            · rw [List.getElem?_append_right (by rw [hE]; exact hj), hE, ih2]
              obtain ⟨k, rfl⟩ : ∃ k, j = k + sz := ⟨j - sz, by omega⟩
              rw [Nat.add_sub_cancel, Nat.add_div_right _ h0, Nat.add_mod_right]
              rfl
        rw [hfl, Option.bind_eq_some_iff] at hj
        obtain ⟨z, hz, hx⟩ := hj
        obtain ⟨_, cs', c1, c2⟩ := hlx _ _ hz
        obtain ⟨d1, d2, d3⟩ := World.cells?_some c1
        have hlt : j % sz < sz := Nat.mod_lt _ h0
        obtain ⟨e1, e2, e3, e4⟩ := c2.2 _ _ hx
        have d4 := d3 _ hlt
        have hlt' : j % sz < cs'.length := by omega
        rw [List.getElem?_eq_getElem hlt'] at d4
        rw [List.getD_eq_getElem?_getD, List.getElem?_eq_getElem hlt'] at e3 e4
        simp only [Option.getD_some] at e3 e4
        refine ⟨e1, e2, _, ?_, e3, e4⟩
        have e0 := Nat.div_add_mod j sz
        rw [Nat.mul_comm] at e0
        rw [← d4, addr_add, e0]
      have hvs : ∃ vs : Nat → Value, ∀ (j : Nat) x, (l.map E).flatten[j]? = some x → W.cell? (a.add j) = some (vs j) ∧ oneV (vs j) = true ∧ VSim (gh0 W) x (vs j) := by
        refine ⟨fun j => (W.cell? (a.add j)).getD undef, fun j x hx => ?_⟩
        obtain ⟨_, _, v, q1, q2, q3⟩ := flat j x hx
        simp only [q1]
        exact ⟨rfl, q2, q3⟩
      obtain ⟨vs, hvs⟩ := hvs
      have hml : len = (l.map E).length := by simp [hll]
      refine ⟨rfl, rfl, rfl, ?_⟩
      show VSim (gh0 W) _ (.slice (some a) len cap)
      rw [hml]
      refine .sl false .none (l.map E) (some a) cap sz vs (by simp [hll, hlc]) (by simp [hll]; omega) (fun e he => by obtain ⟨z, _, rfl⟩ := List.mem_map.1 he; exact hE z) (fun j x hx => ⟨(flat j x hx).1, (flat j x hx).2.1⟩) (fun hne => ?_) (fun j x hx => (hvs j x hx).2.2) trivial
      obtain ⟨x, hx⟩ : ∃ x, (l.map E).flatten[0]? = some x := by
        cases hf : (l.map E).flatten with
        | nil => exact absurd hf hne
        | cons x r => exact ⟨x, rfl⟩
      have hsp : a.spot = none := by
        have := (hvs 0 x hx).1
        unfold World.cell? at this
        split at this
        · cases hq : a.spot with
          | none => rfl
          | some s => simp [Addr.add, hq] at this
        · cases this
      refine ⟨a.block, a.off, by cases a; cases hsp; rfl, fun h => (by cases h), fun j x hx => ?_⟩
      obtain ⟨q1, q2, q3⟩ := hvs j x hx
      rw [gh0_K]
      refine ⟨?_, q2⟩
      rw [← q1]
      congr 1
      exact addr_none hsp
end
end Go.Proofs.Ytphnhfhdjfkkpaa
/- The arguments of layer 10's laws, in plain data. -/
set_option linter.unusedVariables false
set_option linter.unusedSimpArgs false
namespace Go.Proofs.Ytphnhfhdjfkkpaa
open Go.ChangeShapes Go.WideShapes Go.ChangeAt Go.RowKit
section
variable {H : Type} {enc : TypeId × Value → H} {W : World}
theorem open_byte10 {m : Nat} {cs : List Value} {y : DataW H × List MemPlace} (h : DataW.trod enc Try.prog W 0 (fun _ => true) true m 5 cs = some y) : ∃ c : UInt8, True ∧ Reads W [.s (.int .u8 c.toNat)] cs := by
  obtain ⟨k, e0, _, w0⟩ := DataW.trod_int Try.underlying5 h
  subst e0
  have hk : 0 ≤ k ∧ k < 256 := by
    simp [Lit.wf, IntKind.min, IntKind.max, IntKind.signed, IntKind.bits] at w0
    omega
  refine ⟨UInt8.ofNat k.toNat, trivial, ?_⟩
  have : ((UInt8.ofNat k.toNat).toNat : Int) = k := by simp; omega
  rw [this]
  exact .s rfl rfl
theorem open_byteS10 {A : Option Addr} {len cap : Nat} {d : DataW H} {p : List MemPlace} (h : DataW.Trod enc Try.prog W 0 (fun _ => true) true 22 (.slice A len cap) d p) (hl : Light Try.prog 22 d) : ∃ l : List UInt8, l.length ≤ 140737488351232 ∧ VSim (gh0 W) (.sl false .none (encB l)) (.slice A len cap) := by
  obtain ⟨n, hn⟩ := h
  obtain ⟨l, _, q2, _, q3⟩ := open_slice_gen (fun c : UInt8 => [AV.s (.int .u8 c.toNat)]) (fun _ => True) Try.underlying22 (by kernel_rfl : Try.prog.cellsOf 5 = 1) (by decide) (by rw [show Try.prog.bytesOf 5 = 1 by kernel_rfl]; decide) (fun _ => rfl)
    (fun m' cs' y' hm h' hl' => open_byte10 h') hn hl
  rw [show Try.prog.bytesOf 5 = 1 by kernel_rfl] at q2
  exact ⟨l, by omega, Reads.one q3⟩
end
end Go.Proofs.Ytphnhfhdjfkkpaa
