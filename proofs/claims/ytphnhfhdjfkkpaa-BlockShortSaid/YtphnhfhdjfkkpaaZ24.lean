/- Merged: ALs10, ALs102. -/
import Derived.Test.YtphnhfhdjfkkpaaZ23
/- Laws of layer 10: same, live. -/
set_option linter.unusedVariables false
set_option linter.unusedSimpArgs false
namespace Go.Proofs.Ytphnhfhdjfkkpaa
open Go.RowKit
attribute [local go_sem] normK_app aopsK_app atSt_app ofK_app stK_app extK_val panicK_app thenA_normal thenA_exit thenA_ret thenA_panic blockK_normal blockK_exit blockK_ret blockK_panic callK_ret callK_panic awp_skip awp_region awp_draw awp_seq awp_cond acond_true acond_false dstAt_zero dstAt_succ guardV_some aops_guard_eq aguard_true aguard_true' aguard_false aguard_false' aguard_und ogF_und ogS_und ord_guard ogF_tt ogF_ft ogF_tf ogF_ff ogS_tt ogS_ff ogS_ft ogS_tf awp_block awp_loop awp_exit awp_ret awp_label awp_scope aops_nil aops_plain exec_move exec_assign exec_pick exec_alloc pick_true pick_false free_pick fpick_true fpick_false exec_box exec_build exec_buildSlice exec_load exec_store exec_nilCheck exec_binOp abinK_some exec_unOp aunK_some exec_convert conv_s exec_makeInterface exec_makeFunc exec_slice exec_fieldAddr exec_field exec_indexAddr exec_index exec_extract exec_call exec_panic call_value call_builtin alitsK_some acallB_true acallB_false callF_fn bi_len eval_tmp eval_const eval_func look_cons look_nil put_some put_none ofV_int ofV_bool ofV_float ofV_string ofV_slice ofV_ptr ofV_map ofV_agg ofV_tup lit_s box_eq box_var get_here get_here0 set_here set_here0 number_nil number_cons retK_ret retK_normal retK_panic ends1 ends2 ends3 ends0 retOne_app endsC TRun AV.lits AV.lit0 aordF_app aordS_not aordS_late ord_nil ord_free ord_solo freeK_app free_move free_assign free_build free_buildSlice free_load free_nilCheck free_binOp free_unOp free_convert free_makeInterface free_makeFunc free_slice free_fieldAddr free_field free_indexAddr free_index free_extract free_len free_call freeF_fn agives_false roundK_normal roundK_exit roundK_ret roundK_panic roundC_normal roundC_exit roundC_ret roundC_panic sub_nil sub_cons aalloc abox aiface afield aindex aextract alen abuild abuildSlice afill afillS splice Tag.calm oneV AV.forget AV.forget1 one_any dat0_any known_any cells_any forget0_any one_s dat0_s known_s cells_s forget0_s one_agg dat0_agg known_agg cells_agg forget0_agg one_tup dat0_tup known_tup cells_tup forget0_tup one_bp dat0_bp known_bp cells_bp forget0_bp one_rp dat0_rp known_rp cells_rp forget0_rp one_sl dat0_sl known_sl cells_sl forget0_sl one_fn dat0_fn known_fn cells_fn forget0_fn one_ifc dat0_ifc known_ifc cells_ifc forget0_ifc okCells_nil okCells_cons load_rpA load_rp1 loadB_some load_bpA load1_some at1_some load_bp1 storeB_some store_bp fieldAddr_bp fieldAddr_rp idxE_some index_sl index_arr nil_bp nil_rp nil_fn bi_append appB_sl appB_str aappend one_mp dat0_mp known_mp cells_mp forget0_mp exec_makeMap exec_lookup exec_mapUpdate withOk_true withOk_false exec_mapEntry exec_entryStore exec_arrAt exec_makeSlice arrAt_sl ty2 ty3 ty4 ty5 ty6 ty7 ty8 ty9 ty10 ty11 ty12 ty13 ty14 ty15 ty16 ty17 ty18 ty19 ty20 ty21 ty22 ty23 ty31 ty32 ty33 ty35 ty37 ty38 ty41 ty53 ty56 ty57 ty62 ty63 ty64 ty66 ty67 ty68 ty69 ty70 ty71 hb0 hb1 hb2 hb3 hb4 hb5 hb6 hb7 hb8 hb9 hb10 hb11 hb12 hb13 hb14 hb15 hb16 hb17 hb18 hb19 hb20 hb21 hb22 hb23 hb24 hb25 hb26 hb27 hb28 hb29 hb30 hb31 hb32 hb33 hb34 hb35 hb36 hb37 hb38 hb39 hb40 hb41 hb42 hb43 hb44
attribute [local go_sem] encB_len
set_option maxRecDepth 20000
theorem s_bool10 {b c : Bool} (h : b = c) : AV.forget (.s (.bool b)) = .s (.bool c) := by subst h; rfl
theorem encB_at10 {l : List UInt8} {k : Nat} {b : UInt8} (h : l[k]? = some b) : ∀ h', (encB l)[k]'h' = [.s (.int .u8 (b.toNat : Int))] := fun h' => by
  obtain ⟨hl, rfl⟩ := List.getElem?_eq_some_iff.1 h
  simp [encB]
set_option maxHeartbeats 1000000 in
theorem g_same10 (a b : List UInt8) (oa ob : Bool) : Gives Try.prog 12 [.sl oa .none (encB a), .sl ob .none (encB b)] (.s (.bool (decide (a = b)))) := by
  intro st
  refine bound_sl 0 rfl fun hb => ?_
  rw [encB_len] at hb
  refine enter Try.func12 rfl Try.ntmps12 Try.results12 (by simp) ?_
  go_simp
  refine part (fun h => ?_) (fun h => ?_) <;> go_simp
  · refine end_pure0 (s_bool10 ?_) (.s _)
    symm
    rw [decide_eq_false_iff_not]
    rintro rfl
    simp at h
  have hlen : a.length = b.length := by simp at h; omega
  have HL := Lib.hid hlen
  clear h hlen
  refine loop_cut (σ := {k : Nat // k ≤ a.length ∧ a.take k = b.take k})
    (fun s => ⟨26, [(5, .s (.int .i64 s.1)), (1, .sl ob .none (encB b)), (0, .sl oa .none (encB a))]⟩) (fun _ => st) (fun s => a.length - s.1) ⟨0, Nat.zero_le _, rfl⟩ (by go_simp) rfl ?_
  rintro ⟨k, hk, HE⟩
  have HE := Lib.hid HE
  simp only []
  by_cases hlt : k < a.length
  · have i1 : decide ((k : Int) < (a.length : Int)) = true := by simpa using hlt
    have hkb : k < b.length := by have := HL.out; omega
    have hx : a[k]? = some a[k] := List.getElem?_eq_getElem hlt
    have hy : b[k]? = some b[k] := List.getElem?_eq_getElem _
    obtain ⟨x, hxe⟩ : ∃ x, x = a[k] := ⟨_, rfl⟩
    obtain ⟨y, hye⟩ : ∃ y, y = b[k] := ⟨_, rfl⟩
    rw [← hxe] at hx
    rw [← hye] at hy
    clear hxe hye
    have hw : IntKind.i64.wrap ((k : Int) + 1) = (k : Int) + 1 := IntWalk.i64_in _ (by omega)
    have gx := encB_at10 hx
    have gy := encB_at10 hy
    have HX := Lib.hid hx
    have HY := Lib.hid hy
    clear hx hy
    go_simp
    refine draw [(true, false), (true, false), (true, false), (true, false), (true, false), (false, false), (false, false), (false, false), (false, false)] (by kernel_rfl) (by kernel_rfl) ?_
    go_simp
    refine part (fun h => ?_) (fun h => ?_) <;> go_simp
    · refine end_pure0 (s_bool10 ?_) (.s _)
      symm
      rw [decide_eq_false_iff_not]
      rintro rfl
      have e1 := HX.out
      rw [HY.out] at e1
      obtain rfl := Option.some.inj e1
      simp at h
    · have hxy : x = y := UInt8.toNat_inj.1 (by simp at h; omega)
      refine ⟨⟨k + 1, by omega, ?_⟩, by go_simp, cut_same.symm, by show a.length - (k + 1) < a.length - k; omega, .same, by simp [InB_s, InB_none]⟩
      rw [List.take_add_one, List.take_add_one, HE.out, HX.out, HY.out, hxy]
  · have i1 : decide ((k : Int) < (a.length : Int)) = false := by simpa using hlt
    go_simp
    refine end_pure0 (s_bool10 ?_) (.s _)
    symm
    rw [decide_eq_true_eq]
    have h1 := HE.out
    rwa [List.take_of_length_le (by omega), List.take_of_length_le (by have := HL.out; omega)] at h1
/-- What no box and no row is asked of is answered in every store. -/
theorem Gives.of_empty {P : Program} {f : FuncId} {c : Value} (hc : oneV c = true) (h : DoesCall P f [] ⟨[], []⟩ fun o st' => o = .ret (.s c)) : Gives P f [] (.s c) := fun st => .of_kept fun g w vs hi ha => by
  cases ha
  have hi0 : Inv ⟨g.K, [], [], ⟨w, 0, fun _ => none⟩⟩ ⟨[], []⟩ w :=
    ⟨hi.K, rfl, fun i b cs h => by simp at h, fun b h => by simp at h, List.nodup_nil, rfl, fun i L h => by simp at h, fun i j L L' a a' h => by simp at h, ⟨⟨Kept.refl _, Nat.zero_le _⟩, fun b o h => by cases h⟩, hi.ok.kept hi.kept.1.1, fun b o v h hb => absurd (World.block_lt_of_cell? w _ (hi.K b o v h).1) (Nat.not_lt.2 hb)⟩
  refine (h _ w [] hi0 .nil).mono ?_
  rintro e w' ⟨g', o, st', h1, h2, h3, rfl⟩
  have hk := h2.kept
  rw [h1.w0] at hk
  cases h3 with
  | ret _ x hx =>
    cases hx
    exact ⟨_, .ret _ _ (.s c hc), ⟨rfl, rfl⟩, hk.1.1⟩
theorem conv_mark {P : Program} {s e bs s1 s3 sz : Nat} {a1 a3 : Bool} {z1 z3 : AV} {tag : Tag} {es : List (List AV)} {K : AV → Prop} (h1 : tyOf P s = some ⟨s1, a1, z1, .slice e sz bs⟩) (h3 : tyOf P e = some ⟨s3, a3, z3, .int .u8⟩)
    (hne : es.flatten ≠ []) (h : K (.sl true .none es)) : aconv P s s (.sl true tag es) [] K := by
  simp only [aconv, h1, h3]
  exact ⟨trivial, trivial, trivial, hne, h⟩
set_option maxHeartbeats 4000000 in
theorem g_live10 : Gives Try.prog 10 [] (.s (.bool true)) := by
  refine .of_empty rfl ?_
  have c1 := g_Unpack [1, 2, 97, 11, 1] true
  have c2 := g_Unpack [2] true
  have c3 := g_Pack [97, 98, 99] true
  have c4 := g_Unpack (pack [97, 98, 99]).1 true
  rw [show unp [1, 2, 97, 11, 1] = ([97, 97, 97, 97, 97, 97], 0) by kernel_rfl] at c1
  rw [show unp [2] = ([], 5) by kernel_rfl] at c2
  rw [(pack_back (b := [97, 98, 99]) (by decide)).2.1] at c4
  have hp1 := (pack_back (b := [97, 98, 99]) (by decide)).1
  have hp2 := (pack_back (b := [97, 98, 99]) (by decide)).2.2
  have c5 := (g_same10 [97, 97, 97, 97, 97, 97] [97, 97, 97, 97, 97, 97] true true)
  have c6 := (g_same10 [97, 98, 99] [97, 98, 99] true true)
  rw [show decide (([97, 97, 97, 97, 97, 97] : List UInt8) = [97, 97, 97, 97, 97, 97]) = true by decide] at c5
  rw [show decide (([97, 98, 99] : List UInt8) = [97, 98, 99]) = true by decide] at c6
  unfold tupB at c1 c2 c3 c4
  dsimp only at c1 c2 c3 c4
  generalize pack [97, 98, 99] = q at *
  obtain ⟨q1, q2⟩ := q
  dsimp only at hp1 hp2 c3 c4
  subst hp1
  have hp3 : decide ((q1.length : Int) ≤ 4) = true := by rw [decide_eq_true_eq]; simp at hp2; omega
  have w1 : Wk (.sl true .full [[.s (.int .u8 1)], [.s (.int .u8 2)], [.s (.int .u8 97)], [.s (.int .u8 11)], [.s (.int .u8 1)]]) (.sl true .none (encB [1, 2, 97, 11, 1])) := fun g x h => forget0_sim h
  have w2 : Wk (.sl true .full [[.s (.int .u8 2)]]) (.sl true .none (encB [2])) := fun g x h => forget0_sim h
  have C1 := Lib.hid (c1.weak (args := [_]) ⟨w1, trivial⟩)
  have C2 := Lib.hid (c2.weak (args := [_]) ⟨w2, trivial⟩)
  have C3 := Lib.hid c3
  have C4 := Lib.hid c4
  have C5 := Lib.hid c5
  have C6 := Lib.hid c6
  clear c1 c2 c3 c4 c5 c6 w1 w2 hp2
  have e1 : [[AV.s (.int .u8 97)], [AV.s (.int .u8 98)], [AV.s (.int .u8 99)]] = encB [97, 98, 99] := rfl
  have e2 : [[AV.s (.int .u8 97)], [AV.s (.int .u8 97)], [AV.s (.int .u8 97)], [AV.s (.int .u8 97)], [AV.s (.int .u8 97)], [AV.s (.int .u8 97)]] = encB [97, 97, 97, 97, 97, 97] := rfl
  have E1 := Lib.hid e1
  have E2 := Lib.hid e2
  clear e1 e2
  refine enter Try.func10 rfl Try.ntmps10 Try.results10 (by simp) ?_
  go_simp
  refine (C1.out _).mono ?_
  rintro o2 st2 ⟨rfl, rfl⟩
  go_simp
  refine (C2.out _).mono ?_
  rintro o2 st2 ⟨rfl, rfl⟩
  go_simp
  refine conv_mark ty22 ty5 (by simp) ?_
  rw [E1.out]
  go_simp
  refine (C3.out _).mono ?_
  rintro o2 st2 ⟨rfl, rfl⟩
  go_simp
  refine (C4.out _).mono ?_
  rintro o2 st2 ⟨rfl, rfl⟩
  go_simp
  refine conv_mark ty22 ty5 (by simp) ?_
  rw [E2.out]
  go_simp
  refine (C5.out _).mono ?_
  rintro o2 st2 ⟨rfl, rfl⟩
  go_simp
  refine conv_mark ty22 ty5 (by simp) ?_
  rw [E1.out]
  go_simp
  refine (C6.out _).mono ?_
  rintro o2 st2 ⟨rfl, rfl⟩
  go_simp
  exact .asis rfl
end Go.Proofs.Ytphnhfhdjfkkpaa
/- Laws of layer 10: numbers, packs, back. -/
set_option linter.unusedVariables false
set_option linter.unusedSimpArgs false
namespace Go.Proofs.Ytphnhfhdjfkkpaa
open Go.RowKit
attribute [local go_sem] normK_app aopsK_app atSt_app ofK_app stK_app extK_val panicK_app thenA_normal thenA_exit thenA_ret thenA_panic blockK_normal blockK_exit blockK_ret blockK_panic callK_ret callK_panic awp_skip awp_region awp_draw awp_seq awp_cond acond_true acond_false dstAt_zero dstAt_succ guardV_some aops_guard_eq aguard_true aguard_true' aguard_false aguard_false' aguard_und ogF_und ogS_und ord_guard ogF_tt ogF_ft ogF_tf ogF_ff ogS_tt ogS_ff ogS_ft ogS_tf awp_block awp_loop awp_exit awp_ret awp_label awp_scope aops_nil aops_plain exec_move exec_assign exec_pick exec_alloc pick_true pick_false free_pick fpick_true fpick_false exec_box exec_build exec_buildSlice exec_load exec_store exec_nilCheck exec_binOp abinK_some exec_unOp aunK_some exec_convert conv_s exec_makeInterface exec_makeFunc exec_slice exec_fieldAddr exec_field exec_indexAddr exec_index exec_extract exec_call exec_panic call_value call_builtin alitsK_some acallB_true acallB_false callF_fn bi_len eval_tmp eval_const eval_func look_cons look_nil put_some put_none ofV_int ofV_bool ofV_float ofV_string ofV_slice ofV_ptr ofV_map ofV_agg ofV_tup lit_s box_eq box_var get_here get_here0 set_here set_here0 number_nil number_cons retK_ret retK_normal retK_panic ends1 ends2 ends3 ends0 retOne_app endsC TRun AV.lits AV.lit0 aordF_app aordS_not aordS_late ord_nil ord_free ord_solo freeK_app free_move free_assign free_build free_buildSlice free_load free_nilCheck free_binOp free_unOp free_convert free_makeInterface free_makeFunc free_slice free_fieldAddr free_field free_indexAddr free_index free_extract free_len free_call freeF_fn agives_false roundK_normal roundK_exit roundK_ret roundK_panic roundC_normal roundC_exit roundC_ret roundC_panic sub_nil sub_cons aalloc abox aiface afield aindex aextract alen abuild abuildSlice afill afillS splice Tag.calm oneV AV.forget AV.forget1 one_any dat0_any known_any cells_any forget0_any one_s dat0_s known_s cells_s forget0_s one_agg dat0_agg known_agg cells_agg forget0_agg one_tup dat0_tup known_tup cells_tup forget0_tup one_bp dat0_bp known_bp cells_bp forget0_bp one_rp dat0_rp known_rp cells_rp forget0_rp one_sl dat0_sl known_sl cells_sl forget0_sl one_fn dat0_fn known_fn cells_fn forget0_fn one_ifc dat0_ifc known_ifc cells_ifc forget0_ifc okCells_nil okCells_cons load_rpA load_rp1 loadB_some load_bpA load1_some at1_some load_bp1 storeB_some store_bp fieldAddr_bp fieldAddr_rp idxE_some index_sl index_arr nil_bp nil_rp nil_fn bi_append appB_sl appB_str aappend one_mp dat0_mp known_mp cells_mp forget0_mp exec_makeMap exec_lookup exec_mapUpdate withOk_true withOk_false exec_mapEntry exec_entryStore exec_arrAt exec_makeSlice arrAt_sl ty2 ty3 ty4 ty5 ty6 ty7 ty8 ty9 ty10 ty11 ty12 ty13 ty14 ty15 ty16 ty17 ty18 ty19 ty20 ty21 ty22 ty23 ty31 ty32 ty33 ty35 ty37 ty38 ty41 ty53 ty56 ty57 ty62 ty63 ty64 ty66 ty67 ty68 ty69 ty70 ty71 hb0 hb1 hb2 hb3 hb4 hb5 hb6 hb7 hb8 hb9 hb10 hb11 hb12 hb13 hb14 hb15 hb16 hb17 hb18 hb19 hb20 hb21 hb22 hb23 hb24 hb25 hb26 hb27 hb28 hb29 hb30 hb31 hb32 hb33 hb34 hb35 hb36 hb37 hb38 hb39 hb40 hb41 hb42 hb43 hb44
attribute [local go_sem] encB_len
set_option maxRecDepth 20000
theorem zeros (n : Nat) : List.replicate n [AV.s (.int .u8 0)] = encB (List.replicate n 0) := by
  unfold encB
  rw [List.map_replicate]
  rfl
/-- make([]byte, n). -/
theorem mk_bytes {n : Nat} {k1 k2 : IntKind} {K : AV → Prop} (hn : n ≤ 65536) (h : K (.sl true .full (encB (List.replicate n 0)))) : amakeSlice Try.prog 22 (.s (.int k1 (n : Int))) (.s (.int k2 (n : Int))) K := by
  simp only [amakeSlice, ty22, ty5]
  refine ⟨rfl, rfl, rfl, by decide, by omega, trivial, by omega, by omega, ?_⟩
  rw [Int.toNat_natCast]
  have e : AV.cells (.s (.int .u8 0)) = [.s (.int .u8 0)] := rfl
  rw [e, zeros]
  exact h
set_option maxHeartbeats 4000000 in
theorem l_BlockNumbers : Gives Try.prog 3 [] (.s (.bool true)) := by
  intro st
  have hr : (List.replicate 2048 (0 : UInt8)).length = 2048 := List.length_replicate
  have hr2 : (List.replicate 2049 (0 : UInt8)).length = 2049 := List.length_replicate
  have hper : Per (List.replicate 2048 (0 : UInt8)) 1 := fun i h1 h2 => by
    rw [hr] at h2
    rw [List.getElem?_replicate, List.getElem?_replicate, if_pos h2, if_pos (by omega)]
  have hsh := pack_short hper (Nat.le_refl _) (by decide) (by rw [hr]; decide) (by rw [hr]; decide)
  rw [hr] at hsh
  have hbk := pack_back (b := List.replicate 2048 (0 : UInt8)) (by rw [hr]; decide)
  have hlg := pack_long (b := List.replicate 2049 (0 : UInt8)) (by rw [hr2]; decide)
  have c1 := (g_Pack (List.replicate 2048 0) true).weak (args := [.sl true .full (encB (List.replicate 2048 0))]) ⟨fun g x h => forget0_sim h, trivial⟩
  have c2 := (g_Pack (List.replicate 2049 0) true).weak (args := [.sl true .full (encB (List.replicate 2049 0))]) ⟨fun g x h => forget0_sim h, trivial⟩
  rw [hlg] at c2
  have hb1 := hbk.1
  generalize pack (List.replicate 2048 (0 : UInt8)) = q at *
  obtain ⟨q1, q2⟩ := q
  dsimp only at hb1 hsh
  subst hb1
  have j1 : decide ((q1.length : Int) ≤ 80) = true := by rw [decide_eq_true_eq]; omega
  unfold tupB at c1 c2
  dsimp only at c1 c2
  have C1 := Lib.hid c1
  have C2 := Lib.hid c2
  have C3 := Lib.hid g_live10
  clear c1 c2 hbk hsh hper hlg hr hr2
  refine enter Try.func3 rfl Try.ntmps3 Try.results3 (by simp) ?_
  go_simp
  refine mk_bytes (n := 2048) (by decide) ?_
  generalize encB (List.replicate 2048 0) = Z1 at *
  go_simp
  refine (C1.out _).mono ?_
  rintro o2 st2 ⟨rfl, rfl⟩
  go_simp
  refine mk_bytes (n := 2049) (by decide) ?_
  generalize encB (List.replicate 2049 0) = Z2 at *
  go_simp
  refine (C2.out _).mono ?_
  rintro o2 st2 ⟨rfl, rfl⟩
  go_simp
  refine (C3.out _).mono ?_
  rintro o2 st2 ⟨rfl, rfl⟩
  go_simp
  exact end_pure0 rfl (.s _)
set_option maxHeartbeats 4000000 in
theorem l_BlockPacks (b : List UInt8) : Gives Try.prog 4 [.sl false .none (encB b)] (.s (.bool true)) := by
  intro st
  refine bound_sl 0 rfl fun hb => ?_
  rw [encB_len] at hb
  have c1 := g_Pack b false
  have c2 := (g_Pack b true).weak (args := [.sl true (.lin st.ln.length) (encB b)]) ⟨fun g x h => forget0_sim h, trivial⟩
  have c3 := g_rUnpack (pack b).1 true
  have c4 := (g_same10 b b true true).weak (args := [.sl true .none (encB b), .sl true (.lin st.ln.length) (encB b)]) ⟨.refl _, fun g x h => forget0_sim h, trivial⟩
  have c5 := (g_same10 b b false true).weak (args := [.sl false .none (encB b), .sl true (.lin st.ln.length) (encB b)]) ⟨.refl _, fun g x h => forget0_sim h, trivial⟩
  have c6 := g_same10 (pack b).1 (pack b).1 true true
  rw [decide_eq_true rfl] at c4 c5 c6
  have C4 := Lib.hid c4
  have C5 := Lib.hid c5
  have C7 := Lib.hid g_live10
  clear c4 c5
  have app : ∀ {K : AV → AS → Prop}, K (.sl true (.lin st.ln.length) (encB b)) ⟨st.bx, st.ln ++ [(b.length, 5, 1)]⟩ → aapp 5 1 1 (.sl true .full []) (encB b) st K := fun {K} h => by
    refine ⟨by rw [encB_len]; simp; omega, (fun x hx => by cases hx), .inl ⟨.inl rfl, ?_⟩⟩
    rw [List.nil_append, encB_len]
    exact h
  by_cases hl : 2048 < b.length
  · rw [pack_long hl] at c1 c2
    unfold tupB at c1 c2
    dsimp only at c1 c2
    have C1 := Lib.hid c1
    have C2 := Lib.hid c2
    clear c1 c2 c3 c6
    have j1 : decide ((2048 : Int) < (b.length : Int)) = true := by rw [decide_eq_true_eq]; omega
    refine enter Try.func4 rfl Try.ntmps4 Try.results4 (by simp) ?_
    go_simp
    refine ⟨encB_lens _, app ?_⟩
    go_simp
    refine (C1.out _).mono ?_
    rintro o2 st2 ⟨rfl, rfl⟩
    go_simp
    refine (C2.out _).mono ?_
    rintro o2 st2 ⟨rfl, rfl⟩
    go_simp
    refine (C7.out _).mono ?_
    rintro o2 st2 ⟨rfl, rfl⟩
    go_simp
    have h := end_pure (st := st) (v := .s (.bool true)) (r := .s (.bool true)) (l := []) (k := [(b.length, 5, 1)]) rfl (.s _)
    simpa using h
  · obtain ⟨h1, h2, h3⟩ := pack_back (b := b) (by omega)
    rw [h2] at c3
    generalize pack b = q at *
    obtain ⟨q1, q2⟩ := q
    dsimp only at h1 h3 c3 c6
    subst h1
    unfold tupB at c1 c2 c3
    dsimp only at c1 c2 c3
    have C1 := Lib.hid c1
    have C2 := Lib.hid c2
    have C3 := Lib.hid c3
    have C6 := Lib.hid c6
    clear c1 c2 c3 c6 h2
    have w1 : IntKind.i64.wrap ((b.length : Int) + 1) = (b.length : Int) + 1 := IntWalk.i64_in _ (by omega)
    have j1 : decide ((2048 : Int) < (b.length : Int)) = false := by rw [decide_eq_false_iff_not]; omega
    have j2 : decide ((q1.length : Int) ≤ (b.length : Int) + 1) = true := by rw [decide_eq_true_eq]; omega
    refine enter Try.func4 rfl Try.ntmps4 Try.results4 (by simp) ?_
    go_simp
    refine ⟨encB_lens _, app ?_⟩
    go_simp
    refine (C1.out _).mono ?_
    rintro o2 st2 ⟨rfl, rfl⟩
    go_simp
    refine (C2.out _).mono ?_
    rintro o2 st2 ⟨rfl, rfl⟩
    go_simp
    refine (C3.out _).mono ?_
    rintro o2 st2 ⟨rfl, rfl⟩
    go_simp
    refine (C7.out _).mono ?_
    rintro o2 st2 ⟨rfl, rfl⟩
    go_simp
    refine (C4.out _).mono ?_
    rintro o2 st2 ⟨rfl, rfl⟩
    go_simp
    refine (C5.out _).mono ?_
    rintro o2 st2 ⟨rfl, rfl⟩
    go_simp
    refine (C6.out _).mono ?_
    rintro o2 st2 ⟨rfl, rfl⟩
    go_simp
    have h := end_pure (st := st) (v := .s (.bool true)) (r := .s (.bool true)) (l := []) (k := [(b.length, 5, 1)]) rfl (.s _)
    simpa using h
set_option maxHeartbeats 4000000 in
theorem l_BlockBack (b p : List UInt8) : Gives Try.prog 7 [.sl false .none (encB b), .sl false .none (encB p)] (.s (.bool true)) := by
  intro st
  refine bound_sl 0 rfl fun hb => ?_
  rw [encB_len] at hb
  have c1 := g_Pack b false
  have c2 := g_Unpack (pack b).1 true
  have c3 := g_Unpack p false
  obtain ⟨u1, u2⟩ := unp_out p
  have C7 := Lib.hid g_live10
  generalize unp p = u at *
  obtain ⟨d, g⟩ := u
  dsimp only at u1 u2
  have j3 : decide ((d.length : Int) ≤ 2048) = true := by rw [decide_eq_true_eq]; omega
  have hg : ((g == 0) = true) ∨ ((g == 0) = false ∧ d = []) := by
    by_cases h : g = 0
    · exact .inl (by simpa using h)
    · exact .inr ⟨by simpa using h, u2 h⟩
  clear u1 u2
  by_cases hl : 2048 < b.length
  · rw [pack_long hl] at c1 c2
    rw [show unp ([], (2 : Int)).1 = ([], 4) from rfl] at c2
    unfold tupB at c1 c2 c3
    dsimp only at c1 c2 c3
    have C1 := Lib.hid c1
    have C2 := Lib.hid c2
    have C3 := Lib.hid c3
    clear c1 c2 c3
    have j1 : decide ((2048 : Int) < (b.length : Int)) = true := by rw [decide_eq_true_eq]; omega
    refine enter Try.func7 rfl Try.ntmps7 Try.results7 (by simp) ?_
    go_simp
    refine (C1.out _).mono ?_
    rintro o2 st2 ⟨rfl, rfl⟩
    go_simp
    refine (C2.out _).mono ?_
    rintro o2 st2 ⟨rfl, rfl⟩
    go_simp
    refine (C3.out _).mono ?_
    rintro o2 st2 ⟨rfl, rfl⟩
    go_simp
    refine (C7.out _).mono ?_
    rintro o2 st2 ⟨rfl, rfl⟩
    rcases hg with hg | ⟨hg, rfl⟩ <;> go_simp <;> exact end_pure0 rfl (.s _)
  · obtain ⟨h1, h2, h3⟩ := pack_back (b := b) (by omega)
    rw [h2] at c2
    generalize pack b = q at *
    obtain ⟨q1, q2⟩ := q
    dsimp only at h1 h3 c2
    subst h1
    have c6 := g_same10 b b true false
    rw [decide_eq_true rfl] at c6
    unfold tupB at c1 c2 c3
    dsimp only at c1 c2 c3
    have C1 := Lib.hid c1
    have C2 := Lib.hid c2
    have C3 := Lib.hid c3
    have C6 := Lib.hid c6
    clear c1 c2 c3 c6 h2
    have j1 : decide ((2048 : Int) < (b.length : Int)) = false := by rw [decide_eq_false_iff_not]; omega
    refine enter Try.func7 rfl Try.ntmps7 Try.results7 (by simp) ?_
    go_simp
    refine (C1.out _).mono ?_
    rintro o2 st2 ⟨rfl, rfl⟩
    go_simp
    refine (C2.out _).mono ?_
    rintro o2 st2 ⟨rfl, rfl⟩
    go_simp
    refine (C6.out _).mono ?_
    rintro o2 st2 ⟨rfl, rfl⟩
    go_simp
    refine (C3.out _).mono ?_
    rintro o2 st2 ⟨rfl, rfl⟩
    go_simp
    refine (C7.out _).mono ?_
    rintro o2 st2 ⟨rfl, rfl⟩
    rcases hg with hg | ⟨hg, rfl⟩ <;> go_simp <;> exact end_pure0 rfl (.s _)
end Go.Proofs.Ytphnhfhdjfkkpaa
