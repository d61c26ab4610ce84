/- Merged: ARUnp, AOut, ALs10, ALs102, OpenGen, AOp10, TokPure. -/
import Derived.Test.YtilpiclmdmnlkaaZ22
import Derived.ProofKit
import Derived.OpenShut
import Derived.SizedLaws
import Derived.Laws.Cover2
/- The reference's Unpack: token by token. -/
set_option linter.unusedVariables false
set_option linter.unusedSimpArgs false
namespace Go.Proofs.Ytilpiclmdmnlkaa
open Go.RowKit
attribute [local go_sem] normK_app aopsK_app atSt_app ofK_app stK_app extK_val panicK_app thenA_normal thenA_exit thenA_ret thenA_panic blockK_normal blockK_exit blockK_ret blockK_panic callK_ret callK_panic awp_skip awp_region awp_draw awp_seq awp_cond acond_true acond_false dstAt_zero dstAt_succ guardV_some aops_guard_eq aguard_true aguard_true' aguard_false aguard_false' aguard_und ogF_und ogS_und ord_guard ogF_tt ogF_ft ogF_tf ogF_ff ogS_tt ogS_ff ogS_ft ogS_tf awp_block awp_loop awp_exit awp_ret awp_label awp_scope aops_nil aops_plain exec_move exec_assign exec_pick exec_alloc pick_true pick_false free_pick fpick_true fpick_false exec_box exec_build exec_buildSlice exec_load exec_store exec_nilCheck exec_binOp abinK_some exec_unOp aunK_some exec_convert conv_s exec_makeInterface exec_makeFunc exec_slice exec_fieldAddr exec_field exec_indexAddr exec_index exec_extract exec_call exec_panic call_value call_builtin alitsK_some acallB_true acallB_false callF_fn bi_len eval_tmp eval_const eval_func look_cons look_nil put_some put_none ofV_int ofV_bool ofV_float ofV_string ofV_slice ofV_ptr ofV_map ofV_agg ofV_tup lit_s box_eq box_var get_here get_here0 set_here set_here0 number_nil number_cons retK_ret retK_normal retK_panic ends1 ends2 ends3 ends0 retOne_app endsC TRun AV.lits AV.lit0 aordF_app aordS_not aordS_late ord_nil ord_free ord_solo freeK_app free_move free_assign free_build free_buildSlice free_load free_nilCheck free_binOp free_unOp free_convert free_makeInterface free_makeFunc free_slice free_fieldAddr free_field free_indexAddr free_index free_extract free_len free_call freeF_fn agives_false roundK_normal roundK_exit roundK_ret roundK_panic roundC_normal roundC_exit roundC_ret roundC_panic sub_nil sub_cons aalloc abox aiface afield aindex aextract alen abuild abuildSlice afill afillS splice Tag.calm oneV AV.forget AV.forget1 one_any dat0_any known_any cells_any forget0_any one_s dat0_s known_s cells_s forget0_s one_agg dat0_agg known_agg cells_agg forget0_agg one_tup dat0_tup known_tup cells_tup forget0_tup one_bp dat0_bp known_bp cells_bp forget0_bp one_rp dat0_rp known_rp cells_rp forget0_rp one_sl dat0_sl known_sl cells_sl forget0_sl one_fn dat0_fn known_fn cells_fn forget0_fn one_ifc dat0_ifc known_ifc cells_ifc forget0_ifc okCells_nil okCells_cons load_rpA load_rp1 loadB_some load_bpA load1_some at1_some load_bp1 storeB_some store_bp fieldAddr_bp fieldAddr_rp idxE_some index_sl index_arr nil_bp nil_rp nil_fn bi_append appB_sl appB_str aappend one_mp dat0_mp known_mp cells_mp forget0_mp exec_makeMap exec_lookup exec_mapUpdate withOk_true withOk_false exec_mapEntry exec_entryStore exec_arrAt exec_makeSlice arrAt_sl ty2 ty3 ty4 ty5 ty6 ty7 ty8 ty9 ty10 ty11 ty12 ty13 ty14 ty15 ty16 ty17 ty18 ty19 ty20 ty21 ty22 ty23 ty24 ty25 ty27 ty28 ty37 ty38 ty41 ty48 ty51 ty52 ty57 ty58 ty59 ty61 ty62 ty63 ty64 ty65 ty66 hb0 hb1 hb2 hb3 hb4 hb5 hb6 hb7 hb8 hb9 hb10 hb11 hb12 hb13 hb14 hb15 hb16 hb17 hb18 hb19 hb20 hb21 hb22 hb23 hb24 hb25 hb26 hb27 hb28 hb29 hb30 hb31 hb32 hb33 hb34
attribute [local go_sem] encB_len ordSK_not ordSK_late ordS_nil ordS_solo nthC_zero nthC_succ pickL_nil pickL_cons
set_option maxRecDepth 20000

def lerr (e : Int) : AV := .tup [.s (.slice none 0 0), .s (.int .i64 0), .s (.int .i64 e)]
theorem ln_set_self {L : List (Nat × Nat × Nat)} {id : Nat} {x : Nat × Nat × Nat} (h : L[id]? = some x) : L.set id x = L := by
  obtain ⟨hl, he⟩ := List.getElem?_eq_some_iff.1 h
  rw [← he]
  exact List.set_getElem_self hl
theorem end_err {st : AS} {e : Int} {R : AOut → AS → Prop} (hR : R (.ret (lerr e)) st) : RetForm st (.tup [.s (.slice none 0 0), .s (.int .i64 0), .s (.int .i64 e)]) st R :=
  .keep (by simp [InB_tup, InB_s]) .same (by rw [cut_same]; exact hR)
theorem end_row {st : AS} {id : Nat} {l : List UInt8} {k n : Int} {x : Nat × Nat × Nat} {R : AOut → AS → Prop} (hid : id < st.ln.length) (hR : R (.ret (.tup [.sl true (.lin id) (encB l), .s (.int .i64 k), .s (.int .i64 n)])) ⟨st.bx, st.ln.set id x⟩) :
    RetForm st (.tup [.sl true (.lin id) (encB l), .s (.int .i64 k), .s (.int .i64 n)]) ⟨st.bx, st.ln.set id x⟩ R :=
  .keep (by simp [InB_tup, InB_s, InB_lin, hid]) .same (by rw [cut_len (by simp) (by simp)]; exact hR)
theorem aapp_nil1 {e : Nat} {l : List UInt8} {B : List (List AV)} {L : List (Nat × Nat × Nat)} {K : AV → AS → Prop} (hb : l.length ≤ 140737488355328) (h : K (.sl true (.lin L.length) (encB l)) ⟨B, L ++ [(l.length, e, 1)]⟩) : aapp e 1 1 (.s (.slice none 0 0)) (encB l) ⟨B, L⟩ K := by
  refine ⟨by rw [encB_len]; omega, ?_⟩
  rw [encB_len]
  exact h
end Go.Proofs.Ytilpiclmdmnlkaa
/- From plain data to the program: what is said of every world. -/
set_option linter.unusedVariables false
namespace Go.Proofs.Ytilpiclmdmnlkaa
open Go.RowKit
/-- What is known at the beginning: every old cell of one cell. -/
def gh0 (W : World) : Gh := ⟨fun b o => match W.cell? ⟨b, o, none⟩ with | some v => if oneV v = true then some v else none | none => none, [], [], ⟨W, 0, fun _ => none⟩⟩
theorem gh0_K {W : World} {b o : Nat} {v : Value} : (gh0 W).K b o = some v ↔ W.cell? ⟨b, o, none⟩ = some v ∧ oneV v = true := by
  unfold gh0
  dsimp only
  constructor
  · intro h
    split at h
    · rename_i u hu
      split at h
      · rename_i h1
        obtain rfl := Option.some.inj h
        exact ⟨hu, h1⟩
      · cases h
    · cases h
  · rintro ⟨h1, h2⟩
    rw [h1]
    simp [h2]
theorem inv0 {W : World} (hT : WorldOk W) : Inv (gh0 W) ⟨[], []⟩ W where
  K b o v h := gh0_K.1 h
  bxlen := rfl
  bx i b cs h := by simp [gh0] at h
  bxK b h := by simp [gh0] at h
  bxnd := List.nodup_nil
  lnlen := rfl
  ln i L h := by simp [gh0] at h
  lnd i j L L' a a' h := by simp [gh0] at h
  kept := ⟨⟨Kept.refl _, Nat.zero_le _⟩, fun b o h => by cases h⟩
  ok := hT
  nf b o v h hb := absurd (World.block_lt_of_cell? W _ (gh0_K.1 h).1) (Nat.not_lt.2 hb)
theorem Gives.calls {P : Program} {f : FuncId} {args : List AV} {v : Value} {vs : List Value} {W : World} (h : Gives P f args (.s v)) (hT : WorldOk W) (ha : ASim (gh0 W) args vs) :
    Calls P f vs.toArray W fun e w' => e = .returned v ∧ Kept W w' := by
  refine (h ⟨[], []⟩ (gh0 W) W vs (inv0 hT) ha).mono ?_
  rintro e w' ⟨g', o, st', h1, h2, h3, rfl, rfl⟩
  have hk := h2.kept
  rw [h1.w0] at hk
  cases h3 with
  | ret _ x hx => cases hx; exact ⟨rfl, hk.1.1⟩
theorem asim_str {g : Gh} {s : ByteArray} {l : List AV} {vs : List Value} (h : ASim g l vs) : ASim g (.s (.string s) :: l) (.string s :: vs) := .cons (.s _ rfl) h
theorem asim_nil {g : Gh} : ASim g [] [] := .nil
end Go.Proofs.Ytilpiclmdmnlkaa
/- Laws of layer 10: same, live. -/
set_option linter.unusedVariables false
set_option linter.unusedSimpArgs false
namespace Go.Proofs.Ytilpiclmdmnlkaa
open Go.RowKit
attribute [local go_sem] normK_app aopsK_app atSt_app ofK_app stK_app extK_val panicK_app thenA_normal thenA_exit thenA_ret thenA_panic blockK_normal blockK_exit blockK_ret blockK_panic callK_ret callK_panic awp_skip awp_region awp_draw awp_seq awp_cond acond_true acond_false dstAt_zero dstAt_succ guardV_some aops_guard_eq aguard_true aguard_true' aguard_false aguard_false' aguard_und ogF_und ogS_und ord_guard ogF_tt ogF_ft ogF_tf ogF_ff ogS_tt ogS_ff ogS_ft ogS_tf awp_block awp_loop awp_exit awp_ret awp_label awp_scope aops_nil aops_plain exec_move exec_assign exec_pick exec_alloc pick_true pick_false free_pick fpick_true fpick_false exec_box exec_build exec_buildSlice exec_load exec_store exec_nilCheck exec_binOp abinK_some exec_unOp aunK_some exec_convert conv_s exec_makeInterface exec_makeFunc exec_slice exec_fieldAddr exec_field exec_indexAddr exec_index exec_extract exec_call exec_panic call_value call_builtin alitsK_some acallB_true acallB_false callF_fn bi_len eval_tmp eval_const eval_func look_cons look_nil put_some put_none ofV_int ofV_bool ofV_float ofV_string ofV_slice ofV_ptr ofV_map ofV_agg ofV_tup lit_s box_eq box_var get_here get_here0 set_here set_here0 number_nil number_cons retK_ret retK_normal retK_panic ends1 ends2 ends3 ends0 retOne_app endsC TRun AV.lits AV.lit0 aordF_app aordS_not aordS_late ord_nil ord_free ord_solo freeK_app free_move free_assign free_build free_buildSlice free_load free_nilCheck free_binOp free_unOp free_convert free_makeInterface free_makeFunc free_slice free_fieldAddr free_field free_indexAddr free_index free_extract free_len free_call freeF_fn agives_false roundK_normal roundK_exit roundK_ret roundK_panic roundC_normal roundC_exit roundC_ret roundC_panic sub_nil sub_cons aalloc abox aiface afield aindex aextract alen abuild abuildSlice afill afillS splice Tag.calm oneV AV.forget AV.forget1 one_any dat0_any known_any cells_any forget0_any one_s dat0_s known_s cells_s forget0_s one_agg dat0_agg known_agg cells_agg forget0_agg one_tup dat0_tup known_tup cells_tup forget0_tup one_bp dat0_bp known_bp cells_bp forget0_bp one_rp dat0_rp known_rp cells_rp forget0_rp one_sl dat0_sl known_sl cells_sl forget0_sl one_fn dat0_fn known_fn cells_fn forget0_fn one_ifc dat0_ifc known_ifc cells_ifc forget0_ifc okCells_nil okCells_cons load_rpA load_rp1 loadB_some load_bpA load1_some at1_some load_bp1 storeB_some store_bp fieldAddr_bp fieldAddr_rp idxE_some index_sl index_arr nil_bp nil_rp nil_fn bi_append appB_sl appB_str aappend one_mp dat0_mp known_mp cells_mp forget0_mp exec_makeMap exec_lookup exec_mapUpdate withOk_true withOk_false exec_mapEntry exec_entryStore exec_arrAt exec_makeSlice arrAt_sl ty2 ty3 ty4 ty5 ty6 ty7 ty8 ty9 ty10 ty11 ty12 ty13 ty14 ty15 ty16 ty17 ty18 ty19 ty20 ty21 ty22 ty23 ty24 ty25 ty27 ty28 ty37 ty38 ty41 ty48 ty51 ty52 ty57 ty58 ty59 ty61 ty62 ty63 ty64 ty65 ty66 hb0 hb1 hb2 hb3 hb4 hb5 hb6 hb7 hb8 hb9 hb10 hb11 hb12 hb13 hb14 hb15 hb16 hb17 hb18 hb19 hb20 hb21 hb22 hb23 hb24 hb25 hb26 hb27 hb28 hb29 hb30 hb31 hb32 hb33 hb34
attribute [local go_sem] encB_len
set_option maxRecDepth 20000
theorem s_bool10 {b c : Bool} (h : b = c) : AV.forget (.s (.bool b)) = .s (.bool c) := by subst h; rfl
theorem encB_at10 {l : List UInt8} {k : Nat} {b : UInt8} (h : l[k]? = some b) : ∀ h', (encB l)[k]'h' = [.s (.int .u8 (b.toNat : Int))] := fun h' => by
  obtain ⟨hl, rfl⟩ := List.getElem?_eq_some_iff.1 h
  simp [encB]
set_option maxHeartbeats 1000000 in
theorem g_same10 (a b : List UInt8) (oa ob : Bool) : Gives Try.prog 7 [.sl oa .none (encB a), .sl ob .none (encB b)] (.s (.bool (decide (a = b)))) := by
  intro st
  refine bound_sl 0 rfl fun hb => ?_
  rw [encB_len] at hb
  refine enter Try.func7 rfl Try.ntmps7 Try.results7 (by simp) ?_
  go_simp
  refine part (fun h => ?_) (fun h => ?_) <;> go_simp
  · refine end_pure0 (s_bool10 ?_) (.s _)
    symm
    rw [decide_eq_false_iff_not]
    rintro rfl
    simp at h
  have hlen : a.length = b.length := by simp at h; omega
  have HL := Lib.hid hlen
  clear h hlen
  refine loop_cut (σ := {k : Nat // k ≤ a.length ∧ a.take k = b.take k})
    (fun s => ⟨26, [(5, .s (.int .i64 s.1)), (1, .sl ob .none (encB b)), (0, .sl oa .none (encB a))]⟩) (fun _ => st) (fun s => a.length - s.1) ⟨0, Nat.zero_le _, rfl⟩ (by go_simp) rfl ?_
  rintro ⟨k, hk, HE⟩
  have HE := Lib.hid HE
  simp only []
  by_cases hlt : k < a.length
  · have i1 : decide ((k : Int) < (a.length : Int)) = true := by simpa using hlt
    have hkb : k < b.length := by have := HL.out; omega
    have hx : a[k]? = some a[k] := List.getElem?_eq_getElem hlt
    have hy : b[k]? = some b[k] := List.getElem?_eq_getElem _
    obtain ⟨x, hxe⟩ : ∃ x, x = a[k] := ⟨_, rfl⟩
    obtain ⟨y, hye⟩ : ∃ y, y = b[k] := ⟨_, rfl⟩
    rw [← hxe] at hx
    rw [← hye] at hy
    clear hxe hye
    have hw : IntKind.i64.wrap ((k : Int) + 1) = (k : Int) + 1 := IntWalk.i64_in _ (by omega)
    have gx := encB_at10 hx
    have gy := encB_at10 hy
    have HX := Lib.hid hx
    have HY := Lib.hid hy
    clear hx hy
    go_simp
    refine draw [(true, false), (true, false), (true, false), (true, false), (true, false), (false, false), (false, false), (false, false), (false, false)] (by kernel_rfl) (by kernel_rfl) ?_
    go_simp
    refine part (fun h => ?_) (fun h => ?_) <;> go_simp
    · refine end_pure0 (s_bool10 ?_) (.s _)
      symm
      rw [decide_eq_false_iff_not]
      rintro rfl
      have e1 := HX.out
      rw [HY.out] at e1
      obtain rfl := Option.some.inj e1
      simp at h
    · have hxy : x = y := UInt8.toNat_inj.1 (by simp at h; omega)
      refine ⟨⟨k + 1, by omega, ?_⟩, by go_simp, cut_same.symm, by show a.length - (k + 1) < a.length - k; omega, .same, by simp [InB_s, InB_none]⟩
      rw [List.take_add_one, List.take_add_one, HE.out, HX.out, HY.out, hxy]
  · have i1 : decide ((k : Int) < (a.length : Int)) = false := by simpa using hlt
    go_simp
    refine end_pure0 (s_bool10 ?_) (.s _)
    symm
    rw [decide_eq_true_eq]
    have h1 := HE.out
    rwa [List.take_of_length_le (by omega), List.take_of_length_le (by have := HL.out; omega)] at h1
/-- What no box and no row is asked of is answered in every store. -/
theorem Gives.of_empty {P : Program} {f : FuncId} {c : Value} (hc : oneV c = true) (h : DoesCall P f [] ⟨[], []⟩ fun o st' => o = .ret (.s c)) : Gives P f [] (.s c) := fun st => .of_kept fun g w vs hi ha => by
  cases ha
  have hi0 : Inv ⟨g.K, [], [], ⟨w, 0, fun _ => none⟩⟩ ⟨[], []⟩ w :=
    ⟨hi.K, rfl, fun i b cs h => by simp at h, fun b h => by simp at h, List.nodup_nil, rfl, fun i L h => by simp at h, fun i j L L' a a' h => by simp at h, ⟨⟨Kept.refl _, Nat.zero_le _⟩, fun b o h => by cases h⟩, hi.ok.kept hi.kept.1.1, fun b o v h hb => absurd (World.block_lt_of_cell? w _ (hi.K b o v h).1) (Nat.not_lt.2 hb)⟩
  refine (h _ w [] hi0 .nil).mono ?_
  rintro e w' ⟨g', o, st', h1, h2, h3, rfl⟩
  have hk := h2.kept
  rw [h1.w0] at hk
  cases h3 with
  | ret _ x hx =>
    cases hx
    exact ⟨_, .ret _ _ (.s c hc), ⟨rfl, rfl⟩, hk.1.1⟩
theorem conv_mark {P : Program} {s e bs s1 s3 sz : Nat} {a1 a3 : Bool} {z1 z3 : AV} {tag : Tag} {es : List (List AV)} {K : AV → Prop} (h1 : tyOf P s = some ⟨s1, a1, z1, .slice e sz bs⟩) (h3 : tyOf P e = some ⟨s3, a3, z3, .int .u8⟩)
    (hne : es.flatten ≠ []) (h : K (.sl true .none es)) : aconv P s s (.sl true tag es) [] K := by
  simp only [aconv, h1, h3]
  exact ⟨trivial, trivial, trivial, hne, h⟩
set_option maxHeartbeats 4000000 in
theorem g_live10 : Gives Try.prog 6 [] (.s (.bool true)) := by
  refine .of_empty rfl ?_
  have c1 := g_Unpack [1, 2, 97, 11, 1] true
  have c2 := g_Unpack [2] true
  have c3 := g_Pack [97, 98, 99] true
  have c4 := g_Unpack (pack [97, 98, 99]).1 true
  rw [show unp [1, 2, 97, 11, 1] = ([97, 97, 97, 97, 97, 97], 0) by kernel_rfl] at c1
  rw [show unp [2] = ([], 5) by kernel_rfl] at c2
  rw [(pack_back (b := [97, 98, 99]) (by decide)).2.1] at c4
  have hp1 := (pack_back (b := [97, 98, 99]) (by decide)).1
  have hp2 := (pack_back (b := [97, 98, 99]) (by decide)).2.2
  have c5 := (g_same10 [97, 97, 97, 97, 97, 97] [97, 97, 97, 97, 97, 97] true true)
  have c6 := (g_same10 [97, 98, 99] [97, 98, 99] true true)
  rw [show decide (([97, 97, 97, 97, 97, 97] : List UInt8) = [97, 97, 97, 97, 97, 97]) = true by decide] at c5
  rw [show decide (([97, 98, 99] : List UInt8) = [97, 98, 99]) = true by decide] at c6
  unfold tupB at c1 c2 c3 c4
  dsimp only at c1 c2 c3 c4
  generalize pack [97, 98, 99] = q at *
  obtain ⟨q1, q2⟩ := q
  dsimp only at hp1 hp2 c3 c4
  subst hp1
  have hp3 : decide ((q1.length : Int) ≤ 4) = true := by rw [decide_eq_true_eq]; simp at hp2; omega
  have w1 : Wk (.sl true .full [[.s (.int .u8 1)], [.s (.int .u8 2)], [.s (.int .u8 97)], [.s (.int .u8 11)], [.s (.int .u8 1)]]) (.sl true .none (encB [1, 2, 97, 11, 1])) := fun g x h => forget0_sim h
  have w2 : Wk (.sl true .full [[.s (.int .u8 2)]]) (.sl true .none (encB [2])) := fun g x h => forget0_sim h
  have C1 := Lib.hid (c1.weak (args := [_]) ⟨w1, trivial⟩)
  have C2 := Lib.hid (c2.weak (args := [_]) ⟨w2, trivial⟩)
  have C3 := Lib.hid c3
  have C4 := Lib.hid c4
  have C5 := Lib.hid c5
  have C6 := Lib.hid c6
  clear c1 c2 c3 c4 c5 c6 w1 w2 hp2
  have e1 : [[AV.s (.int .u8 97)], [AV.s (.int .u8 98)], [AV.s (.int .u8 99)]] = encB [97, 98, 99] := rfl
  have e2 : [[AV.s (.int .u8 97)], [AV.s (.int .u8 97)], [AV.s (.int .u8 97)], [AV.s (.int .u8 97)], [AV.s (.int .u8 97)], [AV.s (.int .u8 97)]] = encB [97, 97, 97, 97, 97, 97] := rfl
  have E1 := Lib.hid e1
  have E2 := Lib.hid e2
  clear e1 e2
  refine enter Try.func6 rfl Try.ntmps6 Try.results6 (by simp) ?_
  go_simp
  refine (C1.out _).mono ?_
  rintro o2 st2 ⟨rfl, rfl⟩
  go_simp
  refine (C2.out _).mono ?_
  rintro o2 st2 ⟨rfl, rfl⟩
  go_simp
  refine conv_mark ty23 ty5 (by simp) ?_
  rw [E1.out]
  go_simp
  refine (C3.out _).mono ?_
  rintro o2 st2 ⟨rfl, rfl⟩
  go_simp
  refine (C4.out _).mono ?_
  rintro o2 st2 ⟨rfl, rfl⟩
  go_simp
  refine conv_mark ty23 ty5 (by simp) ?_
  rw [E2.out]
  go_simp
  refine (C5.out _).mono ?_
  rintro o2 st2 ⟨rfl, rfl⟩
  go_simp
  refine conv_mark ty23 ty5 (by simp) ?_
  rw [E1.out]
  go_simp
  refine (C6.out _).mono ?_
  rintro o2 st2 ⟨rfl, rfl⟩
  go_simp
  exact .asis rfl
end Go.Proofs.Ytilpiclmdmnlkaa
/- Laws of layer 10: numbers, packs, back. -/
set_option linter.unusedVariables false
set_option linter.unusedSimpArgs false
namespace Go.Proofs.Ytilpiclmdmnlkaa
open Go.RowKit
attribute [local go_sem] normK_app aopsK_app atSt_app ofK_app stK_app extK_val panicK_app thenA_normal thenA_exit thenA_ret thenA_panic blockK_normal blockK_exit blockK_ret blockK_panic callK_ret callK_panic awp_skip awp_region awp_draw awp_seq awp_cond acond_true acond_false dstAt_zero dstAt_succ guardV_some aops_guard_eq aguard_true aguard_true' aguard_false aguard_false' aguard_und ogF_und ogS_und ord_guard ogF_tt ogF_ft ogF_tf ogF_ff ogS_tt ogS_ff ogS_ft ogS_tf awp_block awp_loop awp_exit awp_ret awp_label awp_scope aops_nil aops_plain exec_move exec_assign exec_pick exec_alloc pick_true pick_false free_pick fpick_true fpick_false exec_box exec_build exec_buildSlice exec_load exec_store exec_nilCheck exec_binOp abinK_some exec_unOp aunK_some exec_convert conv_s exec_makeInterface exec_makeFunc exec_slice exec_fieldAddr exec_field exec_indexAddr exec_index exec_extract exec_call exec_panic call_value call_builtin alitsK_some acallB_true acallB_false callF_fn bi_len eval_tmp eval_const eval_func look_cons look_nil put_some put_none ofV_int ofV_bool ofV_float ofV_string ofV_slice ofV_ptr ofV_map ofV_agg ofV_tup lit_s box_eq box_var get_here get_here0 set_here set_here0 number_nil number_cons retK_ret retK_normal retK_panic ends1 ends2 ends3 ends0 retOne_app endsC TRun AV.lits AV.lit0 aordF_app aordS_not aordS_late ord_nil ord_free ord_solo freeK_app free_move free_assign free_build free_buildSlice free_load free_nilCheck free_binOp free_unOp free_convert free_makeInterface free_makeFunc free_slice free_fieldAddr free_field free_indexAddr free_index free_extract free_len free_call freeF_fn agives_false roundK_normal roundK_exit roundK_ret roundK_panic roundC_normal roundC_exit roundC_ret roundC_panic sub_nil sub_cons aalloc abox aiface afield aindex aextract alen abuild abuildSlice afill afillS splice Tag.calm oneV AV.forget AV.forget1 one_any dat0_any known_any cells_any forget0_any one_s dat0_s known_s cells_s forget0_s one_agg dat0_agg known_agg cells_agg forget0_agg one_tup dat0_tup known_tup cells_tup forget0_tup one_bp dat0_bp known_bp cells_bp forget0_bp one_rp dat0_rp known_rp cells_rp forget0_rp one_sl dat0_sl known_sl cells_sl forget0_sl one_fn dat0_fn known_fn cells_fn forget0_fn one_ifc dat0_ifc known_ifc cells_ifc forget0_ifc okCells_nil okCells_cons load_rpA load_rp1 loadB_some load_bpA load1_some at1_some load_bp1 storeB_some store_bp fieldAddr_bp fieldAddr_rp idxE_some index_sl index_arr nil_bp nil_rp nil_fn bi_append appB_sl appB_str aappend one_mp dat0_mp known_mp cells_mp forget0_mp exec_makeMap exec_lookup exec_mapUpdate withOk_true withOk_false exec_mapEntry exec_entryStore exec_arrAt exec_makeSlice arrAt_sl ty2 ty3 ty4 ty5 ty6 ty7 ty8 ty9 ty10 ty11 ty12 ty13 ty14 ty15 ty16 ty17 ty18 ty19 ty20 ty21 ty22 ty23 ty24 ty25 ty27 ty28 ty37 ty38 ty41 ty48 ty51 ty52 ty57 ty58 ty59 ty61 ty62 ty63 ty64 ty65 ty66 hb0 hb1 hb2 hb3 hb4 hb5 hb6 hb7 hb8 hb9 hb10 hb11 hb12 hb13 hb14 hb15 hb16 hb17 hb18 hb19 hb20 hb21 hb22 hb23 hb24 hb25 hb26 hb27 hb28 hb29 hb30 hb31 hb32 hb33 hb34
attribute [local go_sem] encB_len
set_option maxRecDepth 20000
theorem zeros (n : Nat) : List.replicate n [AV.s (.int .u8 0)] = encB (List.replicate n 0) := by
  unfold encB
  rw [List.map_replicate]
  rfl
/-- make([]byte, n). -/
theorem mk_bytes {n : Nat} {k1 k2 : IntKind} {K : AV → Prop} (hn : n ≤ 65536) (h : K (.sl true .full (encB (List.replicate n 0)))) : amakeSlice Try.prog 23 (.s (.int k1 (n : Int))) (.s (.int k2 (n : Int))) K := by
  simp only [amakeSlice, ty23, ty5]
  refine ⟨rfl, rfl, rfl, by decide, by omega, trivial, by omega, by omega, ?_⟩
  rw [Int.toNat_natCast]
  have e : AV.cells (.s (.int .u8 0)) = [.s (.int .u8 0)] := rfl
  rw [e, zeros]
  exact h
end Go.Proofs.Ytilpiclmdmnlkaa
/- From a row's data to plain data: scalars, slices and structs that came in. No program beside the given type facts. -/
set_option linter.unusedVariables false
set_option linter.unusedSimpArgs false
namespace Go.Proofs.Ytilpiclmdmnlkaa
open Go.ChangeShapes Go.WideShapes Go.ChangeAt Go.RowKit
section
variable {H : Type} {enc : TypeId × Value → H} {W : World} {P : Program}
/-- Every weight in it is within the form's reach. -/
def Light (P : Program) (t : TypeId) (d : DataW H) : Prop := ∀ n ∈ d.weights P t, n ≤ reachBytes
theorem light_at {ts : List TypeId} {ds : List (DataW H)} (h : (DataW.weightsEach P ts ds).all (· ≤ reachBytes) = true) {j : Nat} {t : TypeId} {d : DataW H} (ht : ts[j]? = some t) (hd : ds[j]? = some d) : Light P t d := fun n hn => by
  have := List.all_eq_true.1 h _ (DataW.weights_mem_each ht hd n hn)
  simpa using this
theorem weightsAll_mem {e : TypeId} : ∀ {l : List (DataW H)} {d : DataW H}, d ∈ l → ∀ n ∈ d.weights P e, n ∈ DataW.weightsAll P e l
  | x :: l, d, h, n, hn => by
    simp only [DataW.weightsAll, List.mem_append]
    rcases List.mem_cons.1 h with rfl | h
    · exact .inl hn
    · exact .inr (weightsAll_mem h n hn)
  | [], _, h, _, _ => by cases h
theorem Light.field {t : TypeId} {fs : Array Field} {ds : List (DataW H)} (hu : P.underlying t = some (.struct fs)) (h : Light P t (.agg ds)) {j : Nat} {f : Field} {d : DataW H} (hf : fs[j]? = some f) (hd : ds[j]? = some d) : Light P f.type d := fun n hn => by
  refine h n ?_
  simp only [DataW.weights, hu]
  exact DataW.weights_mem_each (j := j) (by simp [hf]) hd n hn
theorem Light.elem {t e : TypeId} {es sp : List (DataW H)} (hu : P.underlying t = some (.slice e)) (h : Light P t (.slice es sp)) {d : DataW H} (hd : d ∈ es) : Light P e d := fun n hn => by
  refine h n ?_
  simp only [DataW.weights, hu, List.mem_cons, List.mem_append]
  exact .inr (.inl (weightsAll_mem hd n hn))
theorem Light.len {t e : TypeId} {es sp : List (DataW H)} (hu : P.underlying t = some (.slice e)) (h : Light P t (.slice es sp)) : es.length * P.bytesOf e ≤ 140737488351232 := by
  have := h ((es.length + sp.length) * P.bytesOf e) (by simp [DataW.weights, hu])
  have h2 : es.length * P.bytesOf e ≤ (es.length + sp.length) * P.bytesOf e := Nat.mul_le_mul_right _ (by omega)
  have h3 : reachBytes = 140737488351232 := rfl
  omega

/-- Cells that read as plain data, in a world at the beginning. -/
def Reads (W : World) (l : List AV) (cs : List Value) : Prop := cs.length = l.length ∧ ∀ (i : Nat) x, l[i]? = some x → x.one = true ∧ x.dat0 = true ∧ oneV (cs.getD i undef) = true ∧ VSim (gh0 W) x (cs.getD i undef)
theorem Reads.nil : Reads W [] [] := ⟨rfl, fun i x h => by simp at h⟩
theorem Reads.app {l m : List AV} {cs ds : List Value} (h : Reads W l cs) (h' : Reads W m ds) : Reads W (l ++ m) (cs ++ ds) := by
  refine ⟨by simp [h.1, h'.1], fun i x hx => ?_⟩
  rcases Nat.lt_or_ge i l.length with hi | hi
  · rw [List.getElem?_append_left hi] at hx
    have := h.2 i x hx
    rwa [List.getD_eq_getElem?_getD, List.getElem?_append_left (by rw [h.1]; exact hi), ← List.getD_eq_getElem?_getD]
  · rw [List.getElem?_append_right hi] at hx
    have := h'.2 _ x hx
    rwa [List.getD_eq_getElem?_getD, List.getElem?_append_right (by rw [h.1]; exact hi), h.1, ← List.getD_eq_getElem?_getD]
theorem Reads.s {v : Value} (h : oneV v = true) (hd : AV.dat0 (.s v) = true) : Reads W [.s v] [v] := ⟨rfl, fun i x hx => by
  cases i with
  | zero =>
    obtain rfl : AV.s v = x := by simpa using hx
    exact ⟨h, hd, h, .s v h⟩
  | succ i => simp at hx⟩
theorem Reads.agg {l : List AV} {cs : List Value} (h : Reads W l cs) : VSim (gh0 W) (.agg l) (.agg cs.toArray) :=
  .agg l _ (by simp [h.1]) (fun i x hx => (h.2 i x hx).1) (fun i x hx => by
    have := (h.2 i x hx).2.2.2
    rwa [show cs.toArray.getD i undef = cs.getD i undef by simp [Array.getD_eq_getD_getElem?]])
theorem Reads.one {x : AV} {v : Value} (h : Reads W [x] [v]) : VSim (gh0 W) x v := (h.2 0 x rfl).2.2.2

theorem trod_float' {w : World} {base : Nat} {sp : Nat → Bool} {held : Bool} {fuel : Nat} {t : TypeId} {k : FloatKind} {cs : List Value} {x : DataW H × List MemPlace} (ht : P.underlying t = some (.float k)) (h : DataW.trod enc P w base sp held fuel t cs = some x) : ∃ b, cs = [.float k b] ∧ x = (.lit (.float k b), []) ∧ (Lit.float k b).wf = true := by
  cases fuel with
  | zero => simp [DataW.trod] at h
  | succ n =>
    unfold DataW.trod at h
    rw [ht] at h
    split at h <;> simp_all
theorem trod_bool' {w : World} {base : Nat} {sp : Nat → Bool} {held : Bool} {fuel : Nat} {t : TypeId} {cs : List Value} {x : DataW H × List MemPlace} (ht : P.underlying t = some .bool) (h : DataW.trod enc P w base sp held fuel t cs = some x) : ∃ b, cs = [.bool b] ∧ x = (.lit (.bool b), []) := by
  cases fuel with
  | zero => simp [DataW.trod] at h
  | succ n =>
    unfold DataW.trod at h
    rw [ht] at h
    split at h <;> simp_all
theorem addr_add (a : Addr) (m k : Nat) : (a.add m).add k = a.add (m + k) := by
  by_cases hm : m = 0
  · subst hm
    simp [Addr.add]
  · by_cases hk : k = 0
    · subst hk
      simp [Addr.add, hm]
    · simp [Addr.add, hm, hk, Nat.add_assoc]
theorem addr_none {a : Addr} (h : a.spot = none) {j : Nat} : (⟨a.block, a.off + j, none⟩ : Addr) = a.add j := by
  unfold Addr.add
  split
  · rename_i h0
    subst h0
    cases a
    cases h
    rfl
  · rfl
/-- A slice that came in: a list of what its elements are. -/
theorem open_slice_gen {α : Type} (E : α → List AV) (Good : α → Prop) {sz : Nat} {t e : TypeId} {n : Nat} {cs : List Value} {y : DataW H × List MemPlace} (ht : P.underlying t = some (.slice e)) (hs : P.cellsOf e = sz) (h0 : 0 < sz) (hby : 0 < P.bytesOf e) (hE : ∀ x, (E x).length = sz)
    (ih : ∀ m cs' y', m < n → DataW.trod enc P W 0 (fun _ => true) true m e cs' = some y' → Light P e y'.1 → ∃ x, Good x ∧ Reads W (E x) cs')
    (h : DataW.trod enc P W 0 (fun _ => true) true n t cs = some y) (hl : Light P t y.1) :
    ∃ l : List α, (∀ x ∈ l, Good x) ∧ l.length * P.bytesOf e ≤ 140737488351232 ∧ l.length ≤ 140737488355328 ∧ Reads W [.sl false .none (l.map E)] cs := by
  rcases DataW.trod_slice ht h with ⟨rfl, rfl⟩ | ⟨a, len, cap, elems, rest, m, hn, rfl, rfl, hb, hlc, hm, hlen, hel, hsp, hns⟩
  · refine ⟨[], by simp, by simp, by simp, rfl, fun i x hx => ?_⟩
    cases i with
    | zero =>
      obtain rfl : AV.sl false .none [] = x := by simpa using hx
      exact ⟨rfl, rfl, rfl, .sl false .none [] none 0 0 (fun _ => undef) (Nat.le_refl _) (Nat.zero_le _) (fun e he => by cases he) (fun j x hx => by simp at hx) (fun h => absurd rfl h) (fun j x hx => by simp at hx) trivial⟩
    | succ i => simp at hx
  · have each : ∀ i, i < len → ∃ x : α, ∃ cs', Good x ∧ W.cells? 0 (a.add (i * sz)) sz = some cs' ∧ Reads W (E x) cs' := by
      intro i hi
      have hx : elems[i]? = some elems[i] := List.getElem?_eq_getElem (by omega)
      have := hel i hi
      rw [hx, hs, Option.bind_eq_some_iff] at this
      obtain ⟨cs', q1, q2⟩ := this
      obtain ⟨x, r1, r2⟩ := ih m cs' _ (by omega) q2 (hl.elem ht (by
        simp only [List.mem_map]
        exact ⟨_, List.getElem_mem (by omega), rfl⟩))
      exact ⟨x, cs', r1, q1, r2⟩
    obtain ⟨l, hll, hlx⟩ : ∃ l : List α, l.length = len ∧ ∀ (i : Nat) x, l[i]? = some x → Good x ∧ ∃ cs', W.cells? 0 (a.add (i * sz)) sz = some cs' ∧ Reads W (E x) cs' := by
      clear hel hl h hsp hns ih hlen hlc
      induction len with
      | zero => exact ⟨[], rfl, fun i x hx => by simp at hx⟩
      | succ k ihk =>
        obtain ⟨l, q1, q2⟩ := ihk (fun i hi => each i (by omega))
        obtain ⟨x, cs', r1, r2, r3⟩ := each k (by omega)
        refine ⟨l ++ [x], by simp [q1], fun i z hz => ?_⟩
        rcases Nat.lt_or_ge i l.length with hi | hi
        · rw [List.getElem?_append_left hi] at hz
          exact q2 i z hz
        · rw [List.getElem?_append_right hi] at hz
          have h0 : i - l.length = 0 := by
            rcases Nat.eq_zero_or_pos (i - l.length) with h | h
            · exact h
            · obtain ⟨j, hj⟩ : ∃ j, i - l.length = j + 1 := ⟨i - l.length - 1, by omega⟩
              rw [hj] at hz; simp at hz
          rw [h0] at hz
          obtain rfl : x = z := by simpa using hz
          obtain rfl : i = k := by omega
          exact ⟨r1, cs', r2, r3⟩
    have hlb := hl.len ht
    rw [List.length_map, hlen] at hlb
    have hlen2 : len ≤ 140737488355328 := by
      have : len * 1 ≤ len * P.bytesOf e := Nat.mul_le_mul_left _ hby
      omega
    refine ⟨l, fun x hx => by obtain ⟨i, hi⟩ := List.getElem?_of_mem hx; exact (hlx i x hi).1, by rw [hll]; exact hlb, by omega, rfl, fun i x hx => ?_⟩
    cases i with
    | succ i => simp at hx
    | zero =>
      obtain rfl : AV.sl false .none (l.map E) = x := by simpa using hx
      have flat : ∀ (j : Nat) (x : AV), (l.map E).flatten[j]? = some x → x.one = true ∧ x.dat0 = true ∧ ∃ v, W.cell? (a.add j) = some v ∧ oneV v = true ∧ VSim (gh0 W) x v := by
        intro j x hj
        have hfl : ∀ (l : List α) (j : Nat), (l.map E).flatten[j]? = (l[j / sz]?).bind fun z => (E z)[j % sz]? := by
          intro l
          induction l with
          | nil => intro j; simp
          | cons z l ih2 =>
            intro j
            simp only [List.map_cons, List.flatten_cons]
            rcases Nat.lt_or_ge j sz with hj | hj
            · rw [List.getElem?_append_left (by rw [hE]; exact hj), Nat.div_eq_of_lt hj, Nat.mod_eq_of_lt hj]
              rfl
            · rw [List.getElem?_append_right (by rw [hE]; exact hj), hE, ih2]
              obtain ⟨k, rfl⟩ : ∃ k, j = k + sz := ⟨j - sz, by omega⟩
              rw [Nat.add_sub_cancel, Nat.add_div_right _ h0, Nat.add_mod_right]
              rfl
        rw [hfl, Option.bind_eq_some_iff] at hj
        obtain ⟨z, hz, hx⟩ := hj
        obtain ⟨_, cs', c1, c2⟩ := hlx _ _ hz
        obtain ⟨d1, d2, d3⟩ := World.cells?_some c1
        have hlt : j % sz < sz := Nat.mod_lt _ h0
        obtain ⟨e1, e2, e3, e4⟩ := c2.2 _ _ hx
        have d4 := d3 _ hlt
        have hlt' : j % sz < cs'.length := by omega
        rw [List.getElem?_eq_getElem hlt'] at d4
        rw [List.getD_eq_getElem?_getD, List.getElem?_eq_getElem hlt'] at e3 e4
        simp only [Option.getD_some] at e3 e4
        refine ⟨e1, e2, _, ?_, e3, e4⟩
        have e0 := Nat.div_add_mod j sz
        rw [Nat.mul_comm] at e0
        rw [← d4, addr_add, e0]
      have hvs : ∃ vs : Nat → Value, ∀ (j : Nat) x, (l.map E).flatten[j]? = some x → W.cell? (a.add j) = some (vs j) ∧ oneV (vs j) = true ∧ VSim (gh0 W) x (vs j) := by
        refine ⟨fun j => (W.cell? (a.add j)).getD undef, fun j x hx => ?_⟩
        obtain ⟨_, _, v, q1, q2, q3⟩ := flat j x hx
        simp only [q1]
        exact ⟨rfl, q2, q3⟩
      obtain ⟨vs, hvs⟩ := hvs
      have hml : len = (l.map E).length := by simp [hll]
      refine ⟨rfl, rfl, rfl, ?_⟩
      show VSim (gh0 W) _ (.slice (some a) len cap)
      rw [hml]
      refine .sl false .none (l.map E) (some a) cap sz vs (by simp [hll, hlc]) (by simp [hll]; omega) (fun e he => by obtain ⟨z, _, rfl⟩ := List.mem_map.1 he; exact hE z) (fun j x hx => ⟨(flat j x hx).1, (flat j x hx).2.1⟩) (fun hne => ?_) (fun j x hx => (hvs j x hx).2.2) trivial
      obtain ⟨x, hx⟩ : ∃ x, (l.map E).flatten[0]? = some x := by
        cases hf : (l.map E).flatten with
        | nil => exact absurd hf hne
        | cons x r => exact ⟨x, rfl⟩
      have hsp : a.spot = none := by
        have := (hvs 0 x hx).1
        unfold World.cell? at this
        split at this
        · cases hq : a.spot with
          | none => rfl
          | some s => simp [Addr.add, hq] at this
        · cases this
      refine ⟨a.block, a.off, by cases a; cases hsp; rfl, fun h => (by cases h), fun j x hx => ?_⟩
      obtain ⟨q1, q2, q3⟩ := hvs j x hx
      rw [gh0_K]
      refine ⟨?_, q2⟩
      rw [← q1]
      congr 1
      exact addr_none hsp
end
end Go.Proofs.Ytilpiclmdmnlkaa
/- The arguments of layer 10's laws, in plain data. -/
set_option linter.unusedVariables false
set_option linter.unusedSimpArgs false
namespace Go.Proofs.Ytilpiclmdmnlkaa
open Go.ChangeShapes Go.WideShapes Go.ChangeAt Go.RowKit
section
variable {H : Type} {enc : TypeId × Value → H} {W : World}
theorem open_byte10 {m : Nat} {cs : List Value} {y : DataW H × List MemPlace} (h : DataW.trod enc Try.prog W 0 (fun _ => true) true m 5 cs = some y) : ∃ c : UInt8, True ∧ Reads W [.s (.int .u8 c.toNat)] cs := by
  obtain ⟨k, e0, _, w0⟩ := DataW.trod_int Try.underlying5 h
  subst e0
  have hk : 0 ≤ k ∧ k < 256 := by
    simp [Lit.wf, IntKind.min, IntKind.max, IntKind.signed, IntKind.bits] at w0
    omega
  refine ⟨UInt8.ofNat k.toNat, trivial, ?_⟩
  have : ((UInt8.ofNat k.toNat).toNat : Int) = k := by simp; omega
  rw [this]
  exact .s rfl rfl
theorem open_byteS10 {A : Option Addr} {len cap : Nat} {d : DataW H} {p : List MemPlace} (h : DataW.Trod enc Try.prog W 0 (fun _ => true) true 23 (.slice A len cap) d p) (hl : Light Try.prog 23 d) : ∃ l : List UInt8, l.length ≤ 140737488351232 ∧ VSim (gh0 W) (.sl false .none (encB l)) (.slice A len cap) := by
  obtain ⟨n, hn⟩ := h
  obtain ⟨l, _, q2, _, q3⟩ := open_slice_gen (fun c : UInt8 => [AV.s (.int .u8 c.toNat)]) (fun _ => True) Try.underlying23 (by kernel_rfl : Try.prog.cellsOf 5 = 1) (by decide) (by rw [show Try.prog.bytesOf 5 = 1 by kernel_rfl]; decide) (fun _ => rfl)
    (fun m' cs' y' hm h' hl' => open_byte10 h') hn hl
  rw [show Try.prog.bytesOf 5 = 1 by kernel_rfl] at q2
  exact ⟨l, by omega, Reads.one q3⟩
end
end Go.Proofs.Ytilpiclmdmnlkaa
/- Tokens that are laid down one behind the other are taken back into what they say. No program. -/
set_option linter.unusedVariables false
namespace Go.Proofs.Ytilpiclmdmnlkaa
/-- A token: bytes as they are, or, if n is not 0, so many from so far back. -/
structure Tok where
  b : List UInt8
  n : Int
  back : Int
def Tok.again (t : Tok) (w : Nat) : Prop := 4 ≤ t.n ∧ t.n ≤ 255 ∧ 1 ≤ t.back ∧ t.back ≤ 1024 ∧ t.back ≤ w ∧ t.n + w ≤ 2048
instance (t : Tok) (w : Nat) : Decidable (t.again w) := by unfold Tok.again; infer_instance
/-- What one token adds: to the bytes laid down, to what they say. -/
def Tok.lay (s : List UInt8 × List UInt8) (t : Tok) : List UInt8 × List UInt8 :=
  if t.n = 0 then
    if t.b.length = 0 ∨ 2048 < t.b.length + s.2.length then s else (s.1 ++ (put (2 * t.b.length) ++ t.b), s.2 ++ t.b)
  else if t.again s.2.length then (s.1 ++ (put (2 * t.n.toNat + 1) ++ put t.back.toNat), rep s.2 t.back.toNat t.n.toNat) else s
def laid (l : List Tok) : List UInt8 × List UInt8 := l.foldl Tok.lay ([1], [])
structure Lays (s : List UInt8 × List UInt8) : Prop where
  one : s.1[0]? = some 1
  tks : ∀ R, Tks (s.1 ++ R) 1 [] s.1.length s.2
  len : s.2.length ≤ 2048
  plen : s.1.length ≤ 1 + 12 * s.2.length
theorem Lays.start : Lays ([1], []) := ⟨rfl, fun R => .nil _ _, Nat.zero_le _, Nat.le_refl _⟩
theorem Lays.lay {s : List UInt8 × List UInt8} (h : Lays s) (t : Tok) : Lays (t.lay s) := by
  obtain ⟨p, w⟩ := s
  obtain ⟨h0, h1, h2, h3⟩ := h
  dsimp only at h0 h1 h2 h3
  unfold Tok.lay
  dsimp only
  split
  · split
    · exact ⟨h0, h1, h2, h3⟩
    · rename_i hn
      have b1 : 0 < t.b.length := by omega
      have b2 : w.length + t.b.length ≤ 2048 := by omega
      have hl : (p ++ (put (2 * t.b.length) ++ t.b)).length = p.length + (put (2 * t.b.length)).length + t.b.length := by
        rw [List.length_append, List.length_append]; omega
      have hp := put_two (n := 2 * t.b.length) (by omega)
      have hpos := put_pos (2 * t.b.length)
      refine ⟨get0_app h0, fun R => ?_, by dsimp only; rw [List.length_append]; exact b2, by dsimp only; rw [hl, List.length_append]; omega⟩
      have hk := h1 (put (2 * t.b.length) ++ t.b ++ R)
      rw [← List.append_assoc] at hk
      have ht := tok_lit (P := p) (R := R) (out := w) b1 b2
      dsimp only
      rw [hl]
      exact hk.trans (.cons (by rw [List.length_append, hl]; omega) ht (.nil _ _))
  · split
    · rename_i hn ha
      obtain ⟨a1, a2, a3, a4, a5, a6⟩ := ha
      have hl : (p ++ (put (2 * t.n.toNat + 1) ++ put t.back.toNat)).length = p.length + (put (2 * t.n.toNat + 1)).length + (put t.back.toNat).length := by
        rw [List.length_append, List.length_append]; omega
      have hp := put_two (n := 2 * t.n.toNat + 1) (by omega)
      have hp2 := put_two (n := t.back.toNat) (by omega)
      have hpos := put_pos (2 * t.n.toNat + 1)
      have hr := rep_len t.back.toNat t.n.toNat w
      refine ⟨get0_app h0, fun R => ?_, by dsimp only; rw [hr]; omega, by dsimp only; rw [hl, hr]; omega⟩
      have hk := h1 (put (2 * t.n.toNat + 1) ++ put t.back.toNat ++ R)
      rw [← List.append_assoc] at hk
      have ht := tok_back (P := p) (R := R) (out := w) (n := t.n.toNat) (d := t.back.toNat) (by omega) (by omega) (by omega) (by omega) (by omega) (by omega)
      dsimp only
      rw [hl]
      exact hk.trans (.cons (by rw [List.length_append, hl]; omega) ht (.nil _ _))
    · exact ⟨h0, h1, h2, h3⟩
theorem Lays.all : ∀ (l : List Tok) (s : List UInt8 × List UInt8), Lays s → Lays (l.foldl Tok.lay s)
  | [], _, h => h
  | t :: l, s, h => Lays.all l _ (h.lay t)
theorem laid_ok (l : List Tok) : Lays (laid l) := Lays.all l _ .start
theorem laid_unp (l : List Tok) : unp (laid l).1 = ((laid l).2, 0) := by
  have h := laid_ok l
  have ht := h.tks []
  rw [List.append_nil] at ht
  exact ht.unp h.one
theorem laid_snoc {l : List Tok} {k : Nat} {t : Tok} (h : l[k]? = some t) : laid (l.take (k + 1)) = t.lay (laid (l.take k)) := by
  unfold laid
  rw [List.take_add_one, h]
  simp [List.foldl_append]
end Go.Proofs.Ytilpiclmdmnlkaa
