/- Merged: AFound, ALits, APack. -/
import Derived.Test.YtilpiclmdmnlkaaZ21
/- block.Pack's closures: what is found at a place, which is noted; the bytes that are told as they are. -/
set_option linter.unusedVariables false
set_option linter.unusedSimpArgs false
namespace Go.Proofs.Ytilpiclmdmnlkaa
open Go.RowKit
attribute [local go_sem] normK_app aopsK_app atSt_app ofK_app stK_app extK_val panicK_app thenA_normal thenA_exit thenA_ret thenA_panic blockK_normal blockK_exit blockK_ret blockK_panic callK_ret callK_panic awp_skip awp_region awp_draw awp_seq awp_cond acond_true acond_false dstAt_zero dstAt_succ guardV_some aops_guard_eq aguard_true aguard_true' aguard_false aguard_false' aguard_und ogF_und ogS_und ord_guard ogF_tt ogF_ft ogF_tf ogF_ff ogS_tt ogS_ff ogS_ft ogS_tf awp_block awp_loop awp_exit awp_ret awp_label awp_scope aops_nil aops_plain exec_move exec_assign exec_pick exec_alloc pick_true pick_false free_pick fpick_true fpick_false exec_box exec_build exec_buildSlice exec_load exec_store exec_nilCheck exec_binOp abinK_some exec_unOp aunK_some exec_convert conv_s exec_makeInterface exec_makeFunc exec_slice exec_fieldAddr exec_field exec_indexAddr exec_index exec_extract exec_call exec_panic call_value call_builtin alitsK_some acallB_true acallB_false callF_fn bi_len eval_tmp eval_const eval_func look_cons look_nil put_some put_none ofV_int ofV_bool ofV_float ofV_string ofV_slice ofV_ptr ofV_map ofV_agg ofV_tup lit_s box_eq box_var get_here get_here0 set_here set_here0 number_nil number_cons retK_ret retK_normal retK_panic ends1 ends2 ends3 ends0 retOne_app endsC TRun AV.lits AV.lit0 aordF_app aordS_not aordS_late ord_nil ord_free ord_solo freeK_app free_move free_assign free_build free_buildSlice free_load free_nilCheck free_binOp free_unOp free_convert free_makeInterface free_makeFunc free_slice free_fieldAddr free_field free_indexAddr free_index free_extract free_len free_call freeF_fn agives_false roundK_normal roundK_exit roundK_ret roundK_panic roundC_normal roundC_exit roundC_ret roundC_panic sub_nil sub_cons aalloc abox aiface afield aindex aextract alen abuild abuildSlice afill afillS splice Tag.calm oneV AV.forget AV.forget1 one_any dat0_any known_any cells_any forget0_any one_s dat0_s known_s cells_s forget0_s one_agg dat0_agg known_agg cells_agg forget0_agg one_tup dat0_tup known_tup cells_tup forget0_tup one_bp dat0_bp known_bp cells_bp forget0_bp one_rp dat0_rp known_rp cells_rp forget0_rp one_sl dat0_sl known_sl cells_sl forget0_sl one_fn dat0_fn known_fn cells_fn forget0_fn one_ifc dat0_ifc known_ifc cells_ifc forget0_ifc okCells_nil okCells_cons load_rpA load_rp1 loadB_some load_bpA load1_some at1_some load_bp1 storeB_some store_bp fieldAddr_bp fieldAddr_rp idxE_some index_sl index_arr nil_bp nil_rp nil_fn bi_append appB_sl appB_str aappend one_mp dat0_mp known_mp cells_mp forget0_mp exec_makeMap exec_lookup exec_mapUpdate withOk_true withOk_false exec_mapEntry exec_entryStore exec_arrAt exec_makeSlice arrAt_sl ty2 ty3 ty4 ty5 ty6 ty7 ty8 ty9 ty10 ty11 ty12 ty13 ty14 ty15 ty16 ty17 ty18 ty19 ty20 ty21 ty22 ty23 ty24 ty25 ty27 ty28 ty37 ty38 ty41 ty48 ty51 ty52 ty57 ty58 ty59 ty61 ty62 ty63 ty64 ty65 ty66 hb0 hb1 hb2 hb3 hb4 hb5 hb6 hb7 hb8 hb9 hb10 hb11 hb12 hb13 hb14 hb15 hb16 hb17 hb18 hb19 hb20 hb21 hb22 hb23 hb24 hb25 hb26 hb27 hb28 hb29 hb30 hb31 hb32 hb33 hb34
attribute [local go_sem] encB_len withOk_false withOk_true
set_option maxRecDepth 20000
theorem four_is {l : List UInt8} (h : l.length = 4) : ∃ a b c d, l = [a, b, c, d] := by
  match l, h with
  | [a, b, c, d], _ => exact ⟨a, b, c, d, rfl⟩
/-- Four bytes, as they lie in a slot. -/
def fourV (l : List UInt8) : AV := .agg (l.map fun (b : UInt8) => .s (.int .u8 (b.toNat : Int)))
theorem fourV_lit {l : List UInt8} (h : l.length = 4) : (fourV l).lit = some (keyV l) := by
  obtain ⟨a, b, c, d, rfl⟩ := four_is h
  rfl
theorem encB_flat4 {l : List UInt8} : (encB l).flatten = l.map fun (b : UInt8) => .s (.int .u8 (b.toNat : Int)) := encB_flat l
theorem four_take {l : List UInt8} (h : l.length = 4) : (l.map fun (b : UInt8) => AV.s (.int .u8 (b.toNat : Int))).take 4 = l.map fun (b : UInt8) => AV.s (.int .u8 (b.toNat : Int)) := List.take_of_length_le (by simp [h])
set_option maxHeartbeats 4000000 in
theorem c_found (L0 : List (Nat × Nat × Nat)) (b : List UInt8) (o : Bool) (k i0 i1 i2 : Nat) (es : List Ent) (tag : Tag) (out : List UInt8) (st : AS) (R : AOut → AS → Prop) (hb : b.length ≤ 2048) (hk : k ≤ b.length) (h0 : st.bx[i0]? = some [.sl o .none (encB b)]) (h1 : st.bx[i1]? = some (mapBox (es.map Ent.pair))) (h2 : st.bx[i2]? = some [.mp i1])
    (ok : PS L0 b k es tag out st.ln)
    (hR0 : b.length < k + 4 → R (.ret (.tup [.s (.int .i64 0), .s (.int .i64 0)])) st)
    (hR : k + 4 ≤ b.length → ∀ es' ln' junk, PS L0 b (k + 1) es' tag out ln' → R (.ret (.tup [.s (.int .i64 ((bfind b k).1 : Int)), .s (.int .i64 ((bfind b k).2 : Int))])) ⟨st.bx.set i1 (mapBox (es'.map Ent.pair)) ++ [junk], ln'⟩) :
    DoesCall Try.prog 11 [.s (.int .i64 (k : Int)), .bp i0 0, .bp i2 0] st R := by
  refine enter Try.func11 rfl Try.ntmps11 Try.results11 (by simp) ?_
  by_cases hk4 : b.length < k + 4
  · have c1 : decide (IntKind.i64.wrap ((b.length : Int) - (k : Int)) < 4) = true := by rw [decide_eq_true_eq, IntWalk.i64_in _ (by omega)]; omega
    go_simp
    exact .asis (hR0 hk4)
  have w1 : IntKind.i64.wrap ((b.length : Int) - (k : Int)) = (b.length : Int) - (k : Int) := IntWalk.i64_in _ (by omega)
  have c1 : decide ((b.length : Int) - (k : Int) < 4) = false := by rw [decide_eq_false_iff_not]; omega
  go_simp
  refine slice_B (j := k) (m := 4) (s := four b k) rfl (by rw [IntWalk.i64_in _ (by omega)]; omega) (by omega) rfl ?_
  have hq4 := four_len (b := b) (k := k) (by omega)
  have hbf : bfind b k = lng b k (cnd b k (four b k)).reverse (0, 0) := by unfold bfind; rw [if_neg hk4, cands_cnd]
  obtain ⟨a1, a2, a3, a4, hq⟩ := four_is hq4
  have hflat : (encB [a1, a2, a3, a4]).flatten = [.s (.int .u8 (a1.toNat : Int)), .s (.int .u8 (a2.toNat : Int)), .s (.int .u8 (a3.toNat : Int)), .s (.int .u8 (a4.toNat : Int))] := by simp [encB]
  rw [hq]
  go_simp
  have g0 : ∀ r, (st.bx ++ r)[i0]? = some [.sl o .none (encB b)] := fun r => get_in h0
  have g1 : ∀ r, (st.bx ++ r)[i1]? = some (mapBox (es.map Ent.pair)) := fun r => get_in h1
  have g2 : ∀ r, (st.bx ++ r)[i2]? = some [.mp i1] := fun r => get_in h2
  have hkv : (AV.agg [.s (.int .u8 (a1.toNat : Int)), .s (.int .u8 (a2.toNat : Int)), .s (.int .u8 (a3.toNat : Int)), .s (.int .u8 (a4.toNat : Int))]).lit = some (keyV (four b k)) := by rw [hq]; rfl
  have hko := keyV_ok (four b k) hq4
  have HB := Lib.hid hbf
  have HQ := Lib.hid hq
  clear hbf hq hflat
  rcases ok.find (four b k) with ⟨hn, hf⟩ | ⟨j, e, hj, heq, hf⟩
  · have hnil : cnd b k (four b k) = [] := ok.all _ hn
    have cl := (g_longest b o true k [] hk (by simp)).weak (args := [.sl o .none (encB b), .s (.int .i64 (k : Int)), .s (.slice none 0 0)]) ⟨.refl _, .refl _, Wk.nil _, trivial⟩
    rw [hnil] at HB
    rw [show ([] : List Nat).reverse = [] from rfl] at cl HB
    rw [← HB.out] at cl
    have CL := Lib.hid cl
    clear cl
    refine draw [(true, false), (true, false), (true, false), (false, false), (false, false), (false, false), (false, false), (true, false), (true, false), (false, false), (false, false)] (by kernel_rfl) (by kernel_rfl) ?_
    go_simp
    refine look_none hkv places_ty hko ok.keysOk (g1 _) hf ty41 rfl ?_
    go_simp
    refine (CL.out _).mono ?_
    rintro o2 st2 ⟨rfl, rfl⟩
    go_simp
    refine ent_none hkv places_ty hko ok.keysOk (g1 _) hf ty41 rfl ?_
    go_simp
    refine ⟨by simp, ?_⟩
    go_simp
    refine ent_store (get_set (g1 _)) (p := (keyV (four b k), .s (.slice none 0 0))) (by simp) ?_
    go_simp
    refine .asis ?_
    have := hR (by omega) _ _ [.s (.int .u8 (a1.toNat : Int)), .s (.int .u8 (a2.toNat : Int)), .s (.int .u8 (a3.toNat : Int)), .s (.int .u8 (a4.toNat : Int))] (ok.new (by omega) hn)
    simpa [Ent.pair, encI, set_in h1] using this
  · have he := ok.has e (List.mem_of_getElem? hj)
    rw [heq] at he
    have hrow := ok.rows e (List.mem_of_getElem? hj)
    have cl := (g_longest b o true k e.l hk (by rw [he]; exact cnd_lt)).weak (args := [.sl o .none (encB b), .s (.int .i64 (k : Int)), .sl true (.lin e.id) (encI e.l)]) ⟨.refl _, .refl _, fun g x h => forget0_sim h, trivial⟩
    rw [← he] at HB
    rw [← HB.out] at cl
    have CL := Lib.hid cl
    have HE := Lib.hid he
    clear he
    clear cl
    refine draw [(true, false), (true, false), (true, false), (false, false), (false, false), (false, false), (false, false), (true, false), (true, false), (false, false), (false, false)] (by kernel_rfl) (by kernel_rfl) ?_
    go_simp
    refine look_some hkv places_ty hko ok.keysOk (g1 _) hf ?_
    go_simp
    refine (CL.out _).mono ?_
    rintro o2 st2 ⟨rfl, rfl⟩
    go_simp
    refine ent_some hkv places_ty hko ok.keysOk (g1 _) hf ?_
    go_simp
    have hlk := cnd_len b k (four b k)
    rw [← HE.out] at hlk
    refine ⟨by rw [encI_len]; simp; omega, by rw [encI_len]; exact hrow, encI_lens _, ?_⟩
    go_simp
    refine ent_store (g1 _) hf.1 ?_
    go_simp
    refine .asis ?_
    have := hR (by omega) _ _ [.s (.int .u8 (a1.toNat : Int)), .s (.int .u8 (a2.toNat : Int)), .s (.int .u8 (a3.toNat : Int)), .s (.int .u8 (a4.toNat : Int))] (ok.more (by omega) hj heq)
    rw [map_set_pair] at this
    simpa [Ent.pair, encI, set_in h1, heq] using this
theorem c_found' (L0 : List (Nat × Nat × Nat)) (b : List UInt8) (o : Bool) (k i0 i1 i2 : Nat) (es : List Ent) (tag : Tag) (out : List UInt8) (st : AS) (R : AOut → AS → Prop) (hb : b.length ≤ 2048) (hk : k ≤ b.length) (h0 : st.bx[i0]? = some [.sl o .none (encB b)]) (h1 : st.bx[i1]? = some (mapBox (es.map Ent.pair))) (h2 : st.bx[i2]? = some [.mp i1])
    (ok : PS L0 b k es tag out st.ln)
    (hR : ∀ es' ln' junk, PS L0 b (k + 1) es' tag out ln' → R (.ret (.tup [.s (.int .i64 ((bfind b k).1 : Int)), .s (.int .i64 ((bfind b k).2 : Int))])) ⟨st.bx.set i1 (mapBox (es'.map Ent.pair)) ++ junk, ln'⟩) :
    DoesCall Try.prog 11 [.s (.int .i64 (k : Int)), .bp i0 0, .bp i2 0] st R := by
  refine c_found L0 b o k i0 i1 i2 es tag out st R hb hk h0 h1 h2 ok (fun h => ?_) (fun h es' ln' junk h' => hR es' ln' [junk] h')
  have := hR es st.ln [] (ok.skip h)
  rw [set_same h1, List.append_nil] at this
  have hz : bfind b k = (0, 0) := by unfold bfind; rw [if_pos h]
  rw [hz] at this
  exact this
end Go.Proofs.Ytilpiclmdmnlkaa
/- block.Pack's closure that tells bytes as they are. -/
set_option linter.unusedVariables false
set_option linter.unusedSimpArgs false
namespace Go.Proofs.Ytilpiclmdmnlkaa
open Go.RowKit
attribute [local go_sem] normK_app aopsK_app atSt_app ofK_app stK_app extK_val panicK_app thenA_normal thenA_exit thenA_ret thenA_panic blockK_normal blockK_exit blockK_ret blockK_panic callK_ret callK_panic awp_skip awp_region awp_draw awp_seq awp_cond acond_true acond_false dstAt_zero dstAt_succ guardV_some aops_guard_eq aguard_true aguard_true' aguard_false aguard_false' aguard_und ogF_und ogS_und ord_guard ogF_tt ogF_ft ogF_tf ogF_ff ogS_tt ogS_ff ogS_ft ogS_tf awp_block awp_loop awp_exit awp_ret awp_label awp_scope aops_nil aops_plain exec_move exec_assign exec_pick exec_alloc pick_true pick_false free_pick fpick_true fpick_false exec_box exec_build exec_buildSlice exec_load exec_store exec_nilCheck exec_binOp abinK_some exec_unOp aunK_some exec_convert conv_s exec_makeInterface exec_makeFunc exec_slice exec_fieldAddr exec_field exec_indexAddr exec_index exec_extract exec_call exec_panic call_value call_builtin alitsK_some acallB_true acallB_false callF_fn bi_len eval_tmp eval_const eval_func look_cons look_nil put_some put_none ofV_int ofV_bool ofV_float ofV_string ofV_slice ofV_ptr ofV_map ofV_agg ofV_tup lit_s box_eq box_var get_here get_here0 set_here set_here0 number_nil number_cons retK_ret retK_normal retK_panic ends1 ends2 ends3 ends0 retOne_app endsC TRun AV.lits AV.lit0 aordF_app aordS_not aordS_late ord_nil ord_free ord_solo freeK_app free_move free_assign free_build free_buildSlice free_load free_nilCheck free_binOp free_unOp free_convert free_makeInterface free_makeFunc free_slice free_fieldAddr free_field free_indexAddr free_index free_extract free_len free_call freeF_fn agives_false roundK_normal roundK_exit roundK_ret roundK_panic roundC_normal roundC_exit roundC_ret roundC_panic sub_nil sub_cons aalloc abox aiface afield aindex aextract alen abuild abuildSlice afill afillS splice Tag.calm oneV AV.forget AV.forget1 one_any dat0_any known_any cells_any forget0_any one_s dat0_s known_s cells_s forget0_s one_agg dat0_agg known_agg cells_agg forget0_agg one_tup dat0_tup known_tup cells_tup forget0_tup one_bp dat0_bp known_bp cells_bp forget0_bp one_rp dat0_rp known_rp cells_rp forget0_rp one_sl dat0_sl known_sl cells_sl forget0_sl one_fn dat0_fn known_fn cells_fn forget0_fn one_ifc dat0_ifc known_ifc cells_ifc forget0_ifc okCells_nil okCells_cons load_rpA load_rp1 loadB_some load_bpA load1_some at1_some load_bp1 storeB_some store_bp fieldAddr_bp fieldAddr_rp idxE_some index_sl index_arr nil_bp nil_rp nil_fn bi_append appB_sl appB_str aappend one_mp dat0_mp known_mp cells_mp forget0_mp exec_makeMap exec_lookup exec_mapUpdate withOk_true withOk_false exec_mapEntry exec_entryStore exec_arrAt exec_makeSlice arrAt_sl ty2 ty3 ty4 ty5 ty6 ty7 ty8 ty9 ty10 ty11 ty12 ty13 ty14 ty15 ty16 ty17 ty18 ty19 ty20 ty21 ty22 ty23 ty24 ty25 ty27 ty28 ty37 ty38 ty41 ty48 ty51 ty52 ty57 ty58 ty59 ty61 ty62 ty63 ty64 ty65 ty66 hb0 hb1 hb2 hb3 hb4 hb5 hb6 hb7 hb8 hb9 hb10 hb11 hb12 hb13 hb14 hb15 hb16 hb17 hb18 hb19 hb20 hb21 hb22 hb23 hb24 hb25 hb26 hb27 hb28 hb29 hb30 hb31 hb32 hb33 hb34
attribute [local go_sem] encB_len
set_option maxRecDepth 20000
/-- What a call answers may be forgotten to be a row that grows. -/
theorem DoesCall.dropR {P : Program} {f : FuncId} {args : List AV} {st : AS} {R : AOut → AS → Prop}
    (h : DoesCall P f args st fun o st' => ∃ v, o = .ret v ∧ InB st.bx.length st.ln.length v.forget ∧ BoxesOk st st' ∧ R (.ret v.forget) (st'.cut st.bx.length st.ln.length)) : DoesCall P f args st R :=
  fun g w vs hi ha => (h g w vs hi ha).mono fun e w' ⟨g', o, st', h1, h2, h3, v, hv, q1, q2, q3⟩ => by
    subst hv
    cases h3 with
    | ret _ x hx =>
      refine ⟨g'.cut st.bx.length st.ln.length, .ret v.forget, st'.cut st.bx.length st.ln.length, ?_, hi.cut h1 h2 q2, .ret _ _ ((forget_sim hx).cut q1), q3⟩
      have := h1.cut
      rwa [hi.bxlen, hi.lnlen] at this
theorem g_PutD (n : Nat) (hn : n < 18446744073709551616) : Gives Try.prog 14 [.s (.int .u64 n)] (.sl true .none (encB (put n))) := by
  intro st
  exact .dropR (g_Put n hn ⟨_, rfl, InB_none.2 trivial, .same, rfl, by simp [AS.cut]⟩)
set_option maxHeartbeats 4000000 in
theorem c_lits (L0 : List (Nat × Nat × Nat)) (b : List UInt8) (o : Bool) (fr tt k i0 i3 i4 : Nat) (es : List Ent) (tag : Tag) (out : List UInt8) (st : AS) (R : AOut → AS → Prop) (hb : b.length ≤ 2048) (hto : tt ≤ b.length) (hout : out.length ≤ 65536)
    (h0 : st.bx[i0]? = some [.sl o .none (encB b)]) (h3 : st.bx[i3]? = some [.sl true tag (encB out)]) (h4 : st.bx[i4]? = some [.s (.int .i64 (fr : Int))]) (n03 : i0 ≠ i3) (n43 : i4 ≠ i3) (ok : PS L0 b k es tag out st.ln)
    (hR : ∀ tag' ln', PS L0 b k es tag' (lits b fr tt out) ln' → R (.ret (.tup [])) ⟨st.bx.set i3 [.sl true tag' (encB (lits b fr tt out))], ln'⟩) :
    DoesCall Try.prog 13 [.s (.int .i64 (tt : Int)), .bp i4 0, .bp i3 0, .bp i0 0] st R := by
  refine enter Try.func13 rfl Try.ntmps13 Try.results13 (by simp) ?_
  by_cases hlt : fr < tt
  · have e : lits b fr tt out = out ++ (put (2 * (tt - fr)) ++ (b.drop fr).take (tt - fr)) := by unfold lits; rw [if_pos hlt]
    obtain ⟨m, hm1, hm2⟩ : ∃ m, m + fr ≤ tt ∧ tt ≤ m + fr := ⟨tt - fr, by omega, by omega⟩
    rw [show tt - fr = m by omega] at e
    have hp := put_len 3 (2 * m) (by omega) (by omega)
    have hp0 := put_pos (2 * m)
    have c1 : decide (fr < tt) = true := by simpa using hlt
    have w1 : IntKind.i64.wrap ((tt : Int) - (fr : Int)) = (m : Int) := by rw [IntWalk.i64_in _ (by omega)]; omega
    have w2 : IntKind.u64.wrap (m : Int) = (m : Int) := IntWalk.u64_in _ (by omega)
    have w3 : IntKind.u64.wrap (2 * (m : Int)) = ((2 * m : Nat) : Int) := by rw [IntWalk.u64_in _ (by omega)]; omega
    have pd := g_PutD (2 * m) (by omega)
    rw [show ((2 * m : Nat) : Int) = 2 * (m : Int) by omega] at pd
    have PD := Lib.hid pd
    clear pd
    obtain ⟨s, hs⟩ : ∃ s, s = (b.drop fr).take m := ⟨_, rfl⟩
    have hsl : s.length = m := by rw [hs, List.length_take, List.length_drop]; omega
    obtain ⟨u, hu⟩ : ∃ u, u = put (2 * m) := ⟨_, rfl⟩
    rw [← hs, ← hu] at e
    rw [← hu] at PD hp hp0
    have HE := Lib.hid e
    have HS := Lib.hid hs.symm
    clear e hs hu
    go_simp
    refine draw [(true, false), (true, false), (false, false), (false, false), (false, false), (false, false), (false, false), (false, true), (false, true)] (by kernel_rfl) (by kernel_rfl) ?_
    go_simp
    refine (PD.out _).mono ?_
    rintro o2 st ⟨rfl, rfl⟩
    go_simp
    refine ⟨encB_lens _, ok.app rfl (by intro h; rw [h] at hp0; cases hp0) (by omega) fun tag1 ln1 ok1 => ?_⟩
    go_simp
    have h0' : (st.bx.set i3 [AV.sl true tag1 (encB (out ++ u))])[i0]? = some [.sl o .none (encB b)] := by rw [List.getElem?_set_ne (Ne.symm n03)]; exact h0
    have h3' : (st.bx.set i3 [AV.sl true tag1 (encB (out ++ u))])[i3]? = some [.sl true tag1 (encB (out ++ u))] := get_set h3
    have h4' : (st.bx.set i3 [AV.sl true tag1 (encB (out ++ u))])[i4]? = some [.s (.int .i64 (fr : Int))] := by rw [List.getElem?_set_ne (Ne.symm n43)]; exact h4
    refine draw [(true, false), (true, false), (true, false), (false, false), (false, false), (false, true), (false, true)] (by kernel_rfl) (by kernel_rfl) ?_
    go_simp
    refine slice_B (j := fr) (m := m) (s := s) rfl (by omega) (by omega) HS.out ?_
    go_simp
    refine ⟨encB_lens _, ok1.app rfl (by intro h; rw [h] at hsl; simp at hsl; omega) (by rw [List.length_append]; omega) fun tag2 ln2 ok2 => ?_⟩
    go_simp
    refine .asis ?_
    have := hR tag2 ln2 (by rw [HE.out, ← List.append_assoc]; exact ok2)
    rw [HE.out, ← List.append_assoc] at this
    simpa using this
  · have e : lits b fr tt out = out := by unfold lits; rw [if_neg hlt]
    rw [e] at hR
    have c1 : decide (fr < tt) = false := by simpa using hlt
    have := hR _ _ ok
    rw [set_same h3] at this
    go_simp
    exact .asis this
end Go.Proofs.Ytilpiclmdmnlkaa
/- block.Pack: bytes packed. -/
set_option linter.unusedVariables false
set_option linter.unusedSimpArgs false
namespace Go.Proofs.Ytilpiclmdmnlkaa
open Go.RowKit
/-- The boxes of Pack. -/
def pkBx (B : List (List AV)) (o : Bool) (b : List UInt8) (es : List Ent) (tag : Tag) (out : List UInt8) (fr : Nat) (junk : List (List AV)) : List (List AV) :=
  B ++ ([.sl o .none (encB b)] :: mapBox (es.map Ent.pair) :: [.mp (B.length + 1)] :: [.sl true tag (encB out)] :: [.s (.int .i64 (fr : Int))] :: junk)
section
variable {B : List (List AV)} {o : Bool} {b : List UInt8} {es es' : List Ent} {tag tag' : Tag} {out out' : List UInt8} {fr fr' : Nat} {junk r : List (List AV)}
theorem pk_0 : (pkBx B o b es tag out fr junk)[B.length]? = some [.sl o .none (encB b)] := no_rfl (by simp [pkBx])
theorem pk_1 : (pkBx B o b es tag out fr junk)[B.length + 1]? = some (mapBox (es.map Ent.pair)) := no_rfl (by simp [pkBx])
theorem pk_2 : (pkBx B o b es tag out fr junk)[B.length + 2]? = some [.mp (B.length + 1)] := no_rfl (by simp [pkBx])
theorem pk_3 : (pkBx B o b es tag out fr junk)[B.length + 3]? = some [.sl true tag (encB out)] := no_rfl (by simp [pkBx])
theorem pk_4 : (pkBx B o b es tag out fr junk)[B.length + 4]? = some [.s (.int .i64 (fr : Int))] := no_rfl (by simp [pkBx])
theorem pk_app : pkBx B o b es tag out fr junk ++ r = pkBx B o b es tag out fr (junk ++ r) := no_rfl (by simp [pkBx])
theorem pk_0r : (pkBx B o b es tag out fr junk ++ r)[B.length]? = some [.sl o .none (encB b)] := no_rfl (by rw [pk_app, pk_0])
theorem pk_1r : (pkBx B o b es tag out fr junk ++ r)[B.length + 1]? = some (mapBox (es.map Ent.pair)) := no_rfl (by rw [pk_app, pk_1])
theorem pk_2r : (pkBx B o b es tag out fr junk ++ r)[B.length + 2]? = some [.mp (B.length + 1)] := no_rfl (by rw [pk_app, pk_2])
theorem pk_3r : (pkBx B o b es tag out fr junk ++ r)[B.length + 3]? = some [.sl true tag (encB out)] := no_rfl (by rw [pk_app, pk_3])
theorem pk_4r : (pkBx B o b es tag out fr junk ++ r)[B.length + 4]? = some [.s (.int .i64 (fr : Int))] := no_rfl (by rw [pk_app, pk_4])
theorem pk_s1r : (pkBx B o b es tag out fr junk ++ r).set (B.length + 1) (mapBox (es'.map Ent.pair)) = pkBx B o b es' tag out fr junk ++ r := no_rfl (by rw [pk_app, pk_app]; simp [pkBx])
theorem pk_s3r : (pkBx B o b es tag out fr junk ++ r).set (B.length + 3) [.sl true tag' (encB out')] = pkBx B o b es tag' out' fr junk ++ r := no_rfl (by rw [pk_app, pk_app]; simp [pkBx])
theorem pk_s4r : (pkBx B o b es tag out fr junk ++ r).set (B.length + 4) [.s (.int .i64 (fr' : Int))] = pkBx B o b es tag out fr' junk ++ r := no_rfl (by rw [pk_app, pk_app]; simp [pkBx])
theorem pk_s1 : (pkBx B o b es tag out fr junk).set (B.length + 1) (mapBox (es'.map Ent.pair)) = pkBx B o b es' tag out fr junk := no_rfl (by simp [pkBx])
theorem pk_s3 : (pkBx B o b es tag out fr junk).set (B.length + 3) [.sl true tag' (encB out')] = pkBx B o b es tag' out' fr junk := no_rfl (by simp [pkBx])
theorem pk_s4 : (pkBx B o b es tag out fr junk).set (B.length + 4) [.s (.int .i64 (fr' : Int))] = pkBx B o b es tag out fr' junk := no_rfl (by simp [pkBx])
theorem pk_take : (pkBx B o b es tag out fr junk).take B.length = B := by simp [pkBx]
theorem pk_boxes {ln ln' : List (Nat × Nat × Nat)} : BoxesOk ⟨B, ln⟩ ⟨pkBx B o b es tag out fr junk, ln'⟩ := BoxesOk.app
end
/-- What is packed so far leads to what is packed. -/
structure PkSt where
  k : Nat
  fr : Nat
  f : Nat
  out : List UInt8
  es : List Ent
  tag : Tag
  ln : List (Nat × Nat × Nat)
  junk : List (List AV)
structure PkOk (L0 : List (Nat × Nat × Nat)) (b : List UInt8) (z : PkSt) : Prop where
  ps : PS L0 b z.k z.es z.tag z.out z.ln
  hk : z.k ≤ b.length
  hf : z.fr ≤ z.k
  ho : z.out.length ≤ 1 + 4 * z.fr
  hl : b.length < z.k + z.f
  hp : Hid (packL b = pk b z.f z.k z.fr z.out)
attribute [local go_sem] normK_app aopsK_app atSt_app ofK_app stK_app extK_val panicK_app thenA_normal thenA_exit thenA_ret thenA_panic blockK_normal blockK_exit blockK_ret blockK_panic callK_ret callK_panic awp_skip awp_region awp_draw awp_seq awp_cond acond_true acond_false dstAt_zero dstAt_succ guardV_some aops_guard_eq aguard_true aguard_true' aguard_false aguard_false' aguard_und ogF_und ogS_und ord_guard ogF_tt ogF_ft ogF_tf ogF_ff ogS_tt ogS_ff ogS_ft ogS_tf awp_block awp_loop awp_exit awp_ret awp_label awp_scope aops_nil aops_plain exec_move exec_assign exec_pick exec_alloc pick_true pick_false free_pick fpick_true fpick_false exec_box exec_build exec_buildSlice exec_load exec_store exec_nilCheck exec_binOp abinK_some exec_unOp aunK_some exec_convert conv_s exec_makeInterface exec_makeFunc exec_slice exec_fieldAddr exec_field exec_indexAddr exec_index exec_extract exec_call exec_panic call_value call_builtin alitsK_some acallB_true acallB_false callF_fn bi_len eval_tmp eval_const eval_func look_cons look_nil put_some put_none ofV_int ofV_bool ofV_float ofV_string ofV_slice ofV_ptr ofV_map ofV_agg ofV_tup lit_s box_eq box_var get_here get_here0 set_here set_here0 number_nil number_cons retK_ret retK_normal retK_panic ends1 ends2 ends3 ends0 retOne_app endsC TRun AV.lits AV.lit0 aordF_app aordS_not aordS_late ord_nil ord_free ord_solo freeK_app free_move free_assign free_build free_buildSlice free_load free_nilCheck free_binOp free_unOp free_convert free_makeInterface free_makeFunc free_slice free_fieldAddr free_field free_indexAddr free_index free_extract free_len free_call freeF_fn agives_false roundK_normal roundK_exit roundK_ret roundK_panic roundC_normal roundC_exit roundC_ret roundC_panic sub_nil sub_cons aalloc abox aiface afield aindex aextract alen abuild abuildSlice afill afillS splice Tag.calm oneV AV.forget AV.forget1 one_any dat0_any known_any cells_any forget0_any one_s dat0_s known_s cells_s forget0_s one_agg dat0_agg known_agg cells_agg forget0_agg one_tup dat0_tup known_tup cells_tup forget0_tup one_bp dat0_bp known_bp cells_bp forget0_bp one_rp dat0_rp known_rp cells_rp forget0_rp one_sl dat0_sl known_sl cells_sl forget0_sl one_fn dat0_fn known_fn cells_fn forget0_fn one_ifc dat0_ifc known_ifc cells_ifc forget0_ifc okCells_nil okCells_cons load_rpA load_rp1 loadB_some load_bpA load1_some at1_some load_bp1 storeB_some store_bp fieldAddr_bp fieldAddr_rp idxE_some index_sl index_arr nil_bp nil_rp nil_fn bi_append appB_sl appB_str aappend one_mp dat0_mp known_mp cells_mp forget0_mp exec_makeMap exec_lookup exec_mapUpdate withOk_true withOk_false exec_mapEntry exec_entryStore exec_arrAt exec_makeSlice arrAt_sl ty2 ty3 ty4 ty5 ty6 ty7 ty8 ty9 ty10 ty11 ty12 ty13 ty14 ty15 ty16 ty17 ty18 ty19 ty20 ty21 ty22 ty23 ty24 ty25 ty27 ty28 ty37 ty38 ty41 ty48 ty51 ty52 ty57 ty58 ty59 ty61 ty62 ty63 ty64 ty65 ty66 hb0 hb1 hb2 hb3 hb4 hb5 hb6 hb7 hb8 hb9 hb10 hb11 hb12 hb13 hb14 hb15 hb16 hb17 hb18 hb19 hb20 hb21 hb22 hb23 hb24 hb25 hb26 hb27 hb28 hb29 hb30 hb31 hb32 hb33 hb34
attribute [local go_sem] encB_len withOk_false withOk_true pk_0 pk_1 pk_2 pk_3 pk_4 pk_0r pk_1r pk_2r pk_3r pk_4r pk_s1 pk_s3 pk_s4 pk_s1r pk_s3r pk_s4r
set_option maxRecDepth 20000
set_option maxHeartbeats 4000000 in
theorem g_Pack (b : List UInt8) (o : Bool) : Gives Try.prog 10 [.sl o .none (encB b)] (tupB (pack b)) := by
  refine .of_GW fun st => ?_
  refine bound_sl 0 rfl fun hb => ?_
  rw [encB_len] at hb
  refine enter Try.func10 rfl Try.ntmps10 Try.results10 (by simp) ?_
  by_cases h2 : 2048 < b.length
  · rw [pack_long h2]
    have c1 : decide ((2048 : Int) < (b.length : Int)) = true := by rw [decide_eq_true_eq]; omega
    go_simp
    exact end_w1 (by simp [AV.forget, AV.forget1, AV.forget0, InB_tup, InB_s]) (wk_t2 (Wk.nil _))
  have c1 : decide ((2048 : Int) < (b.length : Int)) = false := by rw [decide_eq_false_iff_not]; omega
  have hpk : pack b = if b.length < (packL b).length then (0 :: b, 0) else (packL b, 0) := by unfold pack; rw [if_neg h2]
  have HPK := Lib.hid hpk
  clear hpk
  go_simp
  refine ⟨⟨_, _, Try.underlying37⟩, ?_⟩
  go_simp
  have ok0 : PkOk st.ln b ⟨0, 0, b.length + 1, [1], [], .full, st.ln, []⟩ :=
    ⟨⟨by simp, by simp, by simp, by simp, by simp, fun q _ => rfl, by simp, by simp, .inl ⟨rfl, by simp⟩⟩, Nat.zero_le _, Nat.le_refl _, by simp, by show b.length < 0 + (b.length + 1); omega, Lib.hid rfl⟩
  refine loop_of (σ := { z : PkSt // PkOk st.ln b z }) (fun z => ⟨96, [(9, .s (.int .i64 (z.1.k : Int))), (8, .fn (.func 13) [.bp (st.bx.length + 4) 0, .bp (st.bx.length + 3) 0, .bp st.bx.length 0]), (7, .bp (st.bx.length + 4) 0), (6, .bp (st.bx.length + 3) 0),
    (5, .fn (.func 11) [.bp st.bx.length 0, .bp (st.bx.length + 2) 0]), (4, .bp (st.bx.length + 2) 0), (1, .bp st.bx.length 0)]⟩)
    (fun z => ⟨pkBx st.bx o b z.1.es z.1.tag z.1.out z.1.fr z.1.junk, z.1.ln⟩) (fun z => z.1.f) ⟨_, ok0⟩ (by go_simp) rfl ?_
  rintro ⟨⟨k, fr, f, out, es, tag, ln, junk⟩, ok, hk, hf, ho, hl, hp⟩
  dsimp only at ok hk hf ho hl hp ⊢
  clear ok0
  by_cases hlt : k < b.length
  · have c2 : decide (k < b.length) = true := by simpa using hlt
    have hgood := bfind_good b k
    obtain ⟨f', rfl⟩ : ∃ f', f = f' + 1 := ⟨f - 1, by omega⟩
    have hpk : pk b (f' + 1) k fr out = if (bfind b k).1 < 4 then pk b f' (k + 1) fr out else pk b f' (k + (bfind b k).1) (k + (bfind b k).1) (lits b fr k out ++ (put (2 * (bfind b k).1 + 1) ++ put (bfind b k).2)) := by rw [pk, if_pos hlt]
    have HK := Lib.hid (hp.out.trans hpk)
    clear hpk
    have cf := fun R => c_found' st.ln b o k st.bx.length (st.bx.length + 1) (st.bx.length + 2) es tag out ⟨pkBx st.bx o b es tag out fr junk, ln⟩ R (by omega) hk pk_0 pk_1 pk_2 ok
    have CF := Lib.hid cf
    clear cf
    obtain ⟨g1, g2, g3⟩ := hgood
    generalize bfind b k = q at *
    obtain ⟨n, d⟩ := q
    dsimp only at g1 g2 g3 HK CF
    have wk : IntKind.i64.wrap ((k : Int) + 1) = (k : Int) + 1 := IntWalk.i64_in _ (by omega)
    by_cases hn : n < 4
    · have HK2 := Lib.hid (HK.out.trans (if_pos hn))
      have c3 : decide ((n : Int) < 4) = true := by rw [decide_eq_true_eq]; omega
      clear HK g3
      go_simp
      refine CF.out _ fun es' ln' junk' ok' => ?_
      go_simp
      exact ⟨⟨⟨k + 1, fr, f', out, es', tag, ln', junk ++ junk'⟩, ok', by show k + 1 ≤ b.length; omega, by show fr ≤ k + 1; omega, ho, by show b.length < k + 1 + f'; omega, HK2⟩, by go_simp, by rw [pk_app], by show f' < f' + 1; omega⟩
    · have c3 : decide ((n : Int) < 4) = false := by rw [decide_eq_false_iff_not]; omega
      have HK2 := Lib.hid (HK.out.trans (if_neg hn))
      obtain ⟨g4, g5, g6, g7⟩ := g3 (by omega)
      clear HK g3 g7
      have hll := (@lits_len b fr k out hf hk (by omega)).2.1
      go_simp
      refine CF.out _ fun es1 ln1 junk1 ok1 => ?_
      go_simp
      refine c_lits st.ln b o fr k (k + 1) st.bx.length (st.bx.length + 3) (st.bx.length + 4) es1 tag out _ _ (by omega) hk (by omega) pk_0r pk_3r pk_4r (by omega) (by omega) ok1 fun tag2 ln2 ok2 => ?_
      generalize lits b fr k out = out2 at *
      have pd := g_PutD (2 * n + 1) (by omega)
      rw [show ((2 * n + 1 : Nat) : Int) = 2 * (n : Int) + 1 by omega] at pd
      have PD := Lib.hid pd
      have pl1 := put_len 2 (2 * n + 1) (by omega) (by omega)
      have pp1 := put_pos (2 * n + 1)
      have PD2 := Lib.hid (g_PutD d (by omega))
      have pl2 := put_len 2 d (by omega) (by omega)
      have pp2 := put_pos d
      clear pd
      generalize put (2 * n + 1) = u1 at *
      generalize put d = u2 at *
      have w2 : IntKind.u64.wrap (n : Int) = (n : Int) := IntWalk.u64_in _ (by omega)
      have w3 : IntKind.u64.wrap (2 * (n : Int)) = 2 * (n : Int) := IntWalk.u64_in _ (by omega)
      have w4 : IntKind.u64.wrap (2 * (n : Int) + 1) = 2 * (n : Int) + 1 := IntWalk.u64_in _ (by omega)
      have w5 : IntKind.u64.wrap (d : Int) = (d : Int) := IntWalk.u64_in _ (by omega)
      go_simp
      refine draw [(true, false), (false, false), (false, false), (false, false), (false, false), (false, false), (false, true), (false, true)] (by kernel_rfl) (by kernel_rfl) ?_
      go_simp
      refine (PD.out _).mono ?_
      rintro o2 st2 ⟨rfl, rfl⟩
      go_simp
      refine ⟨encB_lens _, ok2.app rfl (by intro h; rw [h] at pp1; cases pp1) (by omega) fun tag3 ln3 ok3 => ?_⟩
      go_simp
      refine draw [(true, false), (false, false), (false, false), (false, false), (false, true), (false, true)] (by kernel_rfl) (by kernel_rfl) ?_
      go_simp
      refine (PD2.out _).mono ?_
      rintro o2 st2 ⟨rfl, rfl⟩
      go_simp
      refine ⟨encB_lens _, ok3.app rfl (by intro h; rw [h] at pp2; cases pp2) (by rw [List.length_append]; omega) fun tag4 ln4 ok4 => ?_⟩
      rw [List.append_assoc] at ok4
      go_simp
      have hol : (out2 ++ (u1 ++ u2)).length ≤ 1 + 4 * (k + n) := by rw [List.length_append, List.length_append]; omega
      generalize out2 ++ (u1 ++ u2) = out3 at *
      clear ok1 ok2 ok3 CF PD PD2 w2 w3 w4 w5 pl1 pl2 pp1 pp2 hll c3
      refine loop_of (σ := { y : Nat × List Ent × List (Nat × Nat × Nat) × List (List AV) // k + 1 ≤ y.1 ∧ y.1 ≤ k + n ∧ PS st.ln b y.1 y.2.1 tag4 out3 y.2.2.1 }) (fun y => ⟨96, [(12, .s (.int .i64 (y.1.1 : Int))), (9, .s (.int .i64 (k : Int))), (10, .s (.int .i64 (n : Int))), (8, .fn (.func 13) [.bp (st.bx.length + 4) 0, .bp (st.bx.length + 3) 0, .bp st.bx.length 0]), (7, .bp (st.bx.length + 4) 0), (6, .bp (st.bx.length + 3) 0),
        (5, .fn (.func 11) [.bp st.bx.length 0, .bp (st.bx.length + 2) 0]), (4, .bp (st.bx.length + 2) 0), (1, .bp st.bx.length 0)]⟩)
        (fun y => ⟨pkBx st.bx o b y.1.2.1 tag4 out3 fr y.1.2.2.2, y.1.2.2.1⟩) (fun y => k + n - y.1.1) ⟨(k + 1, es1, ln4, junk ++ junk1), Nat.le_refl _, by show k + 1 ≤ k + n; omega, ok4⟩ (by go_simp) (by simp only [pk_app]) ?_
      clear ok4
      rintro ⟨⟨j, es5, ln5, junk5⟩, hj1, hj2, ok5⟩
      dsimp only at hj1 hj2 ok5 ⊢
      have wkn : IntKind.i64.wrap ((k : Int) + (n : Int)) = (k : Int) + (n : Int) := IntWalk.i64_in _ (by omega)
      have wj : IntKind.i64.wrap ((j : Int) + 1) = (j : Int) + 1 := IntWalk.i64_in _ (by omega)
      by_cases hjn : j < k + n
      · have e1 : decide ((j : Int) < (k : Int) + (n : Int)) = true := by rw [decide_eq_true_eq]; omega
        have wl : IntKind.i64.wrap ((b.length : Int) - (j : Int)) = (b.length : Int) - (j : Int) := IntWalk.i64_in _ (by omega)
        by_cases hj4 : b.length < j + 4
        · have e2 : decide (4 ≤ (b.length : Int) - (j : Int)) = false := by rw [decide_eq_false_iff_not]; omega
          go_simp
          exact ⟨⟨(j + 1, es5, ln5, junk5), by show k + 1 ≤ j + 1; omega, by show j + 1 ≤ k + n; omega, ok5.skip hj4⟩, by go_simp, rfl, by show k + n - (j + 1) < k + n - j; omega⟩
        · have e2 : decide (4 ≤ (b.length : Int) - (j : Int)) = true := by rw [decide_eq_true_eq]; omega
          have hq4 := four_len (b := b) (k := j) (by omega)
          obtain ⟨a1, a2, a3, a4, hq⟩ := four_is hq4
          have hflat : (encB [a1, a2, a3, a4]).flatten = [.s (.int .u8 (a1.toNat : Int)), .s (.int .u8 (a2.toNat : Int)), .s (.int .u8 (a3.toNat : Int)), .s (.int .u8 (a4.toNat : Int))] := by simp [encB]
          have hkv : (AV.agg [.s (.int .u8 (a1.toNat : Int)), .s (.int .u8 (a2.toNat : Int)), .s (.int .u8 (a3.toNat : Int)), .s (.int .u8 (a4.toNat : Int))]).lit = some (keyV (four b j)) := by rw [hq]; rfl
          have hko := keyV_ok (four b j) hq4
          have HS := Lib.hid hq
          have hfind := ok5.find (four b j)
          clear hq
          go_simp
          refine slice_B (j := j) (m := 4) (s := [a1, a2, a3, a4]) rfl (by rw [IntWalk.i64_in _ (by omega)]; omega) (by omega) HS.out ?_
          go_simp
          rcases hfind with ⟨hnf, hf⟩ | ⟨i, e, hi, heq, hf⟩
          · refine ent_none hkv places_ty hko ok5.keysOk pk_1r hf ty41 rfl ?_
            go_simp
            refine ⟨by simp, ?_⟩
            go_simp
            refine ent_store (get_set pk_1r) (p := (keyV (four b j), .s (.slice none 0 0))) (by simp) ?_
            go_simp
            refine ⟨⟨(j + 1, es5 ++ [⟨four b j, [j], ln5.length⟩], ln5 ++ [(1, 3, 1)], junk5 ++ [[.s (.int .u8 (a1.toNat : Int)), .s (.int .u8 (a2.toNat : Int)), .s (.int .u8 (a3.toNat : Int)), .s (.int .u8 (a4.toNat : Int))]]), by show k + 1 ≤ j + 1; omega, by show j + 1 ≤ k + n; omega, ok5.new (by omega) hnf⟩, by go_simp, ?_, by show k + n - (j + 1) < k + n - j; omega⟩
            dsimp only
            rw [← pk_app, ← pk_s1r (es := es5)]
            simp [Ent.pair, encI]
          · refine ent_some hkv places_ty hko ok5.keysOk pk_1r hf ?_
            go_simp
            have hel := ok5.has e (List.mem_of_getElem? hi)
            have hlk := cnd_len b j (four b j)
            rw [heq] at hel
            rw [← hel] at hlk
            refine ⟨by rw [encI_len]; simp; omega, by rw [encI_len]; exact ok5.rows e (List.mem_of_getElem? hi), encI_lens _, ?_⟩
            clear hel
            go_simp
            refine ent_store pk_1r hf.1 ?_
            go_simp
            refine ⟨⟨(j + 1, es5.set i ⟨e.q, e.l ++ [j], e.id⟩, ln5.set e.id (e.l.length + 1, 3, 1), junk5 ++ [[.s (.int .u8 (a1.toNat : Int)), .s (.int .u8 (a2.toNat : Int)), .s (.int .u8 (a3.toNat : Int)), .s (.int .u8 (a4.toNat : Int))]]), by show k + 1 ≤ j + 1; omega, by show j + 1 ≤ k + n; omega, ok5.more (by omega) hi heq⟩, by go_simp, ?_, by show k + n - (j + 1) < k + n - j; omega⟩
            dsimp only
            rw [← pk_app, ← pk_s1r (es := es5), map_set_pair]
            simp [Ent.pair, encI, heq]
      · have e1 : decide ((j : Int) < (k : Int) + (n : Int)) = false := by rw [decide_eq_false_iff_not]; omega
        obtain rfl : j = k + n := by omega
        go_simp
        refine ⟨⟨⟨k + n, k + n, f', out3, es5, tag4, ln5, junk5⟩, ok5, by show k + n ≤ b.length; omega, Nat.le_refl _, hol, by show b.length < k + n + f'; omega, HK2⟩, by go_simp, ?_, by show f' < f' + 1; omega⟩
        dsimp only
        rw [show (k : Int) + (n : Int) = ((k + n : Nat) : Int) by omega, pk_s4]
  · have c2 : decide (k < b.length) = false := by simpa using hlt
    obtain ⟨f', rfl⟩ : ∃ f', f = f' + 1 := ⟨f - 1, by omega⟩
    have hfin : packL b = lits b fr b.length out := by rw [hp.out, pk, if_neg hlt]
    have hll := (@lits_len b fr b.length out (by omega) (Nat.le_refl _) (by omega)).2.1
    rw [← hfin] at hll
    have HF := Lib.hid hfin
    clear hfin
    go_simp
    refine c_lits st.ln b o fr b.length k st.bx.length (st.bx.length + 3) (st.bx.length + 4) es tag out _ _ (by omega) (Nat.le_refl _) (by omega) pk_0 pk_3 pk_4 (by omega) (by omega) ok fun tag2 ln2 ok2 => ?_
    rw [← HF.out] at ok2 ⊢
    generalize packL b = P at *
    clear HF ok
    by_cases hlp : b.length < P.length
    · have HQ := Lib.hid (HPK.out.trans (if_pos hlp))
      have c4 : decide (b.length < P.length) = true := by simpa using hlp
      go_simp
      refine ⟨encB_lens _, ?_⟩
      have hx : [[AV.s (.int .u8 0)]] = encB [0] := rfl
      rw [hx]
      by_cases hb0 : b = []
      · subst hb0
        refine ⟨by simp [encB], encB_lens _, .inr ⟨rfl, ?_⟩⟩
        go_simp
        rw [HQ.out]
        refine .forget ?_ pk_boxes ?_
        · simp [AV.forget, AV.forget1, AV.forget0, InB_tup, InB_s, InB_none]
        · exact ⟨_, rfl, Wk.refl _, by simp [AS.cut, pk_take, ok2.pre]⟩
      · refine ⟨by rw [encB_len, encB_len]; simp; omega, encB_lens _, .inl ⟨.inr (fun h => hb0 (by simpa [encB] using h)), ?_⟩⟩
        rw [encB_app]
        go_simp
        rw [HQ.out]
        refine .forget ?_ pk_boxes ?_
        · simp [AV.forget, AV.forget1, AV.forget0, InB_tup, InB_s, InB_none]
        · exact ⟨_, rfl, Wk.refl _, by simp [AS.cut, pk_take, app_pre ok2.pre]⟩
    · have HQ := Lib.hid (HPK.out.trans (if_neg hlp))
      have c4 : decide (b.length < P.length) = false := by simpa using hlp
      go_simp
      rw [HQ.out]
      refine .forget ?_ pk_boxes ?_
      · simp [AV.forget, AV.forget1, AV.forget0, InB_tup, InB_s, InB_none]
      · exact ⟨_, rfl, Wk.refl _, by simp [AS.cut, pk_take, ok2.pre]⟩
end Go.Proofs.Ytilpiclmdmnlkaa
