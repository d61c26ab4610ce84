/- Merged: AOpTok, ALsT, Bulk. -/
import Derived.Test.YtilpiclmdmnlkaaZ23
import Derived.Test.YtilpiclmdmnlkaaRows
/- The argument []Token of layer 10. -/
set_option linter.unusedVariables false
set_option linter.unusedSimpArgs false
namespace Go.Proofs.Ytilpiclmdmnlkaa
open Go.ChangeShapes Go.WideShapes Go.ChangeAt Go.RowKit
def encTk (o : Bool) (t : Tok) : List AV := [.sl o .none (encB t.b), .s (.int .i64 t.n), .s (.int .i64 t.back)]
def encTks (o : Bool) (l : List Tok) : List (List AV) := l.map (encTk o)
structure Tok.fits (t : Tok) : Prop where
  b : t.b.length ≤ 140737488351232
  n : -9223372036854775808 ≤ t.n ∧ t.n ≤ 9223372036854775807
  back : -9223372036854775808 ≤ t.back ∧ t.back ≤ 9223372036854775807
section
variable {H : Type} {enc : TypeId × Value → H} {W : World}
theorem open_bytes10 {m : Nat} {cs : List Value} {y : DataW H × List MemPlace} (h : DataW.trod enc Try.prog W 0 (fun _ => true) true m 23 cs = some y) (hl : Light Try.prog 23 y.1) : ∃ l : List UInt8, l.length ≤ 140737488351232 ∧ Reads W [.sl false .none (encB l)] cs := by
  obtain ⟨l, _, q2, _, q3⟩ := open_slice_gen (fun c : UInt8 => [AV.s (.int .u8 c.toNat)]) (fun _ => True) Try.underlying23 (by kernel_rfl : Try.prog.cellsOf 5 = 1) (by decide) (by rw [show Try.prog.bytesOf 5 = 1 by kernel_rfl]; decide) (fun _ => rfl)
    (fun m' cs' y' hm h' hl' => open_byte10 h') h hl
  rw [show Try.prog.bytesOf 5 = 1 by kernel_rfl] at q2
  exact ⟨l, by omega, q3⟩
set_option maxRecDepth 20000 in
theorem open_tok (n : Nat) (cs : List Value) (y : DataW H × List MemPlace) (h : DataW.trod enc Try.prog W 0 (fun _ => true) true n 25 cs = some y) (hl : Light Try.prog 25 y.1) : ∃ t : Tok, t.fits ∧ Reads W (encTk false t) cs := by
  have hu := Try.underlying25
  obtain ⟨xs, m, rfl, rfl, hlen, hxl, hf⟩ := DataW.trod_struct hu h
  rw [show Try.prog.cellsOf 25 = 3 by kernel_rfl] at hlen
  match cs, hlen with
  | [c0, c1, c2], _ =>
  match xs, hxl with
  | [y0, y1, y2], _ =>
  have l1 : Try.prog.cellsOf 23 = 1 := by kernel_rfl
  have l2 : Try.prog.cellsOf 3 = 1 := by kernel_rfl
  have f0 := hf 0 _ rfl
  have f1 := hf 1 _ rfl
  have f2 := hf 2 _ rfl
  simp only [l1, l2, List.drop_succ_cons, List.drop_zero, List.take_succ_cons, List.take_zero, List.getElem?_cons_succ, List.getElem?_cons_zero] at f0 f1 f2
  have h0 := hl.field hu (j := 0) rfl (d := y0.1) rfl
  obtain ⟨b, g0, r0⟩ := open_bytes10 f0 h0
  obtain ⟨k, e1, _, w1⟩ := DataW.trod_int Try.underlying3 f1
  obtain ⟨k2, e2, _, w2⟩ := DataW.trod_int Try.underlying3 f2
  cases e1
  cases e2
  exact ⟨⟨b, k, k2⟩, ⟨g0, i64_of_wf w1, i64_of_wf w2⟩, r0.app ((Reads.s rfl rfl).app (Reads.s rfl rfl))⟩
/-- An argument of type []Token. -/
theorem open_toks {A : Option Addr} {len cap : Nat} {d : DataW H} {p : List MemPlace} (h : DataW.Trod enc Try.prog W 0 (fun _ => true) true 22 (.slice A len cap) d p) (hl : Light Try.prog 22 d) : ∃ l : List Tok, (∀ t ∈ l, t.fits) ∧ VSim (gh0 W) (.sl false .none (encTks false l)) (.slice A len cap) := by
  obtain ⟨n, hn⟩ := h
  obtain ⟨l, q1, _, _, q3⟩ := open_slice_gen (encTk false) Tok.fits Try.underlying22 (by kernel_rfl : Try.prog.cellsOf 25 = 3) (by decide) (by rw [show Try.prog.bytesOf 25 = 40 by kernel_rfl]; decide) (fun _ => rfl)
    (fun m' cs' y' hm h' hl' => open_tok m' cs' y' h' hl') hn hl
  exact ⟨l, q1, Reads.one q3⟩
end
end Go.Proofs.Ytilpiclmdmnlkaa
/- Laws of layer 10: tokens laid down one behind the other. -/
set_option linter.unusedVariables false
set_option linter.unusedSimpArgs false
namespace Go.Proofs.Ytilpiclmdmnlkaa
open Go.RowKit
attribute [local go_sem] normK_app aopsK_app atSt_app ofK_app stK_app extK_val panicK_app thenA_normal thenA_exit thenA_ret thenA_panic blockK_normal blockK_exit blockK_ret blockK_panic callK_ret callK_panic awp_skip awp_region awp_draw awp_seq awp_cond acond_true acond_false dstAt_zero dstAt_succ guardV_some aops_guard_eq aguard_true aguard_true' aguard_false aguard_false' aguard_und ogF_und ogS_und ord_guard ogF_tt ogF_ft ogF_tf ogF_ff ogS_tt ogS_ff ogS_ft ogS_tf awp_block awp_loop awp_exit awp_ret awp_label awp_scope aops_nil aops_plain exec_move exec_assign exec_pick exec_alloc pick_true pick_false free_pick fpick_true fpick_false exec_box exec_build exec_buildSlice exec_load exec_store exec_nilCheck exec_binOp abinK_some exec_unOp aunK_some exec_convert conv_s exec_makeInterface exec_makeFunc exec_slice exec_fieldAddr exec_field exec_indexAddr exec_index exec_extract exec_call exec_panic call_value call_builtin alitsK_some acallB_true acallB_false callF_fn bi_len eval_tmp eval_const eval_func look_cons look_nil put_some put_none ofV_int ofV_bool ofV_float ofV_string ofV_slice ofV_ptr ofV_map ofV_agg ofV_tup lit_s box_eq box_var get_here get_here0 set_here set_here0 number_nil number_cons retK_ret retK_normal retK_panic ends1 ends2 ends3 ends0 retOne_app endsC TRun AV.lits AV.lit0 aordF_app aordS_not aordS_late ord_nil ord_free ord_solo freeK_app free_move free_assign free_build free_buildSlice free_load free_nilCheck free_binOp free_unOp free_convert free_makeInterface free_makeFunc free_slice free_fieldAddr free_field free_indexAddr free_index free_extract free_len free_call freeF_fn agives_false roundK_normal roundK_exit roundK_ret roundK_panic roundC_normal roundC_exit roundC_ret roundC_panic sub_nil sub_cons aalloc abox aiface afield aindex aextract alen abuild abuildSlice afill afillS splice Tag.calm oneV AV.forget AV.forget1 one_any dat0_any known_any cells_any forget0_any one_s dat0_s known_s cells_s forget0_s one_agg dat0_agg known_agg cells_agg forget0_agg one_tup dat0_tup known_tup cells_tup forget0_tup one_bp dat0_bp known_bp cells_bp forget0_bp one_rp dat0_rp known_rp cells_rp forget0_rp one_sl dat0_sl known_sl cells_sl forget0_sl one_fn dat0_fn known_fn cells_fn forget0_fn one_ifc dat0_ifc known_ifc cells_ifc forget0_ifc okCells_nil okCells_cons load_rpA load_rp1 loadB_some load_bpA load1_some at1_some load_bp1 storeB_some store_bp fieldAddr_bp fieldAddr_rp idxE_some index_sl index_arr nil_bp nil_rp nil_fn bi_append appB_sl appB_str aappend one_mp dat0_mp known_mp cells_mp forget0_mp exec_makeMap exec_lookup exec_mapUpdate withOk_true withOk_false exec_mapEntry exec_entryStore exec_arrAt exec_makeSlice arrAt_sl ty2 ty3 ty4 ty5 ty6 ty7 ty8 ty9 ty10 ty11 ty12 ty13 ty14 ty15 ty16 ty17 ty18 ty19 ty20 ty21 ty22 ty23 ty24 ty25 ty27 ty28 ty37 ty38 ty41 ty48 ty51 ty52 ty57 ty58 ty59 ty61 ty62 ty63 ty64 ty65 ty66 hb0 hb1 hb2 hb3 hb4 hb5 hb6 hb7 hb8 hb9 hb10 hb11 hb12 hb13 hb14 hb15 hb16 hb17 hb18 hb19 hb20 hb21 hb22 hb23 hb24 hb25 hb26 hb27 hb28 hb29 hb30 hb31 hb32 hb33 hb34
attribute [local go_sem] encB_len
set_option maxRecDepth 20000
theorem encTks_len (o : Bool) (l : List Tok) : (encTks o l).length = l.length := by simp [encTks]
theorem encTk_len (o : Bool) (t : Tok) : (encTk o t).length = 3 := rfl
theorem encTks_get (o : Bool) {l : List Tok} {k : Nat} {t : Tok} (h : l[k]? = some t) : (encTks o l)[k]? = some (encTk o t) := by rw [encTks, List.getElem?_map, h]; rfl
theorem encTks_at (o : Bool) {l : List Tok} {k : Nat} {t : Tok} (h : l[k]? = some t) : ∀ h', (encTks o l)[k]'h' = [.sl o .none (encB t.b), .s (.int .i64 t.n), .s (.int .i64 t.back)] := fun h' => by
  have := encTks_get o h
  rw [List.getElem?_eq_getElem h'] at this
  exact Option.some.inj this
attribute [local go_sem] encTks_len encTk_len
/-- What is held: the bytes laid down, and what they say. -/
structure TS (L0 : List (Nat × Nat × Nat)) (p w : List UInt8) (tag : Tag) (ln : List (Nat × Nat × Nat)) : Prop where
  pre : ln.take L0.length = L0
  want : ln[L0.length]? = some (w.length, 5, 1)
  ne : p ≠ []
  pt : tag = .full ∨ ∃ id, tag = .lin id ∧ ln[id]? = some (p.length, 5, 1) ∧ L0.length < id
theorem TS.appP {L0 : List (Nat × Nat × Nat)} {p w m : List UInt8} {tag : Tag} {ln : List (Nat × Nat × Nat)} {B news : List (List AV)} (h : TS L0 p w tag ln) {K : AV → AS → Prop} (hm : news = encB m) (hm0 : m ≠ [])
    (hlen : p.length + m.length ≤ 140737488355328) (hK : ∀ tag' ln', TS L0 (p ++ m) w tag' ln' → K (.sl true tag' (encB (p ++ m))) ⟨B, ln'⟩) : aapp 5 1 1 (.sl true tag (encB p)) news ⟨B, ln⟩ K := by
  have hwl := (List.getElem?_eq_some_iff.1 h.want).1
  rcases h.pt with rfl | ⟨id, rfl, h2, h3⟩
  · subst hm
    refine ⟨by rw [encB_len, encB_len]; omega, encB_lens p, .inl ⟨.inr (by intro h; exact hm0 (by simpa [encB] using h)), ?_⟩⟩
    rw [encB_app, encB_len]
    refine hK _ _ ⟨?_, ?_, by simp [hm0], .inr ⟨_, rfl, by simp, hwl⟩⟩
    · rw [List.take_append_of_le_length (Nat.le_of_lt hwl)]; exact h.pre
    · rw [List.getElem?_append_left hwl]; exact h.want
  · have hlt := (List.getElem?_eq_some_iff.1 h2).1
    refine aapp_bytes hm h2 hlen (hK _ _ ⟨?_, ?_, by simp [hm0], .inr ⟨id, rfl, by rw [List.getElem?_set_self hlt]; simp, h3⟩⟩)
    · exact (set_pre (n := L0.length) (by omega)).trans h.pre
    · rw [List.getElem?_set_ne (by omega)]; exact h.want
theorem TS.appW {L0 : List (Nat × Nat × Nat)} {p w m : List UInt8} {tag : Tag} {ln : List (Nat × Nat × Nat)} {B news : List (List AV)} {own : Bool} (h : TS L0 p w tag ln) {K : AV → AS → Prop} (hm : news = encB m)
    (hlen : w.length + m.length ≤ 140737488355328) (hK : ∀ ln', TS L0 p (w ++ m) tag ln' → K (.sl true (.lin L0.length) (encB (w ++ m))) ⟨B, ln'⟩) : aapp 5 1 1 (.sl own (.lin L0.length) (encB w)) news ⟨B, ln⟩ K := by
  have hwl := (List.getElem?_eq_some_iff.1 h.want).1
  refine aapp_bytes hm h.want hlen (hK _ ⟨?_, ?_, h.ne, ?_⟩)
  · exact (set_pre (n := L0.length) (Nat.le_refl _)).trans h.pre
  · rw [List.getElem?_set_self hwl]; simp
  · rcases h.pt with rfl | ⟨id, rfl, h2, h3⟩
    · exact .inl rfl
    · exact .inr ⟨id, rfl, by rw [List.getElem?_set_ne (by omega)]; exact h2, h3⟩
theorem TS.tail {L0 : List (Nat × Nat × Nat)} {p w : List UInt8} {tag : Tag} {ln : List (Nat × Nat × Nat)} (h : TS L0 p w tag ln) : ln = L0 ++ ln.drop L0.length := by
  conv => lhs; rw [← List.take_append_drop L0.length ln, h.pre]
theorem g_rPutD (n : Nat) (hn : n < 18446744073709551616) : Gives Try.prog 4 [.s (.int .u64 n)] (.sl true .none (encB (put n))) := by
  intro st
  exact .dropR (g_rPut n hn ⟨_, rfl, InB_none.2 trivial, .same, rfl, by simp [AS.cut]⟩)
structure TkSt where
  k : Nat
  p : List UInt8
  w : List UInt8
  tag : Tag
  ln : List (Nat × Nat × Nat)
  bx : List (List AV)
structure TkOk (L0 : List (Nat × Nat × Nat)) (B0 : List (List AV)) (l : List Tok) (z : TkSt) : Prop where
  k : z.k ≤ l.length
  ts : TS L0 z.p z.w z.tag z.ln
  is : laid (l.take z.k) = (z.p, z.w)
  bx : z.bx = B0 ++ encTks false (l.take z.k)
set_option maxHeartbeats 8000000 in
theorem l_BlockTokens (l : List Tok) (hl : ∀ t ∈ l, t.fits) : Gives Try.prog 3 [.sl false .none (encTks false l)] (.s (.bool true)) := by
  intro st
  refine bound_sl 0 rfl fun hb => ?_
  rw [encTks_len] at hb
  refine enter Try.func3 rfl Try.ntmps3 Try.results3 (by simp) ?_
  go_simp
  refine grow_tmp 5 1 4 rfl ?_
  go_simp
  have ts0 : TkOk st.ln st.bx l ⟨0, [1], [], .full, st.ln ++ [(0, 5, 1)], st.bx⟩ := ⟨Nat.zero_le _, ⟨by simp, by simp, by simp, .inl rfl⟩, rfl, by simp [encTks]⟩
  refine loop_of (σ := {z : TkSt // TkOk st.ln st.bx l z})
    (fun z => ⟨135, [(5, .s (.int .i64 z.1.k)), (4, .sl true (.lin st.ln.length) (encB z.1.w)), (3, .sl true z.1.tag (encB z.1.p)), (0, .sl false .none (encTks false l))]⟩)
    (fun z => ⟨z.1.bx, z.1.ln⟩) (fun z => l.length - z.1.k) ⟨_, ts0⟩ (by go_simp; exact ⟨rfl, rfl⟩) rfl ?_
  clear ts0
  rintro ⟨⟨k, p, w, tag, ln, B⟩, ok⟩
  dsimp only
  have hk : k ≤ l.length := ok.k
  have hlaid := laid_ok (l.take k)
  rw [show laid (l.take k) = (p, w) from ok.is] at hlaid
  have hw := hlaid.len
  have hp := hlaid.plen
  dsimp only at hw hp
  by_cases hlt : k < l.length
  · have ht : l[k]? = some l[k] := List.getElem?_eq_getElem hlt
    obtain ⟨t, hte⟩ : ∃ t, t = l[k] := ⟨_, rfl⟩
    rw [← hte] at ht
    clear hte
    have hsn := laid_snoc ht
    rw [show laid (l.take k) = (p, w) from ok.is] at hsn
    have hf := hl t (List.mem_of_getElem? ht)
    have hg := encTks_at false ht
    have hbx : st.bx ++ encTks false (l.take (k + 1)) = B ++ [encTk false t] := by
      rw [show B = st.bx ++ encTks false (l.take k) from ok.bx]
      unfold encTks; rw [List.take_add_one, ht]; simp
    have i1 : decide (k < l.length) = true := by rw [decide_eq_true_eq]; exact hlt
    have i1' : decide ((k : Int) < (l.length : Int)) = true := by rw [decide_eq_true_eq]; omega
    have wk : IntKind.i64.wrap ((k : Int) + 1) = (k : Int) + 1 := IntWalk.i64_in _ (by omega)
    obtain ⟨r, hr1, hr2⟩ : ∃ r, r + w.length ≤ 2048 ∧ 2048 ≤ r + w.length := ⟨2048 - w.length, by omega, by omega⟩
    have wr : IntKind.i64.wrap (2048 - (w.length : Int)) = (r : Int) := by rw [IntWalk.i64_in _ (by omega)]; omega
    obtain ⟨b, n, back⟩ := t
    dsimp only [encTk] at hg hbx
    have HSN := Lib.hid hsn
    have HBX := Lib.hid hbx
    clear hsn hbx ht
    have hsz : b.length ≤ 140737488351232 := hf.b
    by_cases n0 : n = 0
    · subst n0
      by_cases b0 : b.length = 0
      · have j1 : ((b.length : Int) == 0) = true := by rw [beq_iff_eq]; omega
        have hlay : Tok.lay (p, w) ⟨b, 0, back⟩ = (p, w) := by unfold Tok.lay; rw [if_pos rfl, if_pos (.inl b0)]
        go_simp
        exact ⟨⟨⟨k + 1, p, w, tag, ln, B ++ [[.sl false .none (encB b), .s (.int .i64 0), .s (.int .i64 back)]]⟩, ⟨by show k + 1 ≤ l.length; omega, ok.ts, HSN.out.trans hlay, HBX.out.symm⟩⟩, by go_simp, rfl, by show l.length - (k + 1) < l.length - k; omega⟩
      have j1 : ((b.length : Int) == 0) = false := by rw [beq_eq_false_iff_ne]; omega
      by_cases b1 : 2048 < b.length + w.length
      · have j2 : decide ((r : Int) < (b.length : Int)) = true := by rw [decide_eq_true_eq]; omega
        have j3 : decide (r < b.length) = true := by rw [decide_eq_true_eq]; omega
        have hlay : Tok.lay (p, w) ⟨b, 0, back⟩ = (p, w) := by unfold Tok.lay; rw [if_pos rfl, if_pos (.inr b1)]
        go_simp
        exact ⟨⟨⟨k + 1, p, w, tag, ln, B ++ [[.sl false .none (encB b), .s (.int .i64 0), .s (.int .i64 back)]]⟩, ⟨by show k + 1 ≤ l.length; omega, ok.ts, HSN.out.trans hlay, HBX.out.symm⟩⟩, by go_simp, rfl, by show l.length - (k + 1) < l.length - k; omega⟩
      · have j2 : decide ((r : Int) < (b.length : Int)) = false := by rw [decide_eq_false_iff_not]; omega
        have j3 : decide (r < b.length) = false := by rw [decide_eq_false_iff_not]; omega
        have hlay : Tok.lay (p, w) ⟨b, 0, back⟩ = (p ++ (put (2 * b.length) ++ b), w ++ b) := by unfold Tok.lay; rw [if_pos rfl, if_neg (fun h => by rcases h with h | h; exact b0 h; exact b1 h)]
        have pd := g_rPutD (2 * b.length) (by omega)
        rw [show ((2 * b.length : Nat) : Int) = 2 * (b.length : Int) by omega] at pd
        have PD := Lib.hid pd
        have pl := put_len 2 (2 * b.length) (by omega) (by omega)
        have pp := put_pos (2 * b.length)
        clear pd
        have hb0 : b ≠ [] := by rintro rfl; exact b0 rfl
        generalize put (2 * b.length) = u at *
        have w2 : IntKind.u64.wrap (b.length : Int) = (b.length : Int) := IntWalk.u64_in _ (by omega)
        have w3 : IntKind.u64.wrap (2 * (b.length : Int)) = 2 * (b.length : Int) := IntWalk.u64_in _ (by omega)
        have hu0 : u ≠ [] := by rintro rfl; simp at pp
        have HLAY := Lib.hid hlay
        clear hlay
        go_simp
        refine (PD.out _).mono ?_
        rintro o2 st2 ⟨rfl, rfl⟩
        go_simp
        refine ⟨encB_lens _, ok.ts.appP rfl hu0 (by show p.length + u.length ≤ _; omega) fun tag1 ln1 ts1 => ?_⟩
        go_simp
        refine ⟨encB_lens _, ts1.appP rfl hb0 (by rw [List.length_append]; show p.length + u.length + b.length ≤ _; omega) fun tag2 ln2 ts2 => ?_⟩
        go_simp
        refine ⟨encB_lens _, ts2.appW rfl (by show w.length + b.length ≤ _; omega) fun ln3 ts3 => ?_⟩
        go_simp
        exact ⟨⟨⟨k + 1, p ++ u ++ b, w ++ b, tag2, ln3, B ++ [[.sl false .none (encB b), .s (.int .i64 0), .s (.int .i64 back)]]⟩, ⟨by show k + 1 ≤ l.length; omega, ts3, HSN.out.trans (HLAY.out.trans (by rw [List.append_assoc])), HBX.out.symm⟩⟩, by go_simp, rfl, by show l.length - (k + 1) < l.length - k; omega⟩
    · have n1 : (n == 0) = false := by rw [beq_eq_false_iff_ne]; exact n0
      have n2 : (n != 0) = true := by rw [bne_iff_ne]; exact n0
      have hno : ¬ (Tok.mk b n back).again w.length → Tok.lay (p, w) ⟨b, n, back⟩ = (p, w) := fun h => by unfold Tok.lay; rw [if_neg n0, if_neg h]
      by_cases c0 : 4 ≤ n
      rotate_left
      · have d0 : decide (4 ≤ n) = false := by rw [decide_eq_false_iff_not]; exact c0
        have hlay := hno (fun h => c0 h.1)
        go_simp
        exact ⟨⟨⟨k + 1, p, w, tag, ln, B ++ [[.sl false .none (encB b), .s (.int .i64 n), .s (.int .i64 back)]]⟩, ⟨by show k + 1 ≤ l.length; omega, ok.ts, HSN.out.trans hlay, HBX.out.symm⟩⟩, by go_simp, rfl, by show l.length - (k + 1) < l.length - k; omega⟩
      have d0 : decide (4 ≤ n) = true := by rw [decide_eq_true_eq]; exact c0
      by_cases c1 : n ≤ 255
      rotate_left
      · have d1 : decide (n ≤ 255) = false := by rw [decide_eq_false_iff_not]; exact c1
        have hlay := hno (fun h => c1 h.2.1)
        go_simp
        exact ⟨⟨⟨k + 1, p, w, tag, ln, B ++ [[.sl false .none (encB b), .s (.int .i64 n), .s (.int .i64 back)]]⟩, ⟨by show k + 1 ≤ l.length; omega, ok.ts, HSN.out.trans hlay, HBX.out.symm⟩⟩, by go_simp, rfl, by show l.length - (k + 1) < l.length - k; omega⟩
      have d1 : decide (n ≤ 255) = true := by rw [decide_eq_true_eq]; exact c1
      by_cases c2 : 1 ≤ back
      rotate_left
      · have d2 : decide (1 ≤ back) = false := by rw [decide_eq_false_iff_not]; exact c2
        have hlay := hno (fun h => c2 h.2.2.1)
        go_simp
        exact ⟨⟨⟨k + 1, p, w, tag, ln, B ++ [[.sl false .none (encB b), .s (.int .i64 n), .s (.int .i64 back)]]⟩, ⟨by show k + 1 ≤ l.length; omega, ok.ts, HSN.out.trans hlay, HBX.out.symm⟩⟩, by go_simp, rfl, by show l.length - (k + 1) < l.length - k; omega⟩
      have d2 : decide (1 ≤ back) = true := by rw [decide_eq_true_eq]; exact c2
      by_cases c3 : back ≤ 1024
      rotate_left
      · have d3 : decide (back ≤ 1024) = false := by rw [decide_eq_false_iff_not]; exact c3
        have hlay := hno (fun h => c3 h.2.2.2.1)
        go_simp
        exact ⟨⟨⟨k + 1, p, w, tag, ln, B ++ [[.sl false .none (encB b), .s (.int .i64 n), .s (.int .i64 back)]]⟩, ⟨by show k + 1 ≤ l.length; omega, ok.ts, HSN.out.trans hlay, HBX.out.symm⟩⟩, by go_simp, rfl, by show l.length - (k + 1) < l.length - k; omega⟩
      have d3 : decide (back ≤ 1024) = true := by rw [decide_eq_true_eq]; exact c3
      by_cases c4 : back ≤ (w.length : Int)
      rotate_left
      · have d4 : decide (back ≤ (w.length : Int)) = false := by rw [decide_eq_false_iff_not]; exact c4
        have hlay := hno (fun h => c4 h.2.2.2.2.1)
        go_simp
        exact ⟨⟨⟨k + 1, p, w, tag, ln, B ++ [[.sl false .none (encB b), .s (.int .i64 n), .s (.int .i64 back)]]⟩, ⟨by show k + 1 ≤ l.length; omega, ok.ts, HSN.out.trans hlay, HBX.out.symm⟩⟩, by go_simp, rfl, by show l.length - (k + 1) < l.length - k; omega⟩
      have d4 : decide (back ≤ (w.length : Int)) = true := by rw [decide_eq_true_eq]; exact c4
      obtain ⟨N, rfl⟩ : ∃ N : Nat, n = N := ⟨n.toNat, by omega⟩
      obtain ⟨D, rfl⟩ : ∃ D : Nat, back = D := ⟨back.toNat, by omega⟩
      by_cases c6 : 2048 < N + w.length
      · have j2 : decide ((r : Int) < (N : Int)) = true := by rw [decide_eq_true_eq]; omega
        have j3 : decide (r < N) = true := by rw [decide_eq_true_eq]; omega
        have hlay := hno (fun h => by have := h.2.2.2.2.2; dsimp only at this; omega)
        go_simp
        exact ⟨⟨⟨k + 1, p, w, tag, ln, B ++ [[.sl false .none (encB b), .s (.int .i64 N), .s (.int .i64 D)]]⟩, ⟨by show k + 1 ≤ l.length; omega, ok.ts, HSN.out.trans hlay, HBX.out.symm⟩⟩, by go_simp, rfl, by show l.length - (k + 1) < l.length - k; omega⟩
      · have j2 : decide ((r : Int) < (N : Int)) = false := by rw [decide_eq_false_iff_not]; omega
        have j3 : decide (r < N) = false := by rw [decide_eq_false_iff_not]; omega
        have hlay : Tok.lay (p, w) ⟨b, N, D⟩ = (p ++ (put (2 * N + 1) ++ put D), rep w D N) := by
          unfold Tok.lay
          rw [if_neg n0, if_pos ⟨c0, c1, c2, c3, c4, by show (N : Int) + (w.length : Int) ≤ 2048; omega⟩]
          simp
        have pd := g_rPutD (2 * N + 1) (by omega)
        rw [show ((2 * N + 1 : Nat) : Int) = 2 * (N : Int) + 1 by omega] at pd
        have PD := Lib.hid pd
        have PD2 := Lib.hid (g_rPutD D (by omega))
        have pl := put_len 2 (2 * N + 1) (by omega) (by omega)
        have pp := put_pos (2 * N + 1)
        have pl2 := put_len 2 D (by omega) (by omega)
        have pp2 := put_pos D
        clear pd
        generalize put (2 * N + 1) = u at *
        generalize put D = u2 at *
        have hu0 : u ≠ [] := by rintro rfl; simp at pp
        have hu2 : u2 ≠ [] := by rintro rfl; simp at pp2
        have w2 : IntKind.u64.wrap (N : Int) = (N : Int) := IntWalk.u64_in _ (by omega)
        have w3 : IntKind.u64.wrap (2 * (N : Int)) = 2 * (N : Int) := IntWalk.u64_in _ (by omega)
        have w4 : IntKind.u64.wrap (2 * (N : Int) + 1) = 2 * (N : Int) + 1 := IntWalk.u64_in _ (by omega)
        have w5 : IntKind.u64.wrap (D : Int) = (D : Int) := IntWalk.u64_in _ (by omega)
        have HLAY := Lib.hid hlay
        clear hlay hno
        go_simp
        refine (PD.out _).mono ?_
        rintro o2 st2 ⟨rfl, rfl⟩
        go_simp
        refine ⟨encB_lens _, ok.ts.appP rfl hu0 (by show p.length + u.length ≤ _; omega) fun tag1 ln1 ts1 => ?_⟩
        go_simp
        refine (PD2.out _).mono ?_
        rintro o2 st2 ⟨rfl, rfl⟩
        go_simp
        refine ⟨encB_lens _, ts1.appP rfl hu2 (by rw [List.length_append]; show p.length + u.length + u2.length ≤ _; omega) fun tag2 ln2 ts2 => ?_⟩
        go_simp
        clear ts1 PD PD2 w2 w3 w4 w5
        refine loop_of (σ := {y : Nat × List UInt8 × List (Nat × Nat × Nat) // y.1 ≤ N ∧ TS st.ln (p ++ u ++ u2) y.2.1 tag2 y.2.2 ∧ Hid (y.2.1 = rep w D y.1)})
          (fun y => ⟨135, [(9, .s (.int .i64 y.1.1)), (7, .s (.int .i64 N)), (6, .bp B.length 0), (5, .s (.int .i64 k)), (4, .sl true (.lin st.ln.length) (encB y.1.2.1)), (3, .sl true tag2 (encB (p ++ u ++ u2))), (0, .sl false .none (encTks false l))]⟩)
          (fun y => ⟨B ++ [[.sl false .none (encB b), .s (.int .i64 N), .s (.int .i64 D)]], y.1.2.2⟩) (fun y => N - y.1.1) ⟨(0, w, ln2), Nat.zero_le _, ts2, Lib.hid rfl⟩ (by go_simp) rfl ?_
        clear ts2
        rintro ⟨⟨j, R, ln4⟩, hj, ts4, HR⟩
        dsimp only at hj ts4 HR ⊢
        have hrl : R.length = w.length + j := by rw [HR.out]; exact rep_len D j w
        by_cases hjm : j < N
        · have e1 : decide ((j : Int) < (N : Int)) = true := by rw [decide_eq_true_eq]; omega
          have e1' : decide (j < N) = true := by rw [decide_eq_true_eq]; omega
          obtain ⟨ix, hx1, hx2⟩ : ∃ ix, ix + D ≤ w.length + j ∧ w.length + j ≤ ix + D := ⟨w.length + j - D, by omega, by omega⟩
          have j4 : IntKind.i64.wrap ((w.length : Int) + (j : Int) - (D : Int)) = (ix : Int) := by rw [IntWalk.i64_in _ (by omega)]; omega
          have j5 : IntKind.i64.wrap ((j : Int) + 1) = (j : Int) + 1 := IntWalk.i64_in _ (by omega)
          have j6 := encB_at? R ix (by omega)
          have hrs := rep_succ D j w
          rw [← HR.out, show R.length - D = ix by omega] at hrs
          obtain ⟨x, hx⟩ : ∃ x, x = R.getD ix 0 := ⟨_, rfl⟩
          rw [← hx] at j6 hrs
          have HRS := Lib.hid hrs
          clear hrs hx
          go_simp
          refine ts4.appW (m := [x]) rfl (by show R.length + 1 ≤ _; omega) fun ln5 ts5 => ?_
          go_simp
          exact ⟨⟨(j + 1, R ++ [x], ln5), by show j + 1 ≤ N; omega, ts5, Lib.hid HRS.out.symm⟩, by go_simp, rfl, by show N - (j + 1) < N - j; omega⟩
        · have e1 : decide ((j : Int) < (N : Int)) = false := by rw [decide_eq_false_iff_not]; omega
          have e1' : decide (j < N) = false := by rw [decide_eq_false_iff_not]; omega
          obtain rfl : j = N := by omega
          go_simp
          exact ⟨⟨⟨k + 1, p ++ u ++ u2, R, tag2, ln4, B ++ [[.sl false .none (encB b), .s (.int .i64 j), .s (.int .i64 D)]]⟩, ⟨by show k + 1 ≤ l.length; omega, ts4, HSN.out.trans (HLAY.out.trans (by rw [HR.out, List.append_assoc])), HBX.out.symm⟩⟩, by go_simp, rfl, by show l.length - (k + 1) < l.length - k; omega⟩
  · have i1 : decide (k < l.length) = false := by rw [decide_eq_false_iff_not]; exact hlt
    obtain rfl : k = l.length := by omega
    have hu := laid_unp l
    have his : laid l = (p, w) := by have := ok.is; rwa [List.take_length] at this
    rw [his] at hu
    dsimp only at hu
    have c1 := (g_Unpack p true).weak (args := [.sl true tag (encB p)]) ⟨fun g x h => forget0_sim h, trivial⟩
    rw [hu] at c1
    unfold tupB at c1
    have c2 := g_same10 w w true true
    rw [decide_eq_true rfl] at c2
    have C1 := Lib.hid c1
    have C2 := Lib.hid g_live10
    have C3 := Lib.hid (c2.weak (args := [.sl true .none (encB w), .sl true (.lin st.ln.length) (encB w)]) ⟨.refl _, fun g x h => forget0_sim h, trivial⟩)
    clear c1 c2 hu
    go_simp
    refine (C1.out _).mono ?_
    rintro o2 st2 ⟨rfl, rfl⟩
    go_simp
    refine (C2.out _).mono ?_
    rintro o2 st2 ⟨rfl, rfl⟩
    go_simp
    refine (C3.out _).mono ?_
    rintro o2 st2 ⟨rfl, rfl⟩
    go_simp
    obtain ⟨K, hK⟩ : ∃ K, ln = st.ln ++ K := ⟨_, ok.ts.tail⟩
    rw [show B = st.bx ++ encTks false (l.take l.length) from ok.bx, hK]
    exact end_pure rfl (.s _)
end Go.Proofs.Ytilpiclmdmnlkaa
/- What the bound of the second form gives. -/
namespace Go.Proofs.Ytilpiclmdmnlkaa

theorem bulk_one {H : Type} (d : DataW H) : 1 ≤ Rows.uptoBulk d := by
  cases d with
  | lit l => cases l <;> simp [Rows.uptoBulk]
  | _ => simp [Rows.uptoBulk]
theorem bulk_length {H : Type} (l : List (DataW H)) : l.length ≤ Rows.uptoBulkAll l := by
  induction l with
  | nil => simp
  | cons x r ih => have := bulk_one x; simp only [Rows.uptoBulkAll, List.length_cons]; omega
theorem bulk_slice {H : Type} (elems spare : List (DataW H)) : elems.length + spare.length ≤ Rows.uptoBulk (.slice elems spare) := by
  have h1 := bulk_length elems
  have h2 := bulk_length spare
  simp only [Rows.uptoBulk]
  omega
end Go.Proofs.Ytilpiclmdmnlkaa
