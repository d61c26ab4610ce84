/- Merged: AvmQ. -/
import Derived.Test.YtfheoidnahhnlaaGreatDoorZ30
set_option linter.unusedVariables false
set_option linter.unusedSimpArgs false
namespace Go.Proofs.YtfheoidnahhnlaaGreatDoor
open Go.RowKit
section
variable {P : Program} {a : Act} {w w' : World} {o : Oper} {next : Act → World → Prop} {Q : Exit → Act → World → Prop}
theorem wp_val {v : Value} (he : (execOp a.eval o).run P w = .ok (.value v) w') (h : next (a.put o.dst v) w') : Oper.wp P o a w next Q := by
  unfold Oper.wp
  rw [he]
  exact h
theorem wp_skip' (he : (execOp a.eval o).run P w = .ok .skip w') (h : next (a.put o.dst undef) w') : Oper.wp P o a w next Q := by
  unfold Oper.wp
  rw [he]
  exact h
theorem exec_app {x y : Operand} {t u : TypeId} {r : Value} (hop : o.op = .call ⟨.builtin .append, #[x, y], #[t, u]⟩) (h : (Builtin.append_ #[t, u] o.type #[a.eval x, a.eval y]).run P w = .ok r w') : (execOp a.eval o).run P w = .ok (.value r) w' := by
  have e : execOp a.eval o = (do pure (.value (← Builtin.append_ #[t, u] o.type #[a.eval x, a.eval y])) : Sem Next) := by
    simp only [execOp, hop, resolve]
    show Sem.bind (Sem.pure _) _ = _
    simp only [Sem.bind, invoke, List.map_toArray, List.map_cons, List.map_nil]
    rfl
  rw [e]
  simp only [Sem.run_bind, h, Result.andThen_ok, Sem.run_pure]
theorem exec_idx {x y : Operand} {t : TypeId} {r : Value} (hop : o.op = .indexAddr t x y) (h : (Instr.indexAt t (a.eval x) (a.eval y)).run P w = .ok r w') : (execOp a.eval o).run P w = .ok (.value r) w' := by
  have e : execOp a.eval o = (do pure (.value (← Instr.indexAt t (a.eval x) (a.eval y))) : Sem Next) := by simp only [execOp, hop]
  rw [e]
  simp only [Sem.run_bind, h, Result.andThen_ok, Sem.run_pure]
theorem exec_sto {x y : Operand} {t : TypeId} (hop : o.op = .store t x y) (h : (Instr.storeAt t (a.eval x) (a.eval y)).run P w = .ok () w') : (execOp a.eval o).run P w = .ok .skip w' := by
  have e : execOp a.eval o = (do Instr.storeAt t (a.eval x) (a.eval y); pure .skip : Sem Next) := by simp only [execOp, hop]
  rw [e]
  simp only [Sem.run_bind, h, Result.andThen_ok, Sem.run_pure]
theorem setRow_comm (w : World) {b c : Nat} (h : b ≠ c) (x y : Array Value) : (w.setRow b x).setRow c y = (w.setRow c y).setRow b x := by
  unfold World.setRow
  simp only []
  congr 1
  apply Array.ext
  · simp
  · intro i h1 h2
    simp only [Array.getElem_modify]
    by_cases hb : b = i
    · subst hb
      simp [Ne.symm h]
    · simp [hb]
theorem setRow_get {w : World} {b c : Nat} (h : b ≠ c) (x : Array Value) : (w.setRow b x).heap[c]? = w.heap[c]? := by
  simp [World.setRow, Array.getElem?_modify, h]
end
theorem op_in {P : Program} {ops : Array Oper} {Q : Exit → Act → World → Prop} {i : Nat} {o : Oper} {K : Act → World → Prop} {a : Act} {w : World} (h : ops[i]? = some o) (hp : o.guard = none) (hw : o.wp P a w K Q) : wpOp P ops Q i K a w := by
  unfold wpOp
  rw [h]
  simp only []
  rw [if_pos (by simp [Region.wanted, hp])]
  exact .inl hw
theorem any_one {P : Program} {ops : Array Oper} {Q : Exit → Act → World → Prop} {i f : Nat} {L : Array Bool} {a : Act} {w : World} (hr : Region.ready .any ops L = [i]) (h : wpOp P ops Q i (wpAny P .any ops Q f (L.setIfInBounds i true)) a w) : wpAny P .any ops Q (f + 1) L a w :=
  ⟨fun h0 => (by rw [hr] at h0; cases h0), fun j hj => (by rw [hr] at hj; obtain rfl := List.mem_singleton.1 hj; exact h)⟩
theorem any_two {P : Program} {ops : Array Oper} {Q : Exit → Act → World → Prop} {i k f : Nat} {L : Array Bool} {a : Act} {w : World} (hr : Region.ready .any ops L = [i, k]) (h : wpOp P ops Q i (wpAny P .any ops Q f (L.setIfInBounds i true)) a w) (h' : wpOp P ops Q k (wpAny P .any ops Q f (L.setIfInBounds k true)) a w) : wpAny P .any ops Q (f + 1) L a w :=
  ⟨fun h0 => (by rw [hr] at h0; cases h0), fun j hj => by
    rw [hr] at hj
    simp only [List.mem_cons, List.not_mem_nil, or_false] at hj
    rcases hj with rfl | rfl
    · exact h
    · exact h'⟩
theorem any_end {P : Program} {ops : Array Oper} {Q : Exit → Act → World → Prop} {L : Array Bool} {a : Act} {w : World} (hr : Region.ready .any ops L = []) (h : Q .normal a w) : wpAny P .any ops Q 0 L a w := ⟨hr, h⟩
theorem ev_same {a : Act} {d : Tmp} {v : Value} (h : d < a.tmps.size) : (a.put (some d) v).eval (.tmp d) = v := by
  simp [Act.put, Act.eval, Array.getD_eq_getD_getElem?, h]
theorem ev_ne {a : Act} {d t : Tmp} {v : Value} (h : d ≠ t) : (a.put (some d) v).eval (.tmp t) = a.eval (.tmp t) := by
  simp [Act.put, Act.eval, Array.getD_eq_getD_getElem?, Array.getElem?_setIfInBounds, h]
theorem put_size {a : Act} {d : Tmp} {v : Value} : (a.put (some d) v).tmps.size = a.tmps.size := by simp [Act.put]
theorem pend_tail {P : Program} {D : FixD} {g0 g : Gh} {st : AS} {a : Act} {w : World} {fr : AFr} {X : AV → AS → Prop} {N : AFr → AS → Prop} {l : List Oper} {L0 : Array Bool}
    {k6 k7 k8 k9 : Nat} {o6 o7 o8 o9 : Oper} {t33 t36 t37 t38 t39 t40 t4 : Tmp} {T E : TypeId} {sz bytes s1 : Nat} {b1 b2 : Bool} {z1 z2 : AV} {d2 : TD}
    (h6 : l.toArray[k6]? = some o6) (h7 : l.toArray[k7]? = some o7) (h8 : l.toArray[k8]? = some o8) (h9 : l.toArray[k9]? = some o9)
    (u6 : o6.op = .call ⟨.builtin .append, #[.tmp t33, .tmp t38], #[T, T]⟩) (v6 : o6.dst = some t39) (p6 : o6.guard = none)
    (u7 : o7.op = .indexAddr T (.tmp t39) (.tmp t37)) (v7 : o7.dst = some t40) (p7 : o7.guard = none)
    (u8 : o8.op = .store E (.tmp t40) (.tmp t36)) (v8 : o8.dst = none) (p8 : o8.guard = none)
    (u9 : o9.op = .store T (.tmp t4) (.tmp t39)) (v9 : o9.dst = none) (p9 : o9.guard = none)
    (r0 : Region.ready .any l.toArray L0 = [k6]) (r6 : Region.ready .any l.toArray (L0.setIfInBounds k6 true) = [k7, k9]) 
    (r67 : Region.ready .any l.toArray ((L0.setIfInBounds k6 true).setIfInBounds k7 true) = [k8, k9]) (r69 : Region.ready .any l.toArray ((L0.setIfInBounds k6 true).setIfInBounds k9 true) = [k7])
    (r678 : Region.ready .any l.toArray (((L0.setIfInBounds k6 true).setIfInBounds k7 true).setIfInBounds k8 true) = [k9]) (r679 : Region.ready .any l.toArray (((L0.setIfInBounds k6 true).setIfInBounds k7 true).setIfInBounds k9 true) = [k8]) (r697 : Region.ready .any l.toArray (((L0.setIfInBounds k6 true).setIfInBounds k9 true).setIfInBounds k7 true) = [k8])
    (e1 : Region.ready .any l.toArray ((((L0.setIfInBounds k6 true).setIfInBounds k7 true).setIfInBounds k8 true).setIfInBounds k9 true) = []) (e2 : Region.ready .any l.toArray ((((L0.setIfInBounds k6 true).setIfInBounds k7 true).setIfInBounds k9 true).setIfInBounds k8 true) = []) (e3 : Region.ready .any l.toArray ((((L0.setIfInBounds k6 true).setIfInBounds k9 true).setIfInBounds k7 true).setIfInBounds k8 true) = [])
    (hT : tyOf P T = some ⟨s1, b1, z1, .slice E sz bytes⟩) (hE : tyOf P E = some ⟨sz, b2, z2, d2⟩) (hz : z2.known = true ∧ z2.cells.length = sz) (hp : 0 < sz) (hpb : 0 < bytes) (hs1 : s1 = 1)
    (n1 : t39 ≠ t37) (n2 : t39 ≠ t36) (n3 : t39 ≠ t4) (n4 : t40 ≠ t36) (n5 : t40 ≠ t4) (n6 : t40 ≠ t39)
    (hDd : ∀ (i : Nat) o, l.toArray[i]? = some o → D.freeO o) (hg : g0.le g) (hi : Inv g st w) (hf : FSim D g fr a)
    {own own' : Bool} {id B off : Nat} {es : List (List AV)} {zero : List AV} {nv cs : List AV} 
    (f33 : look fr.l t33 = .sl own (.lin id) es) (f38 : look fr.l t38 = .sl own' .full [zero]) (f37 : look fr.l t37 = .s (.int .i64 es.length)) (f36 : look fr.l t36 = .agg nv) (f4 : look fr.l t4 = .bp B off)
    (hzl : zero.length = sz) (hnl : nv.length = sz) (hok : ∀ (j : Nat) y, nv[j]? = some y → y.one = true ∧ y.dat0 = true) (hkn : (AV.agg nv).known = true) (hn39 : t39 < fr.n) (hn40 : t40 < fr.n)
    (hln : st.ln[id]? = some (es.length, E, sz)) (hes : ∀ x ∈ es, x.length = sz) (hb : (es.length + 1) * bytes ≤ 140737488355328)
    (hB : st.bx[B]? = some cs) (hall : cs.all AV.one = true) (hoff : off < cs.length)
    (hN : N ((fr.put (some t39) (.sl true (.lin id) (es ++ [nv]))).put (some t40) .any) ⟨st.bx.set B (splice cs off [.sl true (.lin id) (es ++ [nv])]), st.ln.set id (es.length + 1, E, sz)⟩) :
    wpAny P .any l.toArray (QC D g0 (QN X fun fr st => ∃ fr0, FEq fr0 fr ∧ N fr0 st)) 4 L0 a w := by
  obtain ⟨d, hd, hdd⟩ := ty_under hT
  cases d with
  | slice el =>
    simp only [tdOf, TD.slice.injEq] at hdd
    obtain ⟨rfl, rfl, rfl⟩ := hdd
    obtain ⟨ti, d2', i1, i2, i3, i4, i5, i6⟩ := ty_spec hE
    dsimp only at i5
    have hsz : ti.size = P.cellsOf E := by simp [Program.cellsOf, i1]
    have hby : ti.bytes = P.bytesOf E := by simp [Program.bytesOf, i1]
    cases hzz : ti.zero with
    | none => rw [i5, hzz] at hz; simp [AV.known] at hz
    | some z =>
      have hzs : z.cells.size = P.cellsOf E := by
        have hzv : z2 = AV.ofV z := by rw [i5, hzz]; rfl
        have := (hzv ▸ VSim.ofV g z : VSim g z2 z).csim hz.1
        have := this.1
        rw [hz.2] at this
        simpa using this
      rw [← hby] at hb hpb
      have s33 : VSim g (.sl own (.lin id) es) (a.eval (.tmp t33)) := f33 ▸ hf.eval (.tmp t33)
      have s38 : VSim g (.sl own' .full [zero]) (a.eval (.tmp t38)) := f38 ▸ hf.eval (.tmp t38)
      have s36 : VSim g (.agg nv) (a.eval (.tmp t36)) := f36 ▸ hf.eval (.tmp t36)
      have s37 : VSim g (.s (.int .i64 es.length)) (a.eval (.tmp t37)) := f37 ▸ hf.eval (.tmp t37)
      have s4 : VSim g (.bp B off) (a.eval (.tmp t4)) := f4 ▸ hf.eval (.tmp t4)
      have e37 : a.eval (.tmp t37) = .int .i64 es.length := s37.lit0 rfl
      obtain ⟨Bz, dz, cur, hx0, c1, c2, c3, c4, c5, c6, c7, c8⟩ := sl_cells hi s38 (sz := P.cellsOf E) (fun x hx => by obtain rfl := List.mem_singleton.1 hx; exact hzl)
      have hsrc : _root_.Go.Src P (P.cellsOf E) T (a.eval (.tmp t38)) 1 cur w := by
        rw [hx0]
        have hne : ([zero] : List (List AV)).flatten ≠ [] := fun h0 => by
          have := congrArg List.length h0
          simp at this
          rw [this] at hzl
          simp at hzl
          omega
        obtain ⟨b, o, e1, _, e3⟩ := c8 hne
        subst e1
        refine _root_.Go.Src.ofSlice w hd _ 1 dz cur c5 (fun j v hv => ?_) (fun v hv => by rw [oneCell_oneV]; exact c6 v hv)
        rw [add_spot]
        exact (hi.K _ _ _ (e3 j v hv)).1
      have hcn : CSim g nv (a.eval (.tmp t36)).cells.toList := s36.csim hkn
      have hn1 := ones_of hcn hok
      obtain ⟨b, cap, C, w1, hrun, hC1, hCs, hcap, hbx, hbase, hoth, g', q1, q2, q3⟩ := app_pend hi (u := T) (ty := o6.type) hd i1 hzz hsz hzs hp hpb hln hes hb hsrc c6 s33 hnl hok hcn
      obtain ⟨S, hS⟩ : ∃ S : Value, S = .slice (some ⟨b, 0, none⟩) (es.length + 1) cap := ⟨_, rfl⟩
      rw [← hS] at hrun q3
      obtain ⟨bB, e4, hbB⟩ : ∃ bB, a.eval (.tmp t4) = .pointer (some ⟨bB, off, none⟩) ∧ g.bx[B]? = some bB := by
        generalize a.eval (.tmp t4) = y at s4
        cases s4 with
        | bp id o b hb => exact ⟨b, rfl, hb⟩
      obtain ⟨curB, TB, x1, x2, x3⟩ := hi.bx B bB cs hbB hB
      rw [boxMap_one hall] at x1
      have x1 : w.heap[bB]? = some (.cells curB TB (0, 0)) := x1
      have hbne : b ≠ bB := fun h => hbx (h ▸ List.mem_of_getElem? hbB)
      have x1' : w1.heap[bB]? = some (.cells curB TB (0, 0)) := by rw [hoth bB (Ne.symm hbne) (Array.getElem?_eq_some_iff.1 x1).1]; exact x1
      obtain ⟨vc, hvc⟩ : ∃ vc, vc = (a.eval (.tmp t36)).cells.toList := ⟨_, rfl⟩
      rw [← hvc] at hcn hn1 q2
      have hvl : vc.length = P.cellsOf E := by rw [hcn.1, hnl]
      have hone : oneV S = true := by rw [hS]; rfl
      have hcellsS : S.cells = #[S] := by rw [hS]; rfl
      -- the runs
      have R9 : ∀ w', w'.heap[bB]? = some (.cells curB TB (0, 0)) → (Instr.storeAt T (.pointer (some ⟨bB, off, none⟩)) S).run P w' = .ok () (w'.setRow bB (splice curB.toList off [S]).toArray) := fun w' hw' => by
        have hst := run_storeCells_at (P := P) bB off TB [S] 0 curB w' hw' (by simp; omega) (fun z hz => by obtain rfl := List.mem_singleton.1 hz; rw [oneCell_oneV]; exact hone)
        simp only [Nat.add_zero] at hst
        simp only [Instr.storeAt, Instr.sureAddr, Sem.run_bind, Sem.run_pure, Result.andThen_ok, storeVar, ty_size hT, hcellsS, hs1]
        exact hst
      have R8 : ∀ w', w'.heap[b]? = some (.cells C E (0, 0)) → (Instr.storeAt E (.pointer (some ⟨b, es.length * P.cellsOf E, none⟩)) (a.eval (.tmp t36))).run P w' = .ok () (w'.setRow b (splice C.toList (es.length * P.cellsOf E) vc).toArray) := fun w' hw' => by
        have hst := run_storeCells_at (P := P) b (es.length * P.cellsOf E) E vc 0 C w' hw' (by rw [hvl, hCs, Nat.add_zero, ← Nat.succ_mul]; exact Nat.mul_le_mul_right _ hcap) (fun z hz => by rw [oneCell_oneV]; exact hn1 z hz)
        simp only [Nat.add_zero] at hst
        have hsz9 : (a.eval (.tmp t36)).cells.size = P.cellsOf E := by rw [← hvl, hvc]; simp
        simp only [Instr.storeAt, Instr.sureAddr, Sem.run_bind, Sem.run_pure, Result.andThen_ok, storeVar, ty_size hE, hsz9, ne_eq, not_true_eq_false, if_false]
        rw [hvc] at hst ⊢
        exact hst
      have R7 : ∀ w', (Instr.indexAt T S (.int .i64 es.length)).run P w' = .ok (.pointer (some ⟨b, es.length * P.cellsOf E, none⟩)) w' := fun w' => by
        have c1 : (0 : Int) ≤ (es.length : Int) ∧ (es.length : Int) < ((es.length + 1 : Nat) : Int) := by omega
        have hu : (underlying T).run P w' = .ok (.slice E) w' := run_underlying hd w'
        rw [hS]
        simp only [Instr.indexAt, asIntOf, Sem.run_bind, Sem.run_pure, Result.andThen_ok, hu, c1, and_self, if_true, size_pos hp, add_spot, Nat.zero_add, Int.toNat_natCast]
      have hz39 : t39 < a.tmps.size := by rw [hf.size]; exact hn39
      have hz40 : t40 < (a.put (some t39) S).tmps.size := by rw [put_size, hf.size]; exact hn40
      obtain ⟨Pt, hPt⟩ : ∃ Pt : Value, Pt = .pointer (some ⟨b, es.length * P.cellsOf E, none⟩) := ⟨_, rfl⟩
      rw [← hPt] at R7 R8
      rw [← e4] at R9
      have ev1 : (a.put (some t39) S).eval (.tmp t39) = S := ev_same hz39
      have ev2 : (a.put (some t39) S).eval (.tmp t37) = .int .i64 es.length := by rw [ev_ne n1, e37]
      have ev3 : (a.put (some t39) S).eval (.tmp t4) = a.eval (.tmp t4) := ev_ne n3
      have ew1 : ((a.put (some t39) S).put (some t40) Pt).eval (.tmp t40) = Pt := ev_same hz40
      have ew2 : ((a.put (some t39) S).put (some t40) Pt).eval (.tmp t36) = a.eval (.tmp t36) := by rw [ev_ne n4, ev_ne n2]
      have ew3 : ((a.put (some t39) S).put (some t40) Pt).eval (.tmp t4) = a.eval (.tmp t4) := by rw [ev_ne n5, ev_ne n3]
      have ew4 : ((a.put (some t39) S).put (some t40) Pt).eval (.tmp t39) = S := by rw [ev_ne n6, ev1]
      have hw2 : (w1.setRow b (splice C.toList (es.length * P.cellsOf E) vc).toArray).heap[bB]? = some (.cells curB TB (0, 0)) := by rw [setRow_get hbne]; exact x1'
      have hcs2 : CSim g' (splice cs off [.sl true (.lin id) (es ++ [nv])]) (splice curB.toList off [S]) := CSim.splice ⟨by simpa using x2, fun j z hz => by rw [← arr_getD]; exact (x3 j z hz).mono q1⟩ ⟨rfl, fun j y hy => by
        cases j with
        | zero => obtain rfl := Option.some.inj hy; exact q3
        | succ j => simp at hy⟩ off (by simp; omega)
      have invF := q2.setRow (q1.bx _ _ hbB) hB hw2 (boxMap_one (all_splice1 off hall (show List.all [AV.sl true (.lin id) (es ++ [nv])] AV.one = true from rfl))) (cur' := (splice curB.toList off [S]).toArray) (by simpa using hcs2)
      have fin : ∀ wF, wF = (w1.setRow b (splice C.toList (es.length * P.cellsOf E) vc).toArray).setRow bB (splice curB.toList off [S]).toArray → QC D g0 (QN X fun fr st => ∃ fr0, FEq fr0 fr ∧ N fr0 st) .normal ((a.put (some t39) S).put (some t40) Pt) wF := fun wF h => by
        subst h
        exact ⟨g', .normal, _, _, hg.trans q1, invF, ((hf.mono q1).put q3 (some t39) (v6 ▸ hDd _ _ h6)).put (.any _) (some t40) (v7 ▸ hDd _ _ h7), .normal, _, .refl _, hN⟩
      have C1b : (w1.setRow bB (splice curB.toList off [S]).toArray).heap[b]? = some (.cells C E (0, 0)) := by rw [setRow_get (Ne.symm hbne)]; exact hC1
      refine any_one r0 (op_in h6 p6 (wp_val (exec_app u6 hrun) ?_))
      rw [v6]
      refine any_two r6 (op_in h7 p7 (wp_val (exec_idx u7 (by rw [ev1, ev2]; exact R7 w1)) ?_)) (op_in h9 p9 (wp_skip' (exec_sto u9 (by rw [ev1, ev3]; exact R9 w1 x1')) ?_))
      · rw [v7]
        refine any_two r67 (op_in h8 p8 (wp_skip' (exec_sto u8 (by rw [ew1, ew2]; exact R8 w1 hC1)) ?_)) (op_in h9 p9 (wp_skip' (exec_sto u9 (by rw [ew4, ew3]; exact R9 w1 x1')) ?_))
        · rw [v8]
          refine any_one r678 (op_in h9 p9 (wp_skip' (exec_sto u9 (by show (Instr.storeAt T (Act.eval _ _) (Act.eval _ _)).run P _ = _; rw [show ((a.put (some t39) S).put (some t40) Pt).put none undef = (a.put (some t39) S).put (some t40) Pt from rfl, ew4, ew3]; exact R9 _ hw2)) ?_))
          rw [v9]
          exact any_end e1 (fin _ rfl)
        · rw [v9]
          refine any_one r679 (op_in h8 p8 (wp_skip' (exec_sto u8 (by rw [show ((a.put (some t39) S).put (some t40) Pt).put none undef = (a.put (some t39) S).put (some t40) Pt from rfl, ew1, ew2]; exact R8 _ C1b)) ?_))
          rw [v8]
          exact any_end e2 (fin _ (setRow_comm w1 (Ne.symm hbne) _ _))
      · rw [v9]
        refine any_one r69 (op_in h7 p7 (wp_val (exec_idx u7 (by rw [show (a.put (some t39) S).put none undef = a.put (some t39) S from rfl, ev1, ev2]; exact R7 _)) ?_))
        rw [v7]
        refine any_one r697 (op_in h8 p8 (wp_skip' (exec_sto u8 (by rw [show ((a.put (some t39) S).put none undef).put (some t40) Pt = (a.put (some t39) S).put (some t40) Pt from rfl, ew1, ew2]; exact R8 _ C1b)) ?_))
        rw [v8]
        exact any_end e3 (fin _ (setRow_comm w1 (Ne.symm hbne) _ _))
  | _ => simp [tdOf] at hdd
end Go.Proofs.YtfheoidnahhnlaaGreatDoor
