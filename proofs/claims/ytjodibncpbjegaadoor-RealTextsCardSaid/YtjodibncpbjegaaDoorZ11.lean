/- Merged: Avm9. -/
import Derived.Test.YtjodibncpbjegaaDoorZ10
/- What an operation does is what the plain data say. No program. -/
set_option linter.unusedVariables false
set_option linter.unusedSimpArgs false
namespace Go.Proofs.YtjodibncpbjegaaDoor
open Go.RowKit

variable {P : Program} {g : Gh} {st : AS} {w : World} {K X : AV → AS → Prop}

theorem encB_len (l : List UInt8) : (encB l).length = l.length := by simp [encB]
theorem encB_lens (l : List UInt8) : ∀ x ∈ encB l, x.length = 1 := by
  intro x hx
  obtain ⟨b, _, rfl⟩ := List.mem_map.1 hx
  rfl
theorem encB_flat (l : List UInt8) : (encB l).flatten = l.map fun b => AV.s (.int .u8 (b.toNat : Int)) := by
  induction l with
  | nil => rfl
  | cons b l ih => simp only [encB, List.map_cons, List.flatten_cons] at ih ⊢; rw [ih]; rfl
theorem encB_ok (l : List UInt8) (j : Nat) (y : AV) (h : (encB l).flatten[j]? = some y) : y.one = true ∧ y.dat0 = true := by
  rw [encB_flat] at h
  obtain ⟨b, _, rfl⟩ := List.mem_map.1 (List.mem_of_getElem? h)
  exact ⟨rfl, rfl⟩
theorem append_run (hi : Inv g st w) (t u ty : TypeId) {a x : AV} {av xv : Value} {str : Bool} (hk : str = false → ∃ e', P.underlying u = some (.slice e')) (hstr : str = true → P.underlying u = some .string) (hv : VSim g a av) (hx : VSim g x xv) (h : aappend P (tyOf P t) str a x st K) : VRun P (Builtin.append_ #[t, u] ty #[av, xv]) g w K := by
  unfold aappend at h
  split at h
  case h_2 => exact h.elim
  rename_i s' ag' z' e sz bytes ht
  obtain ⟨d, hd, hdd⟩ := ty_under ht
  cases d with
  | slice el =>
    simp only [tdOf, TD.slice.injEq] at hdd
    obtain ⟨rfl, rfl, rfl⟩ := hdd
    obtain ⟨hpos, hpb, hz, h⟩ := h
    cases hte : tyOf P e with
    | none => rw [hte] at hz; exact hz.elim
    | some ie =>
      rw [hte] at hz
      obtain ⟨hz1, hz2⟩ := hz
      obtain ⟨ti, d2, i1, i2, i3, i4, i5, i6⟩ := ty_spec hte
      have hsz : ti.size = P.cellsOf e := by simp [Program.cellsOf, i1]
      have hby : ti.bytes = P.bytesOf e := by simp [Program.bytesOf, i1]
      cases hzz : ti.zero with
      | none => rw [i5, hzz] at hz1; simp [AV.known] at hz1
      | some z =>
        have hzs : z.cells.size = P.cellsOf e := by
          have hzv : ie.zero = AV.ofV z := by rw [i5, hzz]; rfl
          have := (hzv ▸ VSim.ofV g z : VSim g ie.zero z).csim hz1
          have := this.1
          rw [hz2] at this
          simpa using this
        rw [← hby] at h hpb
        split at h
        · rename_i own tag news
          obtain ⟨hst0, hlen, h⟩ := h
          obtain ⟨B, d, cur, rfl, c1, c2, c3, c4, c5, c6, c7, c8⟩ := sl_cells hi hx hlen
          obtain ⟨e', he'⟩ := hk hst0
          have hsrc : _root_.Go.Src P (P.cellsOf e) u (.slice B news.length d) news.length cur w := by
            rcases B with _ | ad
            · have h0 : news.flatten = [] := Classical.byContradiction fun hne => by
                obtain ⟨b, o, e1, _⟩ := c8 hne
                cases e1
              have h1 : news.length = 0 := by
                have := flat_len news _ hlen
                rw [h0] at this
                have h2 : 0 = news.length * P.cellsOf e := this
                rcases Nat.mul_eq_zero.1 h2.symm with h3 | h3 <;> omega
              have hcur : cur = [] := List.eq_nil_of_length_eq_zero (by rw [c5, h1]; simp)
              rw [h1, hcur]
              exact _root_.Go.Src.ofNil w he' d
            · refine _root_.Go.Src.ofSlice w he' ad news.length d cur c5 (fun j v hv => ?_) (fun v hv => by rw [oneCell_oneV]; exact c6 v hv)
              have hne : news.flatten ≠ [] := fun h0 => by
                have := c4.1
                rw [h0] at this
                have : cur = [] := List.eq_nil_of_length_eq_zero this
                subst this
                simp at hv
              obtain ⟨b, o, e1, _, e3⟩ := c8 hne
              obtain rfl := Option.some.inj e1
              rw [add_spot]
              exact (hi.K _ _ _ (e3 j v hv)).1
          exact app_core hi hd i1 hzz hsz hzs hpos hpb hlen c7 c4 hsrc hv h
        · obtain ⟨hst0, h⟩ := h
          obtain ⟨e', he'⟩ := hk hst0
          cases hx
          exact app_core hi hd i1 hzz hsz hzs hpos hpb (news := []) (cur := []) (by simp) (by simp) ⟨rfl, by simp⟩ (_root_.Go.Src.ofNil w he' 0) hv h
        · rename_i b
          obtain ⟨hst0, h1, h⟩ := h
          have hu := hstr hst0
          cases hx
          have hbl : (encB b.data.toList).length = b.size := by rw [encB_len, Array.length_toList]; rfl
          have hsrc := _root_.Go.Src.ofString (P := P) w hu b
          rw [← hbl, ← h1] at hsrc
          refine app_core hi hd i1 hzz hsz hzs hpos hpb (news := encB b.data.toList) (cur := _root_.Go.byteCells b) (by rw [h1]; exact encB_lens _) (encB_ok _) ⟨?_, fun j y hy => ?_⟩ hsrc hv h
          · rw [encB_flat]; simp [_root_.Go.byteCells]
          · rw [encB_flat] at hy
            simp only [List.getElem?_map, Option.map_eq_some_iff] at hy
            obtain ⟨c, hc, rfl⟩ := hy
            have e3 : (_root_.Go.byteCells b).getD j undef = .int .u8 (c.toNat : Int) := by
              rw [List.getD_eq_getElem?_getD, _root_.Go.byteCells, List.getElem?_map, hc]; rfl
            rw [e3]
            exact .s _ rfl
        · exact h.elim
  | _ => simp [tdOf] at hdd
theorem len_run (hi : Inv g st w) (ts : Array TypeId) (ty : TypeId) {a : AV} {av : Value} (hv : VSim g a av) (h : alen P ts a fun v => K v st) : VRun P (Builtin.len_ ts ty #[av]) g w K := by
  unfold alen at h
  split at h
  · rename_i own tag es
    split at h
    case h_2 => exact h.elim
    rename_i s' ag' z' e sz by' ht
    obtain ⟨t0, h0, h1⟩ := Option.bind_eq_some_iff.1 ht
    obtain ⟨d, hd, hdd⟩ := ty_under h1
    cases d with
    | slice el =>
      cases hv with
      | sl own tag es A cap sz vs hl hc hsz h1 hA hh htag =>
        refine .same hi (v := .s (.int .i64 es.length)) (x := .int .i64 es.length) ?_ (.s _ rfl) h
        have e1 : (#[Value.slice A es.length cap] : Array Value)[0]? = some (.slice A es.length cap) := rfl
        have hu := run_underlying hd w
        simp only [Builtin.len_, h0, e1, Sem.run_bind, hu, Result.andThen_ok, goInt, Sem.run_pure]
    | _ => simp [tdOf] at hdd
  · split at h
    · rename_i u hu
      rw [hv.lit hu]
      exact lit_run hi h
    · exact h.elim
/-- A block that is none of the boxes is marked. -/
theorem Inv.mark (hi : Inv g st w) (hln : st.ln = []) {b : Nat} (hb : g.base ≤ b) {w' : World} {cur : Array Value} {T : TypeId} {fr fr' : Nat × Nat} (hw : w.heap[b]? = some (.cells cur T fr)) (hw' : w'.heap[b]? = some (.cells cur T fr'))
    (hoth : ∀ k, k ≠ b → w'.heap[k]? = w.heap[k]?) (hsz : w'.heap.size = w.heap.size) (hos : w'.os = w.os) (htp : w'.tape = w.tape) (hout : w'.output = w.output) (hbx : b ∉ g.bx) (hfr : (fr.1 = fr.2 ∨ cur.size ≤ fr.1) → (fr'.1 = fr'.2 ∨ cur.size ≤ fr'.1)) : Inv g st w' := by
  refine ⟨fun b' o v hv => ?_, hi.bxlen, fun i b' cs h1 h2 => ?_, hi.bxK, hi.bxnd, hi.lnlen, fun i L hL => ?_, hi.lnd, ?_, hi.ok, fun b' o v hv hb' => by
    by_cases e : b' = b
    · subst e
      intro C' T' lo hi' h
      rw [hw'] at h
      cases h
      exact hfr (hi.nf b' o v hv hb' _ _ _ _ hw)
    · rw [hoth b' e]; exact hi.nf b' o v hv hb'⟩
  · refine ⟨?_, (hi.K b' o v hv).2⟩
    have h := (hi.K b' o v hv).1
    by_cases e : b' = b
    · subst e
      unfold World.cell? at h ⊢
      simp only [hw] at h
      simp only [hw']
      exact h
    · rw [World.cell?_of_block (hoth b' e)]; exact h
  · obtain ⟨cu, T', e1, e2, e3⟩ := hi.bx i b' cs h1 h2
    have hne : b' ≠ b := fun e => hbx (e ▸ List.mem_of_getElem? h1)
    exact ⟨cu, T', by rw [hoth b' hne]; exact e1, e2, e3⟩
  · have := hi.lnlen
    rw [hln] at this
    have h0 : g.ln = [] := List.eq_nil_of_length_eq_zero this
    rw [h0] at hL
    simp at hL
  · refine ⟨⟨Below.trans hi.kept.1.1 ⟨hos, htp, hout, by rw [hsz]; exact Nat.le_refl _, fun k hk => hoth k (by unfold Gh.base at hb; omega)⟩, by rw [hsz]; exact hi.kept.1.2⟩, fun k o hk => ?_⟩
    obtain ⟨k1, k2⟩ := hi.kept.2 k o hk
    refine ⟨(hoth k fun e => ?_).trans k1, k2⟩
    subst e
    rw [hw] at k1
    obtain rfl := Option.some.inj k1
    cases k2
theorem mark_run (hi : Inv g st w) (src dst : TypeId) {own : Bool} {tag : Tag} {es : List (List AV)} {x : Value} (hv : VSim g (.sl own tag es) x) {e : TypeId} (hs : ∃ s ag z sz by', tyOf P src = some ⟨s, ag, z, .slice e sz by'⟩)
    (h : match tyOf P e with | some { desc := .int .u8, .. } => src = dst ∧ st.ln = [] ∧ own = true ∧ es.flatten ≠ [] ∧ K (.sl true .none es) st | _ => False) : VRun P (convert src dst x) g w K := by
  obtain ⟨s1, ag1, z1, sz1, by1, hs⟩ := hs
  obtain ⟨d1, u1, v1⟩ := ty_under hs
  cases d1 with
  | slice el =>
    simp only [tdOf, TD.slice.injEq] at v1
    obtain ⟨rfl, _, _⟩ := v1
    split at h
    case h_2 => exact h.elim
    rename_i s3 ag3 z3 he
    obtain ⟨d3, u3, v3⟩ := ty_under he
    have hd3 : d3 = .int .u8 := by cases d3 <;> simp [tdOf] at v3 ⊢; exact v3.symm
    subst hd3
    obtain ⟨rfl, hln, rfl, hne, hK⟩ := h
    have hv0 := forget0_sim hv
    cases hv with
    | sl own tag es A cap sz vs hl hc hsz h1 hA hh htag =>
      obtain ⟨b, o, rfl, ho, hKK⟩ := hA hne
      have hb := ho rfl
      obtain ⟨y, hy⟩ : ∃ y, es.flatten[0]? = some y := by
        cases hf : es.flatten with
        | nil => exact absurd hf hne
        | cons y l => exact ⟨y, rfl⟩
      have hk0 := hKK 0 y hy
      have hc0 := (hi.K _ _ _ hk0).1
      have hbx : b ∉ g.bx := fun hm => by
        rw [(hi.bxK b hm).2.1] at hk0
        cases hk0
      obtain ⟨cur, T, fr, hw⟩ : ∃ cur T fr, w.heap[b]? = some (.cells cur T fr) := by
        unfold World.cell? at hc0
        simp only at hc0
        split at hc0
        · rename_i c T fr hw
          exact ⟨c, T, fr, hw⟩
        · cases hc0
      have hsh : w.shape? b = some (T, cur.size) := by unfold World.shape?; rw [hw]
      have hblt := (Array.getElem?_eq_some_iff.1 hw).1
      obtain ⟨w', hw'⟩ : ∃ w', w' = w.freeze ⟨b, cur.size, none⟩ 1 := ⟨_, rfl⟩
      have hrun : (convert src src (.slice (some ⟨b, o, none⟩) es.length cap)).run P w = .ok (.slice (some ⟨b, o, none⟩) es.length cap) w' := by
        rw [hw']
        simp [convert, run_underlying u1, run_underlying u3, markStringish, hsh]
      have hfr : w' = { w with heap := w.heap.modify b fun
          | .cells c elem (lo, hi) => .cells c elem (if lo == hi then (cur.size, cur.size + 1) else (min lo cur.size, max hi (cur.size + 1)))
          | o => o } := by
        rw [hw']
        unfold World.freeze
        rw [if_neg (by decide)]
        rfl
      obtain ⟨lo, hi0⟩ := fr
      have hiw' : Inv g st w' := by
        refine hi.mark hln hb (w' := w') (cur := cur) (T := T) (fr := (lo, hi0)) (fr' := if lo == hi0 then (cur.size, cur.size + 1) else (min lo cur.size, max hi0 (cur.size + 1))) hw ?_ (fun k hk => ?_) ?_ ?_ ?_ ?_ hbx (fun h => by
          by_cases e : lo = hi0
          · simp [e]
          · rcases h with h | h
            · exact absurd h e
            · have e2 : (lo == hi0) = false := by simpa using e
              rw [e2]
              right
              show cur.size ≤ min lo cur.size
              exact Nat.le_min.2 ⟨h, Nat.le_refl _⟩)
        · rw [hfr]
          simp only [Array.getElem?_modify, if_true, hw, Option.map_some]
        · rw [hfr]
          simp [Array.getElem?_modify, Ne.symm hk]
        · rw [hfr]; simp
        · rw [hfr]
        · rw [hfr]
        · rw [hfr]
      exact ⟨_, _, g, .sl true .none es, st, hrun, .refl g, hiw', hv0, hK⟩
  | _ => simp [tdOf] at v1
theorem conv_run (hi : Inv g st w) (src dst : TypeId) {a : AV} {x : Value} (hv : VSim g a x) (h : aconv P src dst a st.ln fun v => K v st) : VRun P (convert src dst x) g w K := by
  unfold aconv at h
  split at h
  · rename_i own tag es
    split at h
    case h_3 => exact h.elim
    case h_2 => exact mark_run hi src dst hv ⟨_, _, _, _, _, by assumption⟩ h
    rename_i s1 ag1 z1 e by1 s2 ag2 z2 hs hd
    obtain ⟨d1, u1, v1⟩ := ty_under hs
    obtain ⟨d2, u2, v2⟩ := ty_under hd
    cases d1 with
    | slice el =>
      simp only [tdOf, TD.slice.injEq] at v1
      obtain ⟨rfl, hsz1, _⟩ := v1
      have hd2 : d2 = .string := by cases d2 <;> simp [tdOf] at v2 ⊢
      subst hd2
      split at h
      case h_2 => exact h.elim
      rename_i s3 ag3 z3 he
      obtain ⟨d3, u3, v3⟩ := ty_under he
      have hd3 : d3 = .int .u8 := by cases d3 <;> simp [tdOf] at v3 ⊢; exact v3.symm
      subst hd3
      obtain ⟨l, rfl, hk⟩ := h
      obtain ⟨A, cap, cur, rfl, c1, c2, c3, c4, c5, c6, c7, c8⟩ := sl_cells hi hv (encB_lens l)
      refine .same hi (v := .s (.string ⟨l.toArray⟩)) (x := .string ⟨l.toArray⟩) ?_ (.s _ rfl) hk
      have hcur : cur = l.map fun b => Value.int .u8 (b.toNat : Int) := by
        rw [encB_flat] at c4
        refine List.ext_getElem? fun j => ?_
        rcases Nat.lt_or_ge j l.length with hj | hj
        · have h2 := c4.2 j (.s (.int .u8 (l[j].toNat : Int))) (by simp [hj])
          have hjc : j < cur.length := by rw [c4.1]; simpa using hj
          rw [List.getD_eq_getElem?_getD, List.getElem?_eq_getElem hjc] at h2
          rw [List.getElem?_eq_getElem hjc]
          have h3 : cur[j] = .int .u8 (l[j].toNat : Int) := h2.lit0 rfl
          rw [h3]; simp [hj]
        · rw [List.getElem?_eq_none (by rw [c4.1]; simpa using hj), List.getElem?_eq_none (by simpa using hj)]
      have hu1 := run_underlying u1 w
      have hu2 := run_underlying u2 w
      have hu3 := run_underlying u3 w
      have hb : (Conv.bytesToString (.slice A (encB l).length cap)).run P w = .ok (.string ⟨l.toArray⟩) w := by
        rcases A with _ | ad
        · have h0 : l = [] := Classical.byContradiction fun hne => by
            obtain ⟨b, o, e1, _⟩ := c8 (by rw [encB_flat]; simpa using hne)
            cases e1
          subst h0
          rfl
        · have hl : (loadCells ad (encB l).length).run P w = .ok ((l.map fun b => ((b.toNat : Nat) : Int)).map (Value.int .u8)).toArray w := by
            have := run_loadCells_list (P := P) w ad cur (fun j v hj => by
              obtain ⟨b, o, e1, _, e3⟩ := c8 (by rw [encB_flat]; intro h0; rw [hcur] at hj; have h1 : l = [] := by simpa using h0
                                                 subst h1; simp at hj)
              obtain rfl := Option.some.inj e1
              rw [add_spot]
              exact (hi.K _ _ _ (e3 j v hj)).1)
            rw [encB_len]
            have hlc : cur.length = l.length := by rw [hcur]; simp
            rw [hlc] at this
            rw [this, hcur]
            simp [Function.comp_def]
          rw [run_bytesToString w ad _ cap _ hl]
          congr 2
          have key : ∀ (l : List UInt8) (s : ByteArray), (l.map fun b => ((b.toNat : Nat) : Int)).foldl (fun r n => r.push (UInt8.ofNat n.toNat)) s = ⟨(s.data.toList ++ l).toArray⟩ := by
            intro l
            induction l with
            | nil => intro s; simp
            | cons b l ih =>
              intro s
              simp only [List.map_cons, List.foldl_cons, ih]
              congr 1
              simp [ByteArray.push]
          rw [key]
          rfl
      simp only [convert, Sem.run_bind, hu1, Result.andThen_ok, hu2, hu3, hb]
    | _ => simp [tdOf] at v1
  · split at h
    · rename_i u hu
      rw [hv.lit hu]
      exact lit_run hi h
    · exact h.elim

/-- What stands behind an operation. -/
structure Behind (g : Gh) (a : Act) (o : Oper) (K X : AV → AS → Prop) (next : Act → World → Prop) (Q : Exit → Act → World → Prop) : Prop where
  next : ∀ g' v x st' w', g.le g' → Inv g' st' w' → VSim g' v x → K v st' → next (a.put o.dst x) w'
  panic : ∀ g' v x st' w', g.le g' → Inv g' st' w' → VSim g' v x → X v st' → Q (.panic [{ v := x, recovered := false }]) a w'
theorem VRun.wp {a : Act} {o : Oper} {next : Act → World → Prop} {Q : Exit → Act → World → Prop} (hb : Behind g a o K X next Q) {sem : Sem Value} (he : execOp a.eval o = (do pure (.value (← sem)) : Sem Next)) (h : VRun P sem g w K) : Oper.wp P o a w next Q := by
  obtain ⟨x, w', g', v, st', h1, h2, h3, h4, h5⟩ := h
  unfold Oper.wp
  rw [he]
  simp only [Sem.run_bind, h1, Result.andThen_ok, Sem.run_pure]
  exact hb.next g' v x st' w' h2 h3 h4 h5
theorem psim_map {D : FixD} {fr : AFr} {a : Act} (hf : FSim D g fr a) : ∀ (l : List (Nat × Operand)), PSim g (l.map fun p => (p.1, fr.eval p.2)) (l.map fun p => (p.1, a.eval p.2))
  | [] => .nil
  | (i, x) :: l => .cons i (hf.eval x) (psim_map hf l)
theorem asim_map {D : FixD} {fr : AFr} {a : Act} (hf : FSim D g fr a) : ∀ (l : List Operand), ASim g (l.map fr.eval) (l.map a.eval)
  | [] => .nil
  | x :: l => .cons (hf.eval x) (asim_map hf l)
theorem asim_append {l l' : List AV} {r r' : List Value} (h : ASim g l r) (h' : ASim g l' r') : ASim g (l ++ l') (r ++ r') := by
  induction h with
  | nil => exact h'
  | cons h _ ih => exact .cons h ih
theorem asim_get {l : List AV} {r : List Value} (h : ASim g l r) : r.length = l.length ∧ ∀ (i : Nat) x, l[i]? = some x → VSim g x (r.getD i undef) := by
  induction h with
  | nil => exact ⟨rfl, by simp⟩
  | cons h _ ih =>
    refine ⟨by simp [ih.1], fun i x hx => ?_⟩
    cases i with
    | zero => obtain rfl : _ = x := by simpa using hx
              simpa using h
    | succ i => simpa using ih.2 i x (by simpa using hx)
theorem asim_of : ∀ (l : List AV) (r : List Value), r.length = l.length → (∀ (i : Nat) x, l[i]? = some x → VSim g x (r.getD i undef)) → ASim g l r
  | [], [], _, _ => .nil
  | x :: l, y :: r, hl, h => .cons (by simpa using h 0 x rfl) (asim_of l r (by simpa using hl) (fun i z hz => by simpa using h (i + 1) z (by simpa using hz)))
  | [], _ :: _, hl, _ => by simp at hl
  | _ :: _, [], hl, _ => by simp at hl
theorem asim_lits {l : List AV} {r q : List Value} (h : ASim g l r) (hq : AV.lits l = some q) : r = q := by
  obtain ⟨h1, h2⟩ := asim_get h
  have := lits_sim (a := r.toArray) hq (by simpa using h1) (fun i x hx => by rw [arr_getD]; exact h2 i x hx)
  simpa using this
theorem callFunc_enter {f : FuncId} (h : hasBody P f = true) (args : Array Value) (w : World) : (callFunc f args).run P w = .ok (.enter f args) w := by
  unfold hasBody at h
  split at h
  · rename_i fn hf
    simp only [Bool.and_eq_true, bne_iff_ne, ne_eq] at h
    obtain ⟨h1, h2⟩ := h
    have hp : (program).run P w = .ok P w := rfl
    have h1' : fn.body.isNone = false := by cases hb : fn.body <;> simp_all
    have h2' : (fn.name == "runtime.NumGoroutine") = false := by simpa using h2
    have h3 : ¬ fn.body = none := by intro h0; rw [h0] at h1; cases h1
    simp [callFunc, hf, h2, h3]
  · cases h
theorem callK_sound {a : Act} {o : Oper} {next : Act → World → Prop} {Q : Exit → Act → World → Prop} (hi : Inv g st w) (hb : Behind g a o K X next Q) {k : FuncId} {args : List AV} {vs : List Value} (hargs : ASim g args vs) (hbody : hasBody P k = true)
    (h : DoesCall P k args st (callK K X)) (he : (execOp a.eval o).run P w = (callFunc k vs.toArray).run P w) : Oper.wp P o a w next Q := by
  unfold Oper.wp
  rw [he, callFunc_enter hbody]
  refine (h g w vs hi hargs).mono ?_
  rintro e w' ⟨g', out, st', h1, h2, h3, h4⟩
  cases h3 with
  | ret v x hx => exact hb.next g' v x st' w' h1 h2 hx h4
  | panic v x hx => exact hb.panic g' v x st' w' h1 h2 hx h4
theorem append_congr {ts : Array TypeId} {t u : TypeId} (ht : ts[0]? = some t) (hu : ts[1]? = some u) (ty : TypeId) (args : Array Value) : Builtin.append_ ts ty args = Builtin.append_ #[t, u] ty args := by
  have h0 : (#[t, u] : Array TypeId)[0]? = some t := rfl
  have h1 : (#[t, u] : Array TypeId)[1]? = some u := rfl
  simp only [Builtin.append_, ht, hu, h0, h1]
theorem builtin_run (hi : Inv g st w) {b : Builtin} {ts : Array TypeId} {ty : TypeId} {args : List AV} {vs : List Value} (hargs : ASim g args vs) (consts : Array Bool) (h : abuiltin P b ts ty args st K) :
    ∃ sem : Sem Value, (builtin b ts ty consts vs.toArray) = (do pure (.value (← sem)) : Sem Next) ∧ VRun P sem g w K := by
  unfold abuiltin at h
  split at h
  · rename_i a
    cases hargs with
    | cons hv hr => cases hr; exact ⟨_, rfl, len_run hi ts ty hv h⟩
  · rename_i a x
    cases hargs with
    | cons hv hr =>
      cases hr with
      | cons hx hr =>
        cases hr
        refine ⟨_, rfl, ?_⟩
        split at h
        case h_2 => exact h.elim
        rename_i t u ht hu
        rw [append_congr ht hu]
        split at h
        · rename_i s' ag' z' e sz by' hty
          obtain ⟨d, hd, hdd⟩ := ty_under hty
          have hd2 : ∃ e', d = .slice e' := by cases d <;> simp [tdOf] at hdd ⊢
          obtain ⟨e', rfl⟩ := hd2
          exact append_run hi t u ty (fun _ => ⟨e', hd⟩) (fun h => by cases h) hv hx h
        · rename_i s' ag' z' hty
          obtain ⟨d, hd, hdd⟩ := ty_under hty
          have hd2 : d = .string := by cases d <;> simp [tdOf] at hdd ⊢
          subst hd2
          exact append_run hi t u ty (fun h => by cases h) (fun _ => hd) hv hx h
        · exact h.elim
  · rename_i l
    split at h
    · rename_i r hr
      have := asim_lits hargs hr
      subst this
      exact ⟨_, rfl, lit_run hi h⟩
    · exact h.elim
  · rename_i l
    split at h
    · rename_i r hr
      have := asim_lits hargs hr
      subst this
      exact ⟨_, rfl, lit_run hi h⟩
    · exact h.elim
  · exact h.elim
theorem call_sound {D : FixD} (hi : Inv g st w) {fr : AFr} {a : Act} {o : Oper} (hf : FSim D g fr a) {c : Call} (ho : o.op = .call c) {next : Act → World → Prop} {Q : Exit → Act → World → Prop} (hb : Behind g a o K X next Q)
    (h : acall P fr.eval c o.type st K X) : Oper.wp P o a w next Q := by
  unfold acall at h
  have hargs := asim_map hf c.args.toList
  split at h
  · rename_i f hc
    have hfv := hf.eval f
    unfold acallF at h
    split at h
    case h_2 => exact h.elim
    rename_i k caps hk
    rw [hk] at hfv
    obtain ⟨ca, hfe, hs, hh⟩ : ∃ ca, a.eval f = .func (.func k) #[] ca ∧ ca.size = caps.length ∧ ∀ (i : Nat) x, caps[i]? = some x → VSim g x (ca.getD i undef) := by
      generalize a.eval f = fv at hfv
      cases hfv with
      | fn f caps ca hs hh => exact ⟨ca, rfl, hs, hh⟩
    have hall := asim_append hargs (asim_of caps ca.toList (by simpa using hs) (fun i x hx => by rw [← arr_getD]; exact hh i x hx))
    have he : execOp a.eval o = callFunc k (c.args.toList.map a.eval ++ ca.toList).toArray := by
      simp only [execOp, ho, resolve, hc, hfe, Deferred.ofValue]
      show Sem.bind (Sem.pure _) _ = _
      simp only [Sem.bind, invoke]
      congr 1
      apply Array.ext'
      simp
    rcases h with ⟨h1, h2⟩ | ⟨h1, h2⟩
    · exact callK_sound hi hb hall h1 h2 (by rw [he])
    · split at h2
      · rename_i r hr
        obtain ⟨nx, h3, h4⟩ := h2
        rw [asim_lits hall hr] at he
        split at h4
        · rename_i v
          unfold Oper.wp
          rw [he, h3 w]
          exact hb.next g (AV.ofV v) v st w (.refl g) hi (.ofV g v) h4
        · exact h4.elim
      · exact h2.elim
  · rename_i b hc
    obtain ⟨sem, h1, h2⟩ := builtin_run hi hargs (c.args.map fun | .const _ => true | _ => false) h
    refine VRun.wp hb ?_ h2
    rw [← h1]
    simp only [execOp, ho, resolve, hc]
    show Sem.bind (Sem.pure _) _ = _
    simp only [Sem.bind, invoke]
    congr 1
    apply Array.ext'
    simp
  · exact h.elim
/-- An operation does what the plain data say. -/
theorem exec_sound {D : FixD} (hi : Inv g st w) {fr : AFr} {a : Act} {o : Oper} (hf : FSim D g fr a) {next : Act → World → Prop} {Q : Exit → Act → World → Prop} (hb : Behind g a o K X next Q)
    (h : aexec P fr.eval o.op o.type st K X) : Oper.wp P o a w next Q := by
  cases hop : o.op with
  | move x => rw [hop] at h; exact VRun.wp hb (sem := pure (a.eval x)) (by simp only [execOp, hop]; rfl) (.same hi rfl (hf.eval x) h)
  | assign x => rw [hop] at h; exact VRun.wp hb (sem := pure (a.eval x)) (by simp only [execOp, hop]; rfl) (.same hi rfl (hf.eval x) h)
  | pick c x y =>
    rw [hop] at h
    simp only [aexec, apick] at h
    split at h
    · rename_i t ht
      have hc := hf.eval c
      rw [ht] at hc
      have hce : a.eval c = .bool t := hc.lit0 rfl
      cases t with
      | true => exact VRun.wp hb (sem := pure (a.eval x)) (by simp only [execOp, hop, hce]; rfl) (.same hi rfl (hf.eval x) (h.1 rfl))
      | false => exact VRun.wp hb (sem := pure (a.eval y)) (by simp only [execOp, hop, hce]; rfl) (.same hi rfl (hf.eval y) (h.2 rfl))
    · exact h.elim
  | alloc e => rw [hop] at h; exact VRun.wp hb (by simp only [execOp, hop]) (alloc_run hi e h)
  | box e x => rw [hop] at h; exact VRun.wp hb (by simp only [execOp, hop]) (box_run hi e (hf.eval x) h)
  | build t parts => rw [hop] at h; exact VRun.wp hb (by simp only [execOp, hop]; rfl) (build_run hi t (by simpa using psim_map hf parts.toList) h)
  | buildSlice t len parts => rw [hop] at h; exact VRun.wp hb (by simp only [execOp, hop]; rfl) (buildSlice_run hi t len (by simpa using psim_map hf parts.toList) h)
  | load t x => rw [hop] at h; exact VRun.wp hb (by simp only [execOp, hop]) (load_run hi t (hf.eval x) h)
  | store t x y =>
    rw [hop] at h
    obtain ⟨w', st', h1, h2, h3⟩ := store_run hi t (hf.eval x) (hf.eval y) h
    unfold Oper.wp
    have he : execOp a.eval o = (do Instr.storeAt t (a.eval x) (a.eval y); pure .skip : Sem Next) := by simp only [execOp, hop]
    rw [he]
    simp only [Sem.run_bind, h1, Result.andThen_ok, Sem.run_pure]
    exact hb.next g .any undef st' w' (.refl g) h2 (.any _) h3
  | nilCheck x =>
    rw [hop] at h
    simp only [aexec, anil] at h
    have hx := hf.eval x
    have hk : ∃ v, execOp a.eval o = (do pure (.value (← (pure v : Sem Value))) : Sem Next) ∧ VSim g (fr.eval x) v ∧ K (fr.eval x) st := by
      split at h
      · rename_i id off hx'
        rw [hx'] at hx h ⊢
        generalize hav : a.eval x = av at hx
        cases hx with
        | bp id off b hb' => exact ⟨_, by simp only [execOp, hop, hav]; rfl, .bp id off b hb', h⟩
      · rename_i l hx'
        rw [hx'] at hx h ⊢
        generalize hav : a.eval x = av at hx
        cases hx with
        | rp l b o' vs h1 hh => exact ⟨_, by simp only [execOp, hop, hav]; rfl, .rp l b o' vs h1 hh, h⟩
      · rename_i f caps hx'
        rw [hx'] at hx h ⊢
        generalize hav : a.eval x = av at hx
        cases hx with
        | fn f caps ca hs hh => exact ⟨_, by simp only [execOp, hop, hav]; rfl, .fn _ caps ca hs hh, h⟩
      · exact h.elim
    obtain ⟨v, h1, h2, h3⟩ := hk
    exact VRun.wp hb h1 (.same hi rfl h2 h3)
  | binOp op t x y yt =>
    rw [hop] at h
    simp only [aexec, abin] at h
    split at h
    · rename_i u v hu hv
      refine VRun.wp hb (sem := do eqGuard op t x y u v; binOp op t u v) ?_ (lit_run hi h)
      simp only [execOp, hop, (hf.eval x).lit hu, (hf.eval y).lit hv]
    · exact h.elim
  | unOp op t x =>
    rw [hop] at h
    simp only [aexec] at h
    split at h
    · rename_i u hu
      refine VRun.wp hb (sem := Op.unary op u) ?_ (lit_run hi h)
      simp only [execOp, hop, (hf.eval x).lit hu]
    · exact h.elim
  | convert src dst x => rw [hop] at h; exact VRun.wp hb (by simp only [execOp, hop]) (conv_run hi src dst (hf.eval x) h)
  | makeInterface t x =>
    rw [hop] at h
    simp only [aexec, aiface] at h
    have hk : (Instr.makeInterface t (a.eval x)).run P w = .ok (.iface t (a.eval x)) w ∧ K (.ifc t (fr.eval x)) st := by
      split at h
      · exact h.elim
      · rename_i i hni ht
        obtain ⟨d, hd, hdd⟩ := ty_under ht
        refine ⟨?_, h⟩
        have hu := run_underlying hd w
        have : ∀ ms, d ≠ .interface ms := fun ms e => by
          subst e
          obtain ⟨sz, ag, z, dd⟩ := i
          simp only at hdd
          exact hni sz ag z (by rw [hdd]; rfl)
        simp only [Instr.makeInterface, Sem.run_bind, hu, Result.andThen_ok]
        rfl
      · exact h.elim
    exact VRun.wp hb (by simp only [execOp, hop]) (.same hi hk.1 (.ifc t _ _ (hf.eval x)) hk.2)
  | makeFunc f first captured =>
    rw [hop] at h
    simp only [aexec] at h
    split at h
    · rename_i hfst
      have hf0 : first = #[] := by apply Array.ext'; simpa using hfst
      subst hf0
      have hc := asim_get (asim_map hf captured.toList)
      refine VRun.wp hb (sem := Instr.makeFunc f #[] (captured.map a.eval)) (by simp only [execOp, hop, Array.map_empty]) (.same hi (x := .func f #[] (captured.map a.eval)) rfl (.fn f _ _ (by simp) (fun i x hx => ?_)) h)
      have := hc.2 i x hx
      rw [arr_getD]
      simpa using this
    · exact h.elim
  | slice t x lo hi' mx =>
    rw [hop] at h
    simp only [aexec] at h
    cases mx with
    | some m => exact h.elim
    | none =>
      refine VRun.wp hb (by simp only [execOp, hop]; rfl) (slice_run hi t (hf.eval x) (lo.map fr.eval) (hi'.map fr.eval) (lo.map a.eval) (hi'.map a.eval) ?_ ?_ ?_ ?_ h)
      · intro v hv
        obtain ⟨y, rfl, rfl⟩ := Option.map_eq_some_iff.1 hv
        exact ⟨_, rfl, hf.eval y⟩
      · intro hv
        have : lo = none := by simpa using hv
        subst this; rfl
      · intro v hv
        obtain ⟨y, rfl, rfl⟩ := Option.map_eq_some_iff.1 hv
        exact ⟨_, rfl, hf.eval y⟩
      · intro hv
        have : hi' = none := by simpa using hv
        subst this; rfl
  | fieldAddr t x f => rw [hop] at h; exact VRun.wp hb (by simp only [execOp, hop]) (fieldAddr_run hi t (hf.eval x) f h)
  | field t x f => rw [hop] at h; exact VRun.wp hb (by simp only [execOp, hop]) (field_run hi t (hf.eval x) f h)
  | indexAddr t x i => rw [hop] at h; exact VRun.wp hb (by simp only [execOp, hop]) (indexAddr_run hi t (hf.eval x) (hf.eval i) h)
  | index t x i => rw [hop] at h; exact VRun.wp hb (by simp only [execOp, hop]) (index_run hi t (hf.eval x) (hf.eval i) h)
  | extract x i => rw [hop] at h; exact VRun.wp hb (by simp only [execOp, hop]) (extract_run hi (hf.eval x) i h)
  | call c => rw [hop] at h; exact call_sound hi hf hop hb h
  | panic x =>
    rw [hop] at h
    simp only [aexec, apanic] at h
    split at h
    · rename_i t v hx
      have hs := hf.eval x
      rw [hx] at hs h
      generalize hav : a.eval x = av at hs
      cases hs with
      | ifc t v y hv =>
        unfold Oper.wp
        simp only [execOp, hop, hav, Instr.panic]
        exact hb.panic g _ _ st w (.refl g) hi (.ifc t v y hv) h
    · exact h.elim
  | makeMap t r =>
    rw [hop] at h
    cases r with
    | some x => exact h.elim
    | none => exact VRun.wp hb (by simp only [execOp, hop]; rfl) (make_run hi t h)
  | lookup t x k c => rw [hop] at h; exact VRun.wp hb (by simp only [execOp, hop]) (lookup_run hi t (hf.eval x) (hf.eval k) h)
  | mapUpdate t x k v =>
    rw [hop] at h
    obtain ⟨w', st', h1, h2, h3⟩ := update_run hi t (hf.eval x) (hf.eval k) (hf.eval v) h
    unfold Oper.wp
    have he : execOp a.eval o = (do Instr.mapUpdate t (a.eval x) (a.eval k) (a.eval v); pure .skip : Sem Next) := by simp only [execOp, hop]
    rw [he]
    simp only [Sem.run_bind, h1, Result.andThen_ok, Sem.run_pure]
    exact hb.next g .any undef st' w' (.refl g) h2 (.any _) h3
  | mapEntry t x k => rw [hop] at h; exact VRun.wp hb (by simp only [execOp, hop]) (entry_run hi t (hf.eval x) (hf.eval k) h)
  | entryStore t x s v =>
    rw [hop] at h
    obtain ⟨w', st', h1, h2, h3⟩ := entryStore_run hi t (hf.eval x) (hf.eval s) (hf.eval v) h
    unfold Oper.wp
    have he : execOp a.eval o = (do Instr.entryStore t (a.eval x) (a.eval s) (a.eval v); pure .skip : Sem Next) := by simp only [execOp, hop]
    rw [he]
    rw [Sem.run_bind, h1]
    simp only [Result.andThen_ok, Sem.run_pure]
    exact hb.next g .any undef st' w' (.refl g) h2 (.any _) h3
  | sliceToArrayPointer t x => rw [hop] at h; exact VRun.wp hb (by simp only [execOp, hop]) (arrAt_run hi t (hf.eval x) h)
  | makeSlice t n c => rw [hop] at h; exact VRun.wp hb (by simp only [execOp, hop]) (makeSlice_run hi t (hf.eval n) (hf.eval c) h)
  | _ => rw [hop] at h; exact h.elim
end Go.Proofs.YtjodibncpbjegaaDoor
