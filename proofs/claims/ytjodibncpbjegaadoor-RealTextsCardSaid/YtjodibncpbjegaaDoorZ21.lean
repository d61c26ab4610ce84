/- Merged: AvmX. -/
import Derived.Test.YtjodibncpbjegaaDoorZ20
/- A function that holds a range over a function, in plain data. No program. -/
set_option linter.unusedVariables false
set_option linter.unusedSimpArgs false
namespace Go.Proofs.YtjodibncpbjegaaDoor
open Go.RowKit

def onlyN (K : AFr → AS → Prop) : Post
  | .normal, fr, st => K fr st
  | _, _, _ => False
section
variable {K : AFr → AS → Prop} {fr : AFr} {st : AS}
theorem onlyN_normal : onlyN K .normal fr st = K fr st := no_rfl rfl
instance instPF_only : PF (onlyN K) := ⟨fun v fr fr' st h => h⟩
end
theorem awp_at {P : Program} {c : Code} {Q : Post} {fr : AFr} {st : AS} (hp : PFree Q) (h : awp P c Q fr st) (ds : List Deferred) {g : Gh} {a : Act} {w : World} (hi : Inv g st w) (hf : FSim ⟨ds, fun _ => none⟩ g fr a) (n : Nat) :
    c.wpIn Fence.wide n P (QC ⟨ds, fun _ => none⟩ g Q) a w :=
  wpIn_wide.2 (wpIn_wide.1 (awpR_sound c Q hp fr st h none (.inl rfl) ⟨ds, fun _ => none⟩ (fun _ _ => rfl) g a w hi hf))
/-- What is answered, at a function's end. -/
theorem ret_sound {P : Program} {fn : Func} {D : FixD} {g g' : Gh} {st st' : AS} {w w' : World} {fr' : AFr} {a' : Act} {R : AOut → AS → Prop} (hi : Inv g st w) (h1 : g.le g') (h2 : Inv g' st' w') (h3 : FSim D g' fr' a')
    (h5 : aresL P fr' st' fn.results.toList (fun l => RetForm st (oneOf l) st' R)) : ∃ v, (results fn a'.tmps).run P w' = .ok v w' ∧ ∃ g' o st', g.le g' ∧ Inv g' st' w' ∧ OSim g' o (.returned v) ∧ R o st' := by
  have hlen := h1.len
  obtain ⟨xs, l, k1, k2, k3⟩ := aresL_sound h2 h3 _ _ h5
  have hone := asim_one k2
  refine ⟨_, results_run k1, ?_⟩
  cases k3 with
  | forget q1 q2 q3 =>
    refine ⟨g'.cut st.bx.length st.ln.length, _, _, ?_, hi.cut h1 h2 q2, .ret _ _ ((forget_sim hone).cut q1), q3⟩
    have := h1.cut; rwa [hi.bxlen, hi.lnlen] at this
  | keep q1 q2 q3 =>
    refine ⟨g'.cut st.bx.length st.ln.length, _, _, ?_, hi.cut h1 h2 q2, .ret _ _ (hone.cut q1), q3⟩
    have := h1.cut; rwa [hi.bxlen, hi.lnlen] at this
  | fresh own id es e sz q1 q2 q3 q4 q5 =>
    have hid : id < g'.ln.length := by
      rw [h2.lnlen]; exact (List.getElem?_eq_some_iff.1 q3).1
    obtain ⟨k1', k2'⟩ := h2.ln id g'.ln[id] (List.getElem?_eq_getElem hid)
    rw [q3] at k1'
    have k1'' := Option.some.inj k1'
    simp only [Prod.mk.injEq] at k1''
    obtain ⟨r1, r2, r3⟩ := k1''
    have hcut := hi.cut h1 h2 q4
    have hkeep := hcut.keep (g := g') (st := st') h2 (by rw [← hi.lnlen]; exact hlen.2) q2 (List.getElem?_eq_getElem hid)
    rw [← r1, ← r2, ← r3] at hkeep
    refine ⟨_, _, _, ?_, hkeep, ?_, q5⟩
    · have := h1.cut
      rw [hi.bxlen, hi.lnlen] at this
      refine this.trans ⟨rfl, fun _ _ _ h => h, fun _ _ h => h, fun i L h => ⟨L, ?_, Nat.le_refl _, fun _ => rfl⟩⟩
      show (g'.ln.take st.ln.length ++ _)[i]? = some L
      rw [List.getElem?_append_left (show i < (g'.ln.take st.ln.length).length from (List.getElem?_eq_some_iff.1 h).1)]; exact h
    · rw [q1] at hone
      refine .ret _ _ ?_
      generalize (if h : xs.length = 1 then xs[0] else Value.tuple xs.toArray) = y at hone
      cases hone with
      | sl own tag es A cap sz vs hl hc hsz k1 hA hh htag =>
        refine .sl own _ es A cap sz vs hl hc hsz k1 hA (fun j x hx => ?_) ?_
        · refine VSim.dat0 (g := g') ?_ (hh j x hx) (k1 j x hx).2
          exact ⟨rfl, fun _ _ _ h => h⟩
        obtain ⟨L, m1, m2, m3⟩ := htag
        rw [List.getElem?_eq_getElem hid] at m1
        obtain rfl := Option.some.inj m1
        refine ⟨g'.ln[id], ?_, m2, m3⟩
        show (g'.ln.take st.ln.length ++ [_])[st.ln.length]? = _
        have : (g'.ln.take st.ln.length).length = st.ln.length := by have := hlen.2; rw [hi.lnlen] at this; simp; omega
        rw [List.getElem?_append_right (by omega), this]; simp
  | asis q => exact ⟨g', _, _, h1, h2, .ret _ _ hone, q⟩
theorem args_fsim {g : Gh} {args : List AV} {vs : List Value} {n : Nat} (ha : ASim g args vs) (hl : args.length ≤ n) :
    FSim ⟨[], fun _ => none⟩ g ⟨n, (List.range args.length).zip args⟩ { tmps := vs.toArray ++ Array.replicate (n - vs.toArray.size) undef, defers := [] } := by
  obtain ⟨hsz, hget⟩ := asim_get ha
  refine ⟨rfl, by simp; omega, fun t => ?_, fun t x h => by cases h⟩
  have hlook : ∀ (k : Nat) (l : List AV) (t : Nat), look ((List.range' k l.length).zip l) t = if t < k then .any else (l[t - k]?).getD .any := by
    intro k l
    induction l generalizing k with
    | nil => intro t; simp [look]
    | cons v l ih =>
      intro t
      simp only [List.length_cons, List.range'_succ, List.zip_cons_cons, look]
      by_cases e : k = t
      · subst e; simp
      · rw [if_neg e, ih (k + 1)]
        by_cases h1 : t < k
        · rw [if_pos h1, if_pos (by omega)]
        · rw [if_neg h1, if_neg (by omega)]
          have : t - k = (t - (k + 1)) + 1 := by omega
          rw [this]; simp
  have h0 := hlook 0 args t
  rw [← List.range_eq_range'] at h0
  simp only [Nat.not_lt_zero, if_false, Nat.sub_zero] at h0
  show VSim g (look ((List.range args.length).zip args) t) _
  rw [h0]
  cases hx : args[t]? with
  | none => exact .any _
  | some v =>
    have := hget t v hx
    have hlt := (List.getElem?_eq_some_iff.1 hx).1
    have e : (vs.toArray ++ Array.replicate (n - vs.toArray.size) undef).getD t undef = vs.getD t undef := by
      have hlt' : t < vs.length := by omega
      simp [Array.getD, List.getD_eq_getElem?_getD, hlt', show t < vs.length + (n - vs.length) by omega]
    rw [e]; exact this
theorem same_bx {g3 g' : Gh} {st3 st : AS} {w3 W : World} (hi : Inv g3 st3 w3) (hl : st.bx.length = st3.bx.length) (hle : g3.le g') (hi' : Inv g' st W) : g'.bx = g3.bx := by
  refine List.ext_getElem? fun i => ?_
  have hlen : g'.bx.length = g3.bx.length := by rw [hi'.bxlen, hl, hi.bxlen]
  rcases Nat.lt_or_ge i g3.bx.length with h | h
  · rw [List.getElem?_eq_getElem h]
    exact hle.bx i _ (List.getElem?_eq_getElem h)
  · rw [List.getElem?_eq_none h, List.getElem?_eq_none (by omega)]
theorem assign_one {P : Program} {l id d : Nat} {t : Tmp} {ty : TypeId} {pos : String} {after : Array Edge} {a : Act} {W : World} {K : Act → World → Prop} (hK : K (a.put (some d) (a.eval (.tmp t))) W) :
    (Code.region id #[⟨some d, .assign (.tmp t), ty, pos, after, none⟩] false).wpIn (Fence.wide.inRound l) 0 P (Exit.then K (fun _ _ _ => False)) a W := by
  refine wpIn_region_list (list_fen (r := some l) (by rintro ⟨a, w, h⟩; exact h) _ _ _ (fun o ho => .inr ?_) ?_)
  · have : o = ⟨some d, .assign (.tmp t), ty, pos, after, none⟩ := by simpa using ho
    subst this
    rfl
  · unfold wpList
    rw [if_pos (by rfl)]
    refine .inl ?_
    show Oper.upon _ _ _ _ _ _
    exact hK
def coll (E : Nat) : Deferred := { target := .collected E, args := #[] }
/-- Behind the loop, to the function's end. -/
theorem range_fin {P : Program} {fn : Func} {ce : Code} {rs : List ResultVar} {g g3 g4 : Gh} {st st3 st4 : AS} {w w3 W : World} {fr3 : AFr} {a3 : Act} {E : Nat} {R : AOut → AS → Prop} (hr : fn.results = rs.toArray)
    (hi : Inv g st w) (hle3 : g.le g3) (hi3 : Inv g3 st3 w3) (hf3 : FSim ⟨[], fun _ => none⟩ g3 fr3 a3) (hl : st4.bx.length = st3.bx.length) (hle : g3.le g4) (hW : Inv g4 st4 W) (hE : w3.heap.size ≤ E) (hWE : W.heap[E]? = some (.deferred (some [])))
    (hpost : awp P ce (retK P rs st R) fr3 st4) :
    ce.wpIn Fence.wide 2 P (bodyPostM Fence.wide 2 P fn fun e w' => ∃ g' o st', g.le g' ∧ Inv g' st' w' ∧ OSim g' o e ∧ R o st') { a3 with defers := coll E :: a3.defers } W := by
  have hbx := same_bx hi3 hl hle hW
  have hbE : ∀ b ∈ g4.bx, b ≠ E := fun b hb => by
    rw [hbx] at hb
    have := hi3.bx_lt hb
    omega
  have fzlt : ∀ b o, g.w0.fz b = some o → b ≠ E := fun b o hb => by
    have h1 := hi3.kept.2 b o
    rw [hle3.w0] at h1
    have := (Array.getElem?_eq_some_iff.1 (h1 hb).1).1
    omega
  have hg4 : g.le g4 := hle3.trans hle
  obtain ⟨rt, hrt⟩ : ∃ rt : Root, rt = ⟨g.w0.W, g.w0.n, fun k => if k = E then some (.deferred (some [])) else g.w0.fz k⟩ := ⟨_, rfl⟩
  have hk4 := hW.kept
  rw [hg4.w0] at hk4
  have hiR : Inv (g4.root rt) st4 W := hW.root (by rw [hrt, hg4.w0]) (by
    rw [hrt]
    refine ⟨hk4.1, fun b o hb => ?_⟩
    simp only at hb
    split at hb
    · rename_i e
      subst e
      obtain rfl := Option.some.inj hb
      exact ⟨hWE, rfl⟩
    · exact hk4.2 b o hb) (fun b hb => by
    rw [hrt]
    simp only
    rw [if_neg (hbE b hb)]
    have := (hW.bxK b hb).2.2
    rwa [hg4.w0] at this)
  have hf4 := (hf3.mono hle).root (r := rt) (by rw [hrt, hg4.w0])
  have hfR : FSim ⟨[coll E], fun _ => none⟩ (g4.root rt) fr3 { a3 with defers := coll E :: a3.defers } := ⟨by show coll E :: a3.defers = _; rw [hf3.defers], hf4.size, hf4.tmps, fun t x h => by cases h⟩
  refine wpIn_mono (awp_at (retK_free _ _ _ _) hpost [coll E] hiR hfR 2) fun e a5 w5 hq => ?_
  obtain ⟨g5, x, fr5, st5, k1, k2, k3, k4, k5⟩ := hq
  have hw5 : g5.w0 = rt := k1.w0
  have hk5 := k2.kept
  rw [hw5, hrt] at hk5
  have hE5 : w5.heap[E]? = some (.deferred (some [])) := (hk5.2 E _ (by simp)).1
  have hfz5 : ∀ b ∈ g5.bx, b ≠ E ∧ g.w0.fz b = none := fun b hb => by
    have := (k2.bxK b hb).2.2
    rw [hw5, hrt] at this
    simp only at this
    split at this
    · cases this
    · rename_i e; exact ⟨e, this⟩
  have k2' : Inv (g5.root g.w0) st5 w5 := k2.root (by rw [hw5, hrt]) ⟨hk5.1, fun b o hb => hk5.2 b o (by simp only; rw [if_neg (fzlt b o hb)]; exact hb)⟩ (fun b hb => (hfz5 b hb).2)
  have k6 : Inv (g5.root g.w0) st5 (w5.putObj E (.deferred none)) := k2'.other (grownBy_putObj' w5 E _) (fun k hk => by
    cases hk
    refine ⟨?_, fun hm => (hfz5 E hm).1 rfl, ?_, _, hE5, rfl⟩
    · have := hi3.base_le
      unfold Gh.base at this ⊢
      rw [hle3.w0] at this
      exact Nat.le_trans this hE
    · cases hz : g.w0.fz E with
      | none => exact hz
      | some o => exact absurd rfl (fzlt E o hz))
  have hg6 : g.le (g5.root g.w0) := ⟨rfl, fun b o v h => k1.K b o v (hg4.K b o v h), fun i b h => k1.bx i b (hg4.bx i b h), fun i L h => by
    obtain ⟨L', e1, e2, e3⟩ := hg4.ln i L h
    obtain ⟨L2, f1, f2, f3⟩ := k1.ln i L' e1
    refine ⟨L2, f1, Nat.le_trans e2 f2, fun he => ?_⟩
    have e4 : L.n = L'.n := by omega
    have e5 : L'.n = L2.n := by omega
    rw [f3 e5, e3 e4]⟩
  have k3' := k3.root (r := g.w0) (by rw [hw5, hrt])
  have hd : a5.defers = [coll E] := k3.defers
  have ret : aresL P fr5 st5 rs (fun l => RetForm st (oneOf l) st5 R) → LeavesInM Fence.wide 2 P fn a5.tmps (fun e w' => ∃ g' o st', g.le g' ∧ Inv g' st' w' ∧ OSim g' o e ∧ R o st') a5.defers .returning w5 := fun h5 => by
    rw [hd]
    refine ⟨by simp, .inl ⟨E, _, rfl, run_takeDeferred hE5, ?_⟩⟩
    exact ret_sound (fn := fn) hi hg6 k6 k3' (by rw [hr]; exact h5)
  cases k4 with
  | normal => exact ret k5
  | ret => exact ret k5
  | exit id => exact k5.elim
  | panic v z hz =>
    obtain ⟨q1, q2, q3⟩ := k5
    show LeavesInM _ _ _ _ _ _ a5.defers _ _
    rw [hd]
    refine ⟨by simp, .inl ⟨E, _, rfl, run_takeDeferred hE5, ?_⟩⟩
    refine ⟨(g5.root g.w0).cut st.bx.length st.ln.length, _, _, ?_, hi.cut hg6 k6 q2, .panic _ _ ((hz.root (by rw [hw5, hrt])).cut q1), q3⟩
    have := hg6.cut; rwa [hi.bxlen, hi.lnlen] at this
theorem enter_range {P : Program} {f : FuncId} {fn : Func} {ca cb cc ce : Code} {bid : Nat} {gop : Operand} {ps : Array Tmp} {assign body : Code} {n : Nat} {rs : List ResultVar} {args : List AV} {st : AS} {R : AOut → AS → Prop} {α : Type}
    (hf : P.funcs[f]? = some fn) (hb : fn.body = some (.seq ca (.seq cb (.seq (.seq cc (.block bid (.rangeFunc gop ps assign body))) ce)))) (hn : fn.ntmps = n) (hr : fn.results = rs.toArray) (hl : args.length ≤ n)
    (fr3 : AFr) (st3 : AS) (hpre : awp P ca (thenA P cb (thenA P cc (onlyN fun fr' st' => fr3.sub fr' ∧ st' = st3))) ⟨n, (List.range args.length).zip args⟩ st)
    {encs : α → Array Value} (frx : α → AFr) (a₁ : Act → α → Act) (gf : Nat) {N : Nat} {S Sp : List α → Prop} (J : List α → AS → Prop) (Jx : Code → List α → AS → Prop) (hps : ∀ x, (encs x).size = ps.size)
    (hit : ∀ g3 a3 w3, Inv g3 st3 w3 → FSim ⟨[], fun _ => none⟩ g3 fr3 a3 → ∃ lb C, a3.eval gop = .func (.func gf) #[] lb ∧ SeqStopsK Fence.wide 1 P gf lb encs (KpC C) S Sp N w3 ∧ (∀ pre st g' W, J pre st → g3.le g' → Inv g' st W → Has C W))
    (hgf : hasBody P gf = true) (hJ : ∀ pre st, J pre st → st.bx.length = st3.bx.length ∧ st.ln.length = st3.ln.length) (hJx : ∀ c pre st, Jx c pre st → st.bx.length = st3.bx.length ∧ st.ln.length = st3.ln.length) (h0 : J [] st3)
    (hass : ∀ (a3 : Act) (l : Nat) (x : α) (W : World) (K : Act → World → Prop), K (a₁ a3 x) W → assign.wpIn (Fence.wide.inRound l) (2 - 1 - 1) P (Exit.then K (fun _ _ _ => False)) { tmps := (ps.zip (encs x)).foldl (fun t (p, v) => t.setIfInBounds p v) a3.tmps, defers := [] } W)
    (hfa : ∀ g a3 x, FSim ⟨[], fun _ => none⟩ g fr3 a3 → FSim ⟨[], fun _ => none⟩ g (frx x) (a₁ a3 x)) (nd : ndC body = true)
    (hbody : ∀ pre x st, J pre st → pre.length < N → awp P body (bodyK st3.bx.length st3.ln.length st J Jx (pre ++ [x])) (frx x) st)
    (hJxe : ∀ c pre st, Jx c pre st → c = .exit bid)
    (hpost : ∀ st4, ((∃ xs, S xs ∧ J xs st4) ∨ (∃ pre, Sp pre ∧ Jx (.exit bid) pre st4)) → awp P ce (retK P rs st R) fr3 st4) :
    DoesCall P f args st R := by
  intro g w vs hi ha
  refine (callsIn_wide (n := 2)).1 (callsIn_of_wp_marks hf hb trivial ?_ rfl)
  rw [hn]
  refine wpIn_seq (wpIn_mono (awp_at (instPF_then P cb _).free hpre [] hi (args_fsim ha hl) 2) fun e a1 w1 hq => ?_)
  obtain ⟨g1, x, fr1, st1, le1, hi1, hf1, xs, q⟩ := hq
  cases xs with
  | exit id => exact q.elim
  | ret => exact q.elim
  | panic v z hz => exact q.elim
  | normal =>
  refine wpIn_seq (wpIn_mono (awp_at (instPF_then P cc _).free q [] hi1 hf1 2) fun e a2 w2 hq => ?_)
  obtain ⟨g2, x, fr2, st2, le2, hi2, hf2, xs, q⟩ := hq
  cases xs with
  | exit id => exact q.elim
  | ret => exact q.elim
  | panic v z hz => exact q.elim
  | normal =>
  refine wpIn_seq (wpIn_seq (wpIn_mono (awp_at instPF_only.free q [] hi2 hf2 2) fun e a3 w3 hq => ?_))
  obtain ⟨g3, x, fr3', st3', le3, hi3, hf3, xs, q⟩ := hq
  cases xs with
  | exit id => exact q.elim
  | ret => exact q.elim
  | panic v z hz => exact q.elim
  | normal =>
  obtain ⟨hsub, rfl⟩ := q
  have hf3' := hf3.sub hsub
  have hle3 := (le1.trans le2).trans le3
  obtain ⟨lb, C, hg, hseq, hC⟩ := hit g3 a3 w3 hi3 hf3'
  refine wpIn_block ?_
  refine range_run (D := ⟨[], fun _ => none⟩) hi3 hg (fun args w => callFunc_enter hgf args w) hseq hps J Jx hC hJ hJx h0 (a₁ a3) frx (hass a3) (fun x => hfa g3 a3 x hf3') nd hbody (fun E xs st4 g4 W hS hj hle hW hE hWE => ?_) (fun E c pre st4 g4 W hS hj hle hW hE hWE => ?_)
  · exact range_fin hr hi hle3 hi3 hf3' (hJ _ _ hj).1 hle hW hE hWE (hpost st4 (.inl ⟨xs, hS, hj⟩))
  · obtain rfl := hJxe c pre st4 hj
    refine wpIn_exit ?_
    simp only [Exit.inBlock, if_pos]
    exact range_fin hr hi hle3 hi3 hf3' (hJx _ _ _ hj).1 hle hW hE hWE (hpost st4 (.inr ⟨pre, hS, hj⟩))
end Go.Proofs.YtjodibncpbjegaaDoor
