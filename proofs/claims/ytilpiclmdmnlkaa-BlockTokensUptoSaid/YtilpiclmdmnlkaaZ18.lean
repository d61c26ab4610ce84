/- Merged: AvmX, AvmW, AvmT, Shelf. -/
import Derived.Test.YtilpiclmdmnlkaaZ17
import Derived.Shelf.Strconv.Itoa0
import Derived.Test.YtilpiclmdmnlkaaProg
/- A function that holds a range over a function, in plain data. No program. -/
set_option linter.unusedVariables false
set_option linter.unusedSimpArgs false
namespace Go.Proofs.Ytilpiclmdmnlkaa
open Go.RowKit

def onlyN (K : AFr → AS → Prop) : Post
  | .normal, fr, st => K fr st
  | _, _, _ => False
section
variable {K : AFr → AS → Prop} {fr : AFr} {st : AS}
theorem onlyN_normal : onlyN K .normal fr st = K fr st := no_rfl rfl
instance instPF_only : PF (onlyN K) := ⟨fun v fr fr' st h => h⟩
end
theorem awp_at {P : Program} {c : Code} {Q : Post} {fr : AFr} {st : AS} (hp : PFree Q) (h : awp P c Q fr st) (ds : List Deferred) {g : Gh} {a : Act} {w : World} (hi : Inv g st w) (hf : FSim ⟨ds, fun _ => none⟩ g fr a) (n : Nat) :
    c.wpIn Fence.wide n P (QC ⟨ds, fun _ => none⟩ g Q) a w :=
  wpIn_wide.2 (wpIn_wide.1 (awpR_sound c Q hp fr st h none (.inl rfl) ⟨ds, fun _ => none⟩ (fun _ _ => rfl) g a w hi hf))
/-- What is answered, at a function's end. -/
theorem ret_sound {P : Program} {fn : Func} {D : FixD} {g g' : Gh} {st st' : AS} {w w' : World} {fr' : AFr} {a' : Act} {R : AOut → AS → Prop} (hi : Inv g st w) (h1 : g.le g') (h2 : Inv g' st' w') (h3 : FSim D g' fr' a')
    (h5 : aresL P fr' st' fn.results.toList (fun l => RetForm st (oneOf l) st' R)) : ∃ v, (results fn a'.tmps).run P w' = .ok v w' ∧ ∃ g' o st', g.le g' ∧ Inv g' st' w' ∧ OSim g' o (.returned v) ∧ R o st' := by
  have hlen := h1.len
  obtain ⟨xs, l, k1, k2, k3⟩ := aresL_sound h2 h3 _ _ h5
  have hone := asim_one k2
  refine ⟨_, results_run k1, ?_⟩
  cases k3 with
  | forget q1 q2 q3 =>
    refine ⟨g'.cut st.bx.length st.ln.length, _, _, ?_, hi.cut h1 h2 q2, .ret _ _ ((forget_sim hone).cut q1), q3⟩
    have := h1.cut; rwa [hi.bxlen, hi.lnlen] at this
  | keep q1 q2 q3 =>
    refine ⟨g'.cut st.bx.length st.ln.length, _, _, ?_, hi.cut h1 h2 q2, .ret _ _ (hone.cut q1), q3⟩
    have := h1.cut; rwa [hi.bxlen, hi.lnlen] at this
  | fresh own id es e sz q1 q2 q3 q4 q5 =>
    have hid : id < g'.ln.length := by
      rw [h2.lnlen]; exact (List.getElem?_eq_some_iff.1 q3).1
    obtain ⟨k1', k2'⟩ := h2.ln id g'.ln[id] (List.getElem?_eq_getElem hid)
    rw [q3] at k1'
    have k1'' := Option.some.inj k1'
    simp only [Prod.mk.injEq] at k1''
    obtain ⟨r1, r2, r3⟩ := k1''
    have hcut := hi.cut h1 h2 q4
    have hkeep := hcut.keep (g := g') (st := st') h2 (by rw [← hi.lnlen]; exact hlen.2) q2 (List.getElem?_eq_getElem hid)
    rw [← r1, ← r2, ← r3] at hkeep
    refine ⟨_, _, _, ?_, hkeep, ?_, q5⟩
    · have := h1.cut
      rw [hi.bxlen, hi.lnlen] at this
      refine this.trans ⟨rfl, fun _ _ _ h => h, fun _ _ h => h, fun i L h => ⟨L, ?_, Nat.le_refl _, fun _ => rfl⟩⟩
      show (g'.ln.take st.ln.length ++ _)[i]? = some L
      rw [List.getElem?_append_left (show i < (g'.ln.take st.ln.length).length from (List.getElem?_eq_some_iff.1 h).1)]; exact h
    · rw [q1] at hone
      refine .ret _ _ ?_
      generalize (if h : xs.length = 1 then xs[0] else Value.tuple xs.toArray) = y at hone
      cases hone with
      | sl own tag es A cap sz vs hl hc hsz k1 hA hh htag =>
        refine .sl own _ es A cap sz vs hl hc hsz k1 hA (fun j x hx => ?_) ?_
        · refine VSim.dat0 (g := g') ?_ (hh j x hx) (k1 j x hx).2
          exact ⟨rfl, fun _ _ _ h => h⟩
        obtain ⟨L, m1, m2, m3⟩ := htag
        rw [List.getElem?_eq_getElem hid] at m1
        obtain rfl := Option.some.inj m1
        refine ⟨g'.ln[id], ?_, m2, m3⟩
        show (g'.ln.take st.ln.length ++ [_])[st.ln.length]? = _
        have : (g'.ln.take st.ln.length).length = st.ln.length := by have := hlen.2; rw [hi.lnlen] at this; simp; omega
        rw [List.getElem?_append_right (by omega), this]; simp
  | asis q => exact ⟨g', _, _, h1, h2, .ret _ _ hone, q⟩
theorem args_fsim {g : Gh} {args : List AV} {vs : List Value} {n : Nat} (ha : ASim g args vs) (hl : args.length ≤ n) :
    FSim ⟨[], fun _ => none⟩ g ⟨n, (List.range args.length).zip args⟩ { tmps := vs.toArray ++ Array.replicate (n - vs.toArray.size) undef, defers := [] } := by
  obtain ⟨hsz, hget⟩ := asim_get ha
  refine ⟨rfl, by simp; omega, fun t => ?_, fun t x h => by cases h⟩
  have hlook : ∀ (k : Nat) (l : List AV) (t : Nat), look ((List.range' k l.length).zip l) t = if t < k then .any else (l[t - k]?).getD .any := by
    intro k l
    induction l generalizing k with
    | nil => intro t; simp [look]
    | cons v l ih =>
      intro t
      simp only [List.length_cons, List.range'_succ, List.zip_cons_cons, look]
      by_cases e : k = t
      · subst e; simp
      · rw [if_neg e, ih (k + 1)]
        by_cases h1 : t < k
        · rw [if_pos h1, if_pos (by omega)]
        · rw [if_neg h1, if_neg (by omega)]
          have : t - k = (t - (k + 1)) + 1 := by omega
          rw [this]; simp
  have h0 := hlook 0 args t
  rw [← List.range_eq_range'] at h0
  simp only [Nat.not_lt_zero, if_false, Nat.sub_zero] at h0
  show VSim g (look ((List.range args.length).zip args) t) _
  rw [h0]
  cases hx : args[t]? with
  | none => exact .any _
  | some v =>
    have := hget t v hx
    have hlt := (List.getElem?_eq_some_iff.1 hx).1
    have e : (vs.toArray ++ Array.replicate (n - vs.toArray.size) undef).getD t undef = vs.getD t undef := by
      have hlt' : t < vs.length := by omega
      simp [Array.getD, List.getD_eq_getElem?_getD, hlt', show t < vs.length + (n - vs.length) by omega]
    rw [e]; exact this
theorem same_bx {g3 g' : Gh} {st3 st : AS} {w3 W : World} (hi : Inv g3 st3 w3) (hl : st.bx.length = st3.bx.length) (hle : g3.le g') (hi' : Inv g' st W) : g'.bx = g3.bx := by
  refine List.ext_getElem? fun i => ?_
  have hlen : g'.bx.length = g3.bx.length := by rw [hi'.bxlen, hl, hi.bxlen]
  rcases Nat.lt_or_ge i g3.bx.length with h | h
  · rw [List.getElem?_eq_getElem h]
    exact hle.bx i _ (List.getElem?_eq_getElem h)
  · rw [List.getElem?_eq_none h, List.getElem?_eq_none (by omega)]
theorem assign_one {P : Program} {l id d : Nat} {t : Tmp} {ty : TypeId} {pos : String} {after : Array Edge} {a : Act} {W : World} {K : Act → World → Prop} (hK : K (a.put (some d) (a.eval (.tmp t))) W) :
    (Code.region id #[⟨some d, .assign (.tmp t), ty, pos, after, none⟩] false).wpIn (Fence.wide.inRound l) 0 P (Exit.then K (fun _ _ _ => False)) a W := by
  refine wpIn_region_list (list_fen (r := some l) (by rintro ⟨a, w, h⟩; exact h) _ _ _ (fun o ho => .inr ?_) ?_)
  · have : o = ⟨some d, .assign (.tmp t), ty, pos, after, none⟩ := by simpa using ho
    subst this
    rfl
  · unfold wpList
    rw [if_pos (by rfl)]
    refine .inl ?_
    show Oper.upon _ _ _ _ _ _
    exact hK
def coll (E : Nat) : Deferred := { target := .collected E, args := #[] }
/-- Behind the loop, to the function's end. -/
theorem range_fin {P : Program} {fn : Func} {ce : Code} {rs : List ResultVar} {g g3 g4 : Gh} {st st3 st4 : AS} {w w3 W : World} {fr3 : AFr} {a3 : Act} {E : Nat} {R : AOut → AS → Prop} (hr : fn.results = rs.toArray)
    (hi : Inv g st w) (hle3 : g.le g3) (hi3 : Inv g3 st3 w3) (hf3 : FSim ⟨[], fun _ => none⟩ g3 fr3 a3) (hl : st4.bx.length = st3.bx.length) (hle : g3.le g4) (hW : Inv g4 st4 W) (hE : w3.heap.size ≤ E) (hWE : W.heap[E]? = some (.deferred (some [])))
    (hpost : awp P ce (retK P rs st R) fr3 st4) :
    ce.wpIn Fence.wide 2 P (bodyPostM Fence.wide 2 P fn fun e w' => ∃ g' o st', g.le g' ∧ Inv g' st' w' ∧ OSim g' o e ∧ R o st') { a3 with defers := coll E :: a3.defers } W := by
  have hbx := same_bx hi3 hl hle hW
  have hbE : ∀ b ∈ g4.bx, b ≠ E := fun b hb => by
    rw [hbx] at hb
    have := hi3.bx_lt hb
    omega
  have fzlt : ∀ b o, g.w0.fz b = some o → b ≠ E := fun b o hb => by
    have h1 := hi3.kept.2 b o
    rw [hle3.w0] at h1
    have := (Array.getElem?_eq_some_iff.1 (h1 hb).1).1
    omega
  have hg4 : g.le g4 := hle3.trans hle
  obtain ⟨rt, hrt⟩ : ∃ rt : Root, rt = ⟨g.w0.W, g.w0.n, fun k => if k = E then some (.deferred (some [])) else g.w0.fz k⟩ := ⟨_, rfl⟩
  have hk4 := hW.kept
  rw [hg4.w0] at hk4
  have hiR : Inv (g4.root rt) st4 W := hW.root (by rw [hrt, hg4.w0]) (by
    rw [hrt]
    refine ⟨hk4.1, fun b o hb => ?_⟩
    simp only at hb
    split at hb
    · rename_i e
      subst e
      obtain rfl := Option.some.inj hb
      exact ⟨hWE, rfl⟩
    · exact hk4.2 b o hb) (fun b hb => by
    rw [hrt]
    simp only
    rw [if_neg (hbE b hb)]
    have := (hW.bxK b hb).2.2
    rwa [hg4.w0] at this)
  have hf4 := (hf3.mono hle).root (r := rt) (by rw [hrt, hg4.w0])
  have hfR : FSim ⟨[coll E], fun _ => none⟩ (g4.root rt) fr3 { a3 with defers := coll E :: a3.defers } := ⟨by show coll E :: a3.defers = _; rw [hf3.defers], hf4.size, hf4.tmps, fun t x h => by cases h⟩
  refine wpIn_mono (awp_at (retK_free _ _ _ _) hpost [coll E] hiR hfR 2) fun e a5 w5 hq => ?_
  obtain ⟨g5, x, fr5, st5, k1, k2, k3, k4, k5⟩ := hq
  have hw5 : g5.w0 = rt := k1.w0
  have hk5 := k2.kept
  rw [hw5, hrt] at hk5
  have hE5 : w5.heap[E]? = some (.deferred (some [])) := (hk5.2 E _ (by simp)).1
  have hfz5 : ∀ b ∈ g5.bx, b ≠ E ∧ g.w0.fz b = none := fun b hb => by
    have := (k2.bxK b hb).2.2
    rw [hw5, hrt] at this
    simp only at this
    split at this
    · cases this
    · rename_i e; exact ⟨e, this⟩
  have k2' : Inv (g5.root g.w0) st5 w5 := k2.root (by rw [hw5, hrt]) ⟨hk5.1, fun b o hb => hk5.2 b o (by simp only; rw [if_neg (fzlt b o hb)]; exact hb)⟩ (fun b hb => (hfz5 b hb).2)
  have k6 : Inv (g5.root g.w0) st5 (w5.putObj E (.deferred none)) := k2'.other (grownBy_putObj' w5 E _) (fun k hk => by
    cases hk
    refine ⟨?_, fun hm => (hfz5 E hm).1 rfl, ?_, _, hE5, rfl⟩
    · have := hi3.base_le
      unfold Gh.base at this ⊢
      rw [hle3.w0] at this
      exact Nat.le_trans this hE
    · cases hz : g.w0.fz E with
      | none => exact hz
      | some o => exact absurd rfl (fzlt E o hz))
  have hg6 : g.le (g5.root g.w0) := ⟨rfl, fun b o v h => k1.K b o v (hg4.K b o v h), fun i b h => k1.bx i b (hg4.bx i b h), fun i L h => by
    obtain ⟨L', e1, e2, e3⟩ := hg4.ln i L h
    obtain ⟨L2, f1, f2, f3⟩ := k1.ln i L' e1
    refine ⟨L2, f1, Nat.le_trans e2 f2, fun he => ?_⟩
    have e4 : L.n = L'.n := by omega
    have e5 : L'.n = L2.n := by omega
    rw [f3 e5, e3 e4]⟩
  have k3' := k3.root (r := g.w0) (by rw [hw5, hrt])
  have hd : a5.defers = [coll E] := k3.defers
  have ret : aresL P fr5 st5 rs (fun l => RetForm st (oneOf l) st5 R) → LeavesInM Fence.wide 2 P fn a5.tmps (fun e w' => ∃ g' o st', g.le g' ∧ Inv g' st' w' ∧ OSim g' o e ∧ R o st') a5.defers .returning w5 := fun h5 => by
    rw [hd]
    refine ⟨by simp, .inl ⟨E, _, rfl, run_takeDeferred hE5, ?_⟩⟩
    exact ret_sound (fn := fn) hi hg6 k6 k3' (by rw [hr]; exact h5)
  cases k4 with
  | normal => exact ret k5
  | ret => exact ret k5
  | exit id => exact k5.elim
  | panic v z hz =>
    obtain ⟨q1, q2, q3⟩ := k5
    show LeavesInM _ _ _ _ _ _ a5.defers _ _
    rw [hd]
    refine ⟨by simp, .inl ⟨E, _, rfl, run_takeDeferred hE5, ?_⟩⟩
    refine ⟨(g5.root g.w0).cut st.bx.length st.ln.length, _, _, ?_, hi.cut hg6 k6 q2, .panic _ _ ((hz.root (by rw [hw5, hrt])).cut q1), q3⟩
    have := hg6.cut; rwa [hi.bxlen, hi.lnlen] at this
theorem enter_range {P : Program} {f : FuncId} {fn : Func} {ca cb cc ce : Code} {bid : Nat} {gop : Operand} {ps : Array Tmp} {assign body : Code} {n : Nat} {rs : List ResultVar} {args : List AV} {st : AS} {R : AOut → AS → Prop} {α : Type}
    (hf : P.funcs[f]? = some fn) (hb : fn.body = some (.seq ca (.seq cb (.seq (.seq cc (.block bid (.rangeFunc gop ps assign body))) ce)))) (hn : fn.ntmps = n) (hr : fn.results = rs.toArray) (hl : args.length ≤ n)
    (fr3 : AFr) (st3 : AS) (hpre : awp P ca (thenA P cb (thenA P cc (onlyN fun fr' st' => fr3.sub fr' ∧ st' = st3))) ⟨n, (List.range args.length).zip args⟩ st)
    {encs : α → Array Value} (frx : α → AFr) (a₁ : Act → α → Act) (gf : Nat) {N : Nat} {S Sp : List α → Prop} (J : List α → AS → Prop) (Jx : Code → List α → AS → Prop) (hps : ∀ x, (encs x).size = ps.size)
    (hit : ∀ g3 a3 w3, Inv g3 st3 w3 → FSim ⟨[], fun _ => none⟩ g3 fr3 a3 → ∃ lb C, a3.eval gop = .func (.func gf) #[] lb ∧ SeqStopsK Fence.wide 1 P gf lb encs (KpC C) S Sp N w3 ∧ (∀ pre st g' W, J pre st → g3.le g' → Inv g' st W → Has C W))
    (hgf : hasBody P gf = true) (hJ : ∀ pre st, J pre st → st.bx.length = st3.bx.length ∧ st.ln.length = st3.ln.length) (hJx : ∀ c pre st, Jx c pre st → st.bx.length = st3.bx.length ∧ st.ln.length = st3.ln.length) (h0 : J [] st3)
    (hass : ∀ (a3 : Act) (l : Nat) (x : α) (W : World) (K : Act → World → Prop), K (a₁ a3 x) W → assign.wpIn (Fence.wide.inRound l) (2 - 1 - 1) P (Exit.then K (fun _ _ _ => False)) { tmps := (ps.zip (encs x)).foldl (fun t (p, v) => t.setIfInBounds p v) a3.tmps, defers := [] } W)
    (hfa : ∀ g a3 x, FSim ⟨[], fun _ => none⟩ g fr3 a3 → FSim ⟨[], fun _ => none⟩ g (frx x) (a₁ a3 x)) (nd : ndC body = true)
    (hbody : ∀ pre x st, J pre st → pre.length < N → awp P body (bodyK st3.bx.length st3.ln.length st J Jx (pre ++ [x])) (frx x) st)
    (hJxe : ∀ c pre st, Jx c pre st → c = .exit bid)
    (hpost : ∀ st4, ((∃ xs, S xs ∧ J xs st4) ∨ (∃ pre, Sp pre ∧ Jx (.exit bid) pre st4)) → awp P ce (retK P rs st R) fr3 st4) :
    DoesCall P f args st R := by
  intro g w vs hi ha
  refine (callsIn_wide (n := 2)).1 (callsIn_of_wp_marks hf hb trivial ?_ rfl)
  rw [hn]
  refine wpIn_seq (wpIn_mono (awp_at (instPF_then P cb _).free hpre [] hi (args_fsim ha hl) 2) fun e a1 w1 hq => ?_)
  obtain ⟨g1, x, fr1, st1, le1, hi1, hf1, xs, q⟩ := hq
  cases xs with
  | exit id => exact q.elim
  | ret => exact q.elim
  | panic v z hz => exact q.elim
  | normal =>
  refine wpIn_seq (wpIn_mono (awp_at (instPF_then P cc _).free q [] hi1 hf1 2) fun e a2 w2 hq => ?_)
  obtain ⟨g2, x, fr2, st2, le2, hi2, hf2, xs, q⟩ := hq
  cases xs with
  | exit id => exact q.elim
  | ret => exact q.elim
  | panic v z hz => exact q.elim
  | normal =>
  refine wpIn_seq (wpIn_seq (wpIn_mono (awp_at instPF_only.free q [] hi2 hf2 2) fun e a3 w3 hq => ?_))
  obtain ⟨g3, x, fr3', st3', le3, hi3, hf3, xs, q⟩ := hq
  cases xs with
  | exit id => exact q.elim
  | ret => exact q.elim
  | panic v z hz => exact q.elim
  | normal =>
  obtain ⟨hsub, rfl⟩ := q
  have hf3' := hf3.sub hsub
  have hle3 := (le1.trans le2).trans le3
  obtain ⟨lb, C, hg, hseq, hC⟩ := hit g3 a3 w3 hi3 hf3'
  refine wpIn_block ?_
  refine range_run (D := ⟨[], fun _ => none⟩) hi3 hg (fun args w => callFunc_enter hgf args w) hseq hps J Jx hC hJ hJx h0 (a₁ a3) frx (hass a3) (fun x => hfa g3 a3 x hf3') nd hbody (fun E xs st4 g4 W hS hj hle hW hE hWE => ?_) (fun E c pre st4 g4 W hS hj hle hW hE hWE => ?_)
  · exact range_fin hr hi hle3 hi3 hf3' (hJ _ _ hj).1 hle hW hE hWE (hpost st4 (.inl ⟨xs, hS, hj⟩))
  · obtain rfl := hJxe c pre st4 hj
    refine wpIn_exit ?_
    simp only [Exit.inBlock, if_pos]
    exact range_fin hr hi hle3 hi3 hf3' (hJx _ _ _ hj).1 hle hW hE hWE (hpost st4 (.inr ⟨pre, hS, hj⟩))
end Go.Proofs.Ytilpiclmdmnlkaa
/- A box of the caller that holds a row of bytes that grows: what a writer's method does to it. -/
set_option linter.unusedVariables false
set_option linter.unusedSimpArgs false
namespace Go.Proofs.Ytilpiclmdmnlkaa
open Go.RowKit
/-- The stores whose boxes are these. -/
def BxIs (B : List (List AV)) : AS → Prop := fun s => s.bx = B
theorem bxIs_self {st : AS} : BxIs st.bx st = True := by simp [BxIs]
theorem bxIs_mk {B : List (List AV)} {L : List (Nat × Nat × Nat)} : BxIs B ⟨B, L⟩ = True := by simp [BxIs]
/-- A writer's one cell. -/
def wrt (m : Nat) (l : List UInt8) : List AV := [.sl true (.lin m) (encB l)]
theorem wrt_InB {m n k : Nat} {l : List UInt8} (h : m < k) : ∀ x ∈ wrt m l, InB n k x := by
  intro x hx
  obtain rfl := List.mem_singleton.1 hx
  exact InB_lin.2 h
/-- A method of a writer: it lays bytes behind those that are there. -/
def WrCall (P : Program) (e : Nat) (f : FuncId) (args : List AV) (out : List UInt8) : Prop :=
  ∀ (st : AS) (id m : Nat) (l : List UInt8) (R : AOut → AS → Prop), st.bx[id]? = some (wrt m l) → st.ln[m]? = some (l.length, e, 1) → l.length + out.length ≤ 140737488355328 →
    R (.ret (.tup [])) ⟨st.bx.set id (wrt m (l ++ out)), st.ln.set m ((l ++ out).length, e, 1)⟩ → DoesCall P f (.bp id 0 :: args) st R
theorem cut_wr {st : AS} {id m : Nat} {c : List AV} {y : Nat × Nat × Nat} {r : List (List AV)} {k : List (Nat × Nat × Nat)} : AS.cut ⟨st.bx.set id c ++ r, st.ln.set m y ++ k⟩ st.bx.length st.ln.length = ⟨st.bx.set id c, st.ln.set m y⟩ := by
  simp only [AS.cut]
  rw [List.take_append_of_le_length (by simp), List.take_append_of_le_length (by simp), List.take_of_length_le (by simp), List.take_of_length_le (by simp)]
theorem boxes_setW {st : AS} {id : Nat} {c : List AV} {r : List (List AV)} {K : List (Nat × Nat × Nat)} (hc : ∀ x ∈ c, InB st.bx.length st.ln.length x) : BoxesOk st ⟨st.bx.set id c ++ r, K⟩ := boxes_set hc
theorem end_wr {st : AS} {id m n : Nat} {l : List UInt8} {e : Nat} {r : List (List AV)} {k : List (Nat × Nat × Nat)} {R : AOut → AS → Prop} (hm : m < st.ln.length) (hR : R (.ret (.tup [])) ⟨st.bx.set id (wrt m l), st.ln.set m (n, e, 1)⟩) :
    RetForm st (.tup []) ⟨st.bx.set id (wrt m l) ++ r, st.ln.set m (n, e, 1) ++ k⟩ R :=
  .forget (by simp [AV.forget, InB_tup]) (boxes_setW (wrt_InB hm)) (by rw [cut_wr]; exact hR)
theorem end_wr1 {st : AS} {id m n : Nat} {l : List UInt8} {e : Nat} {r : List (List AV)} {R : AOut → AS → Prop} (hm : m < st.ln.length) (hR : R (.ret (.tup [])) ⟨st.bx.set id (wrt m l), st.ln.set m (n, e, 1)⟩) :
    RetForm st (.tup []) ⟨st.bx.set id (wrt m l) ++ r, st.ln.set m (n, e, 1)⟩ R := by
  have := end_wr (r := r) (k := []) hm hR
  simpa using this
theorem end_wr0 {st : AS} {id m n : Nat} {l : List UInt8} {e : Nat} {R : AOut → AS → Prop} (hm : m < st.ln.length) (hR : R (.ret (.tup [])) ⟨st.bx.set id (wrt m l), st.ln.set m (n, e, 1)⟩) :
    RetForm st (.tup []) ⟨st.bx.set id (wrt m l), st.ln.set m (n, e, 1)⟩ R := by
  have := end_wr (r := []) (k := []) hm hR
  simpa using this
theorem end_wr2 {st : AS} {id m n : Nat} {l : List UInt8} {e : Nat} {k : List (Nat × Nat × Nat)} {R : AOut → AS → Prop} (hm : m < st.ln.length) (hR : R (.ret (.tup [])) ⟨st.bx.set id (wrt m l), st.ln.set m (n, e, 1)⟩) :
    RetForm st (.tup []) ⟨st.bx.set id (wrt m l), st.ln.set m (n, e, 1) ++ k⟩ R := by
  have := end_wr (r := []) (k := k) hm hR
  simpa using this
end Go.Proofs.Ytilpiclmdmnlkaa
/- A region that draws its order: the first operations are walked here, the rest is left to the program's own world. -/
set_option linter.unusedVariables false
set_option linter.unusedSimpArgs false
namespace Go.Proofs.Ytilpiclmdmnlkaa
open Go.RowKit
section order
variable {P : Program} {md : Region.Mode} {ops : Array Oper} {X : AV → AS → Prop} {T : Array Bool → AFr → AS → Prop} {S : AS → Prop} {late : List Nat}
/-- In every order, so many operations; behind each that is not late the store is one of S; at the end all that is not yet done is late. -/
def aAnyT (P : Program) (md : Region.Mode) (ops : Array Oper) (X : AV → AS → Prop) (T : Array Bool → AFr → AS → Prop) (S : AS → Prop) (late : List Nat) : Nat → Array Bool → AFr → AS → Prop
  | 0, listed, fr, st => (∀ j, listed.getD j true = false → j ∈ late) ∧ T listed fr st
  | fuel + 1, listed, fr, st =>
    (Region.ready md ops listed ≠ []) ∧
    ∀ i ∈ Region.ready md ops listed, aopX P ops X i (fun fr' st' => (i ∉ late → S st') ∧ aAnyT P md ops X T S late fuel (listed.setIfInBounds i true) fr' st') fr st
def FineT (T : Array Bool → AFr → AS → Prop) : Prop := ∀ l fr fr' st, FEq fr fr' → T l fr st → T l fr' st
theorem aAnyT_fine (hT : FineT T) : ∀ (fuel : Nat) (listed : Array Bool), Fine (aAnyT P md ops X T S late fuel listed)
  | 0, listed, fr, fr', st, he, h => ⟨h.1, hT _ _ _ _ he h.2⟩
  | fuel + 1, listed, fr, fr', st, he, h => ⟨h.1, fun i hi => aopX_fine (fun a b s hab hk => ⟨hk.1, aAnyT_fine hT fuel _ a b s hab hk.2⟩) _ _ _ he (h.2 i hi)⟩
theorem aAnyT_first (hT : FineT T) {i f : Nat} {oi : Oper} {v : AV} (hi : ops[i]? = some oi) (hl : ∀ t ∈ late, waitsB md ops i f t = true) :
    ∀ (fuel : Nat) (listed : Array Bool) (fr : AFr) (st : AS), S st → Closed md ops listed →
      (∀ j oj, ops[j]? = some oj → j ≠ i → listed.getD j true = false → (∀ e ∈ oj.after, Region.binds md e = true → e.on ≠ i) → oi.apart ops oj = true) →
      i ∈ Region.ready md ops listed → AYields P ops S oi v fr →
      aAnyT P md ops X T S late fuel (listed.setIfInBounds i true) (fr.put oi.dst v) st → aAnyT P md ops X T S late (fuel + 1) listed fr st := by
  intro fuel
  induction fuel with
  | zero =>
    intro listed fr st hS hcl _ hr hy H
    refine ⟨fun h => (by rw [h] at hr; cases hr), fun j hj => ?_⟩
    by_cases hji : j = i
    · subst hji; exact hy.toOp hi hS ⟨fun _ => hS, H⟩
    · obtain ⟨hjun, _⟩ := mem_ready.1 hj
      have hm : j ∈ late := H.1 j (by rw [getD_set_ne true (Ne.symm hji)]; exact hjun)
      have := waits_ready hcl (hl j hm) hj
      rw [ready_not_listed hr] at this
      cases this
  | succ fuel ih =>
    intro listed fr st hS hcl hfree hr hy H
    refine ⟨fun h => (by rw [h] at hr; cases hr), fun j hj => ?_⟩
    by_cases hji : j = i
    · subst hji; exact hy.toOp hi hS ⟨fun _ => hS, H⟩
    · have h1 := H.2 j (ready_mono hj hji)
      obtain ⟨hjun, oj, hoj, hall⟩ := mem_ready.1 hj
      have hnot : ∀ e ∈ oj.after, Region.binds md e = true → e.on ≠ i := fun e he hb heq => by
        have h1 := hall e he hb
        rw [heq, ready_not_listed hr] at h1
        cases h1
      have hjl : j ∉ late := fun hm => by
        have := waits_ready hcl (hl j hm) hj
        rw [ready_not_listed hr] at this
        cases this
      have hfine : Fine (fun fr' st' => (j ∉ late → S st') ∧ aAnyT P md ops X T S late fuel ((listed.setIfInBounds i true).setIfInBounds j true) fr' st') :=
        fun a b s hab hk => ⟨hk.1, aAnyT_fine hT fuel _ a b s hab hk.2⟩
      have h2 := AYields.put hoj (hfree j oj hoj hji hjun hnot) hfine hy h1
      have hfree' : ∀ k ok, ops[k]? = some ok → k ≠ i → (listed.setIfInBounds j true).getD k true = false →
          (∀ e ∈ ok.after, Region.binds md e = true → e.on ≠ i) → oi.apart ops ok = true := fun k ok hk hki hun hno => by
        refine hfree k ok hk hki ?_ hno
        by_cases hjk : j = k
        · subst hjk; exact hjun
        · rw [getD_set_ne true hjk] at hun; exact hun
      refine aopX_mono (fun fr' st' h3 => ?_) h2
      have hs := h3.2.1 hjl
      have h4 := h3.2.2
      refine ⟨fun _ => hs, ?_⟩
      refine ih (listed.setIfInBounds j true) fr' st' hs (hcl.set hj) hfree' (ready_mono hr (Ne.symm hji)) h3.1 ?_
      rw [Array.setIfInBounds_comm _ _ hji]
      exact h4
/-- What stands done behind some operations. -/
def doneBy : List (Nat × Bool) → Array Bool → Array Bool
  | [], listed => listed
  | (i, _) :: r, listed => doneBy r (listed.setIfInBounds i true)
def ordT (md : Region.Mode) (ops : Array Oper) (late : List Nat) : List (Nat × Bool) → Array Bool → Bool
  | [], listed => (List.range listed.size).all fun j => listed.getD j true || late.contains j
  | (i, true) :: r, listed => Region.free md ops listed i && (Region.ready md ops listed).contains i && late.all (waitsB md ops i ops.size) && ordT md ops late r (listed.setIfInBounds i true)
  | (i, false) :: r, listed => Region.ready md ops listed == [i] && ordT md ops late r (listed.setIfInBounds i true)
theorem aAnyT_of_ord {N : AFr → AS → Prop} {L0 : Array Bool} (hN : Fine N) (hs : Region.noSelect ops = true) : ∀ (l : List (Nat × Bool)) (listed : Array Bool) (fr : AFr) (st : AS), Closed md ops listed → ordT md ops late l listed = true → doneBy l listed = L0 → aord P ops X N S late l fr st →
    aAnyT P md ops X (fun l fr st => l = L0 ∧ N fr st) S late l.length listed fr st
  | [], listed, fr, st, _, hB, hd, h => by
    refine ⟨fun j hj => ?_, hd, h⟩
    simp only [ordT, List.all_eq_true, Bool.or_eq_true] at hB
    have hlt : j < listed.size := by
      by_cases hlt : j < listed.size
      · exact hlt
      · rw [Array.getD_eq_getD_getElem?, Array.getElem?_eq_none (by omega)] at hj
        cases hj
    rcases hB j (List.mem_range.2 hlt) with h1 | h1
    · rw [h1] at hj; cases hj
    · simpa using h1
  | (i, true) :: r, listed, fr, st, hcl, hB, hd, h => by
    simp only [ordT, Bool.and_eq_true] at hB
    obtain ⟨⟨⟨hf, hr⟩, hl⟩, hB⟩ := hB
    obtain ⟨hst, o, v, ho, hy, hrest⟩ := h
    have hr' : i ∈ Region.ready md ops listed := by simpa using hr
    exact aAnyT_first (fun l a b s hab hk => ⟨hk.1, hN _ _ _ hab hk.2⟩) ho (by simpa using hl) r.length listed fr st hst hcl (Region.free_spec ho hf) hr' hy (aAnyT_of_ord hN hs r _ _ _ (hcl.set hr') hB hd hrest)
  | (i, false) :: r, listed, fr, st, hcl, hB, hd, h => by
    simp only [ordT, Bool.and_eq_true, beq_iff_eq] at hB
    have hi : i ∈ Region.ready md ops listed := by rw [hB.1]; simp
    have ih := aAnyT_of_ord (L0 := L0) hN hs r (listed.setIfInBounds i true)
    refine ⟨fun h0 => (by rw [h0] at hi; cases hi), fun j hj => ?_⟩
    have hji : j = i := by rw [hB.1] at hj; simpa using hj
    rw [hji]
    exact aopX_mono (fun fr st h2 => ⟨h2.1, ih fr st (hcl.set hi) hB.2 hd (h2.2 h2.1)⟩) h
/-- The rest, in the program's own world. -/
theorem aAnyT_sound {D : FixD} {N : AFr → AS → Prop} {g0 : Gh} (hd : ∀ (i : Nat) o, ops[i]? = some o → D.freeO o) (k : Nat)
    (tail : ∀ (listed : Array Bool) (fr : AFr) (st : AS) (g : Gh) (a : Act) (w : World), T listed fr st → g0.le g → Inv g st w → FSim D g fr a → wpAny P md ops (QC D g0 (QN X N)) k listed a w) :
    ∀ (fuel : Nat) (listed : Array Bool) (fr : AFr) (st : AS) (g : Gh) (a : Act) (w : World),
    aAnyT P md ops X T S late fuel listed fr st → g0.le g → Inv g st w → FSim D g fr a → wpAny P md ops (QC D g0 (QN X N)) (fuel + k) listed a w
  | 0, listed, fr, st, g, a, w, h, hg, hi, hf => by
    rw [Nat.zero_add]
    exact tail _ _ _ _ _ _ h.2 hg hi hf
  | fuel + 1, listed, fr, st, g, a, w, h, hg, hi, hf => by
    rw [Nat.add_right_comm]
    refine ⟨fun h0 => absurd h0 h.1, fun i hir => ?_⟩
    have h1 := h.2 i hir
    unfold aopX at h1
    unfold wpOp
    cases ho : ops[i]? with
    | none => rw [ho] at h1; exact aAnyT_sound hd k tail fuel _ fr st g a w h1.2 hg hi hf
    | some o =>
      rw [ho] at h1
      simp only [] at h1 ⊢
      unfold awant at h1
      split at h1
      · rename_i t ht
        have hw := wanted_of hf ht
        rw [hw]
        cases t with
        | true =>
          rw [if_pos rfl]
          refine .inl (exec_sound hi hf ⟨fun g' v x st' w' k1 k2 k3 k4 => ?_, fun g' v x st' w' k1 k2 k3 k4 => ?_⟩ (h1.1 rfl))
          · exact aAnyT_sound hd k tail fuel _ _ st' g' _ w' k4.2 (hg.trans k1) k2 ((hf.mono k1).put k3 o.dst (hd _ _ ho))
          · exact ⟨g', .panic v, fr, st', hg.trans k1, k2, hf.mono k1, .panic v x k3, k4⟩
        | false =>
          rw [if_neg (by simp)]
          exact aAnyT_sound hd k tail fuel _ _ st g _ w (h1.2 rfl).2 hg hi (hf.put (und_sim _) o.dst (hd _ _ ho))
      · exact h1.elim
end order
/-- A region that draws its order: its first operations here, the rest by hand. -/
theorem ADraw.of_tail {P : Program} {l : List Oper} {X : AV → AS → Prop} {N M : AFr → AS → Prop} {fr : AFr} {st : AS} {S : AS → Prop} (late : List Nat) (order : List (Nat × Bool)) (L0 : Array Bool) (k : Nat) (hm : P.follows .mixedOrders = true)
    (hB : (Region.noSelect l.toArray && (order.length + k == l.toArray.size) && ordT .any l.toArray late order (Array.replicate l.toArray.size false) && (doneBy order (Array.replicate l.toArray.size false) == L0)) = true)
    (h : aord P l.toArray X M S late order fr st)
    (tail : ∀ (D : FixD), (∀ (i : Nat) o, l.toArray[i]? = some o → D.freeO o) → ∀ (fr : AFr) (st : AS) (g0 g : Gh) (a : Act) (w : World), M fr st → g0.le g → Inv g st w → FSim D g fr a → wpAny P .any l.toArray (QC D g0 (QN X fun fr st => ∃ fr0, FEq fr0 fr ∧ N fr0 st)) k L0 a w) : ADraw P l.toArray X N fr st := by
  intro r hr D hd g0 g a w hg hi hf id
  simp only [Bool.and_eq_true, beq_iff_eq] at hB
  have hfine : Fine (fun fr st => ∃ fr0, FEq fr0 fr ∧ M fr0 st) := fun fr fr' st he ⟨fr0, h1, h2⟩ => ⟨fr0, h1.trans he, h2⟩
  have hmono : ∀ (order : List (Nat × Bool)) (fr : AFr) (s : AS), aord P l.toArray X M S late order fr s → aord P l.toArray X (fun fr st => ∃ fr0, FEq fr0 fr ∧ M fr0 st) S late order fr s := by
    intro order
    induction order with
    | nil => exact fun fr s h => ⟨fr, .refl fr, h⟩
    | cons p r ih =>
      obtain ⟨i, b⟩ := p
      cases b with
      | false => exact fun fr s h => aopX_mono (fun fr s h2 => ⟨h2.1, fun e => ih fr s (h2.2 e)⟩) h
      | true =>
        intro fr s h
        obtain ⟨h1, o, v, h2, h3, h4⟩ := h
        exact ⟨h1, o, v, h2, h3, ih _ _ h4⟩
  have hall := aAnyT_of_ord (P := P) (md := .any) (X := X) hfine hB.1.1.1 order _ fr st (closed_none _) hB.1.2 hB.2 (hmono order fr st h)
  have hs := aAnyT_sound (D := D) (N := fun fr st => ∃ fr0, FEq fr0 fr ∧ N fr0 st) (g0 := g0) hd k (fun listed fr st g a w hT hg hi hf => by
    obtain ⟨rfl, fr0, he, hM⟩ := hT
    exact tail D hd fr0 st g0 g a w hM hg hi (hf.feq he.symm)) order.length _ fr st g a w.drew hall hg hi.drew hf
  rw [hB.1.1.2] at hs
  refine wpIn_mono (wpIn_region_any hm (any_fen qc_lets (ro_get hr) _ _ _ _ hs)) fun e a w hq => ?_
  obtain ⟨g', x, fr', st', h1, h2, h3, h4, h5⟩ := hq
  cases x with
  | normal =>
    obtain ⟨fr0, k1, k2⟩ := h5
    exact ⟨g', .normal, fr0, st', h1, h2, h3.feq k1.symm, h4, k2⟩
  | panic v => exact ⟨g', .panic v, fr', st', h1, h2, h3, h4, h5⟩
  | exit id => exact h5.elim
  | ret => exact h5.elim
/-! ### Listed in another order than the text's -/
def nthC : List Oper → Nat → List Oper → List Oper
  | [], _, r => r
  | a :: _, 0, r => a :: r
  | _ :: l, i + 1, r => nthC l i r
def pickL (l : List Oper) : List Nat → List Oper
  | [] => []
  | i :: r => nthC l i (pickL l r)
theorem nthC_zero {a : Oper} {l r : List Oper} : nthC (a :: l) 0 r = a :: r := no_rfl rfl
theorem nthC_succ {a : Oper} {l r : List Oper} {i : Nat} : nthC (a :: l) (i + 1) r = nthC l i r := no_rfl rfl
theorem pickL_nil {l : List Oper} : pickL l [] = [] := no_rfl rfl
theorem pickL_cons {l : List Oper} {i : Nat} {r : List Nat} : pickL l (i :: r) = nthC l i (pickL l r) := no_rfl rfl
theorem nthC_get : ∀ (l : List Oper) (i : Nat) (r : List Oper), i < l.length → ∃ o, l[i]? = some o ∧ nthC l i r = o :: r
  | a :: l, 0, r, _ => ⟨a, rfl, rfl⟩
  | a :: l, i + 1, r, h => by
    obtain ⟨o, h1, h2⟩ := nthC_get l i r (by simpa using h)
    exact ⟨o, by simpa using h1, h2⟩
def ordersP : List Nat → List (Bool × Bool) → List (Nat × Bool)
  | i :: ix, (f, _) :: fl => (i, f) :: ordersP ix fl
  | _, _ => []
def permB (n : Nat) (all : List Nat) : List Nat → List (Bool × Bool) → Bool
  | [], [] => true
  | i :: ix, (_, lt) :: fl => decide (i < n) && (all.contains i == lt) && permB n all ix fl
  | _, _ => false
theorem ordS_ordP {P : Program} {l : List Oper} {X : AV → AS → Prop} {N : AFr → AS → Prop} {S : AS → Prop} (all : List Nat) : ∀ (ix : List Nat) (fl : List (Bool × Bool)) (fr : AFr) (st : AS), permB l.length all ix fl = true →
    ordS P l.toArray X N S fl (pickL l ix) fr st → aord P l.toArray X N S all (ordersP ix fl) fr st
  | [], [], fr, st, _, h => h
  | i :: ix, (f, lt) :: fl, fr, st, hp, h => by
    simp only [permB, Bool.and_eq_true, decide_eq_true_eq, beq_iff_eq] at hp
    obtain ⟨⟨hi, ha⟩, hp⟩ := hp
    obtain ⟨o, ho1, ho2⟩ := nthC_get l i (pickL l ix) hi
    rw [pickL, ho2] at h
    have ho : l.toArray[i]? = some o := by simpa using ho1
    cases f with
    | true =>
      obtain ⟨h1, h2⟩ := h
      refine ⟨h1, o, ?_⟩
      unfold awant at h2
      split at h2
      · rename_i t ht
        cases t with
        | true =>
          obtain ⟨v, k1, k2⟩ := h2.1 rfl
          refine ⟨v, ho, .inl ⟨ht, fun s J X' hs hj => ?_⟩, ordS_ordP all ix fl _ _ hp k2⟩
          obtain ⟨u, q1, q2⟩ := afree_yields (k1 s hs)
          subst q1
          exact q2 J X' hj
        | false => exact ⟨.und, ho, .inr ⟨ht, rfl⟩, ordS_ordP all ix fl _ _ hp (h2.2 rfl)⟩
      · exact h2.elim
    | false =>
      have hlate : i ∉ all → lt = false := fun hk => by
        rw [← ha]
        simpa using hk
      have go : ∀ fr' st', ((lt = false → S st') ∧ ordS P l.toArray X N S fl (pickL l ix) fr' st') → (i ∉ all → S st') ∧ ((i ∉ all → S st') → aord P l.toArray X N S all (ordersP ix fl) fr' st') := fun fr' st' ⟨q1, q2⟩ =>
        ⟨fun hk => q1 (hlate hk), fun _ => ordS_ordP all ix fl fr' st' hp q2⟩
      unfold ordS at h
      show aopX P l.toArray X i _ fr st
      unfold aopX
      simp only [ho]
      unfold awant at h ⊢
      split at h
      · exact ⟨fun e => aexec_mono (fun v s hv => go _ _ hv) (fun _ _ h => h) (h.1 e), fun e => go _ _ (h.2 e)⟩
      · exact h.elim
  | [], _ :: _, fr, st, hp, _ => by simp [permB] at hp
  | _ :: _, [], fr, st, hp, _ => by simp [permB] at hp
theorem ADraw.tailP {P : Program} {l : List Oper} {X : AV → AS → Prop} {N : AFr → AS → Prop} {fr : AFr} {st : AS} (S : AS → Prop) (M : AFr → AS → Prop) (late : List Nat) (ix : List Nat) (fl : List (Bool × Bool)) (L0 : Array Bool) (k : Nat) (hm : P.follows .mixedOrders = true)
    (hB : (Region.noSelect l.toArray && permB l.length late ix fl && ((ordersP ix fl).length + k == l.toArray.size) && ordT .any l.toArray late (ordersP ix fl) (Array.replicate l.toArray.size false) && (doneBy (ordersP ix fl) (Array.replicate l.toArray.size false) == L0)) = true)
    (h : ordS P l.toArray X M S fl (pickL l ix) fr st)
    (tail : ∀ (D : FixD), (∀ (i : Nat) o, l.toArray[i]? = some o → D.freeO o) → ∀ (fr : AFr) (st : AS) (g0 g : Gh) (a : Act) (w : World), M fr st → g0.le g → Inv g st w → FSim D g fr a → wpAny P .any l.toArray (QC D g0 (QN X fun fr st => ∃ fr0, FEq fr0 fr ∧ N fr0 st)) k L0 a w) : ADraw P l.toArray X N fr st := by
  simp only [Bool.and_eq_true] at hB
  obtain ⟨⟨⟨⟨h1, h2⟩, h3⟩, h4⟩, h5⟩ := hB
  exact ADraw.of_tail (M := M) (S := S) late (ordersP ix fl) L0 k hm (by simp only [Bool.and_eq_true]; exact ⟨⟨⟨h1, h3⟩, h4⟩, h5⟩) (ordS_ordP late ix fl fr st h2 h) tail
end Go.Proofs.Ytilpiclmdmnlkaa
/-
  DERIVED: THE SHELF's CONTRACTS AT THIS DUMP, IN PLAIN WORDS (tools/lay-plain.mjs out of 'TryShelf.lean', which tools/lay-shelf.mjs wrote): THE SAME DECLARATIONS UNDER THE SAME NAMES: 'import', 'namespace', 'open', 'def', 'theorem' AND NOTHING ELSE: no command of the shelf's: FOR A HAND-IN. Each laying: the table of numbers ('.._ren') and one theorem, a field a fact of the dump's own or the kernel's comparison; each contract: ONE APPLICATION.
-/
namespace Go.Proofs
open Go.Shelf
def Try.lays129_ren : Go.Shelf.Ren := ⟨fun | 129 => 18 | n => n, fun | 53 => 27 | 3 => 3 | 4 => 4 | 46 => 48 | 5 => 5 | 9 => 9 | n => n, fun | n => n⟩
theorem Try.lays129 : Go.Proofs.Lays.n129 Try.prog Try.lays129_ren := {
  mixed := by kernel_rfl
  f129 := Try.func18.trans (congrArg some (by kernel_rfl))
  t3 := Try.underlying3
  a3 := Try.isAgg3
  z3 := Try.sizeOf3
  v3 := Try.zeroValue3
  t4 := Try.underlying4
  a4 := Try.isAgg4
  z4 := Try.sizeOf4
  v4 := Try.zeroValue4
  t5 := Try.underlying5
  a5 := Try.isAgg5
  z5 := Try.sizeOf5
  v5 := Try.zeroValue5
  t9 := Try.underlying9
  a9 := Try.isAgg9
  z9 := Try.sizeOf9
  v9 := Try.zeroValue9
  t46 := Try.underlying48
  a46 := Try.isAgg48
  z46 := Try.sizeOf48
  v46 := Try.zeroValue48
  t53 := Try.underlying27
  a53 := Try.isAgg27
  z53 := Try.sizeOf27
  v53 := Try.zeroValue27 }
/-- bits.Len64: "Len64 returns the minimum number of bits required to represent x; the result is 0 for x == 0.": IT RETURNS 'Lib.bitLen x'; the world is as it was. ('h0', 'h1': x is a uint64.) (LAID: no walk: one application.) -/
theorem Try.bits_Len64 (x : Int) (w : World) (h0 : 0 ≤ x) (h1 : x ≤ 18446744073709551615) :
    Calls Try.prog 18 #[.int .u64 x] w fun e w' => e = .returned (.int .i64 (Lib.bitLen x.toNat)) ∧ w' = w := Any.bits_Len64 Try.lays129 x w h0 h1
end Go.Proofs
