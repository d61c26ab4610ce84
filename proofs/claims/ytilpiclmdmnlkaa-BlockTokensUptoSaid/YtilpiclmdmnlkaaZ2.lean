/- Merged: Avm2, Avm3. -/
import Derived.Test.YtilpiclmdmnlkaaZ1
/- A world and what is known of it; frames; what a piece of code does to plain data. No program. -/
set_option linter.unusedVariables false
set_option linter.unusedSimpArgs false
namespace Go.Proofs.Ytilpiclmdmnlkaa
open Go.RowKit

/-- A growing row in a world. -/
def LinOk (g : Gh) (L : Lin) (w : World) : Prop :=
  (L.n = 0 ∧ L.cap = 0) ∨
  ∃ b cur, L.A = some ⟨b, 0, none⟩ ∧ g.base ≤ b ∧ b ∉ g.bx ∧ w.heap[b]? = some (.cells cur L.e (0, 0)) ∧ L.n ≤ L.cap ∧ 0 < L.cap ∧ cur.size = L.cap * L.sz ∧
    (∀ o, o < L.n * L.sz → g.K b o = cur[o]?) ∧ (∀ o, L.n * L.sz ≤ o → g.K b o = none)
/-- Is it a map's box? -/
def boxMap : List AV → Bool
  | [.tup _] => true
  | _ => false
theorem boxMap_one {cs : List AV} (h : cs.all AV.one = true) : boxMap cs = false := by
  unfold boxMap
  split
  · simp [AV.one] at h
  · rfl
/-- A map's entries, as one cell. -/
def mapCell (es : Array MapEntry) : Value := .tuple (es.map fun e => .tuple #[e.key, e.val])
/-- A map's entries bear their numbers. -/
def Born (es : Array MapEntry) (clk : Nat) : Prop := (∀ (i : Nat) e, es[i]? = some e → e.born = i) ∧ clk = es.size
def ObjIs (o : Option Obj) (m : Bool) (cur : Array Value) (T : TypeId) : Prop :=
  match m with
  | false => o = some (.cells cur T (0, 0))
  | true => ∃ es clk, o = some (.map es clk) ∧ cur = #[mapCell es] ∧ Born es clk
theorem ObjIs.lt {w : World} {b : Nat} {m : Bool} {cur : Array Value} {T : TypeId} (h : ObjIs (w.heap[b]?) m cur T) : b < w.heap.size := by
  cases m with
  | false => exact (Array.getElem?_eq_some_iff.1 h).1
  | true => obtain ⟨es, clk, h, _⟩ := h; exact (Array.getElem?_eq_some_iff.1 h).1
def isC : Obj → Bool
  | .cells _ _ _ => true
  | _ => false
def KeptR (r : Root) (w : World) : Prop := (Kept r.W w ∧ r.n ≤ w.heap.size) ∧ ∀ b o, r.fz b = some o → w.heap[b]? = some o ∧ isC o = false
/-- A block of which no cell is frozen. -/
def Loose (x : Option Obj) : Prop := ∀ C T lo hi, x = some (.cells C T (lo, hi)) → lo = hi ∨ C.size ≤ lo
structure Inv (g : Gh) (st : AS) (w : World) : Prop where
  K : ∀ b o v, g.K b o = some v → w.cell? ⟨b, o, none⟩ = some v ∧ oneV v = true
  bxlen : g.bx.length = st.bx.length
  bx : ∀ (i : Nat) b cs, g.bx[i]? = some b → st.bx[i]? = some cs → ∃ cur T, ObjIs (w.heap[b]?) (boxMap cs) cur T ∧ cur.size = cs.length ∧ ∀ (j : Nat) x, cs[j]? = some x → VSim g x (cur.getD j undef)
  bxK : ∀ b, b ∈ g.bx → g.base ≤ b ∧ (∀ o, g.K b o = none) ∧ g.w0.fz b = none
  bxnd : g.bx.Nodup
  lnlen : g.ln.length = st.ln.length
  ln : ∀ (i : Nat) L, g.ln[i]? = some L → st.ln[i]? = some (L.n, L.e, L.sz) ∧ LinOk g L w
  lnd : ∀ (i j : Nat) L L' a a', g.ln[i]? = some L → g.ln[j]? = some L' → 0 < L.cap → 0 < L'.cap → L.A = some a → L'.A = some a' → a.block = a'.block → i = j
  kept : KeptR g.w0 w
  ok : WorldOk g.w0.W
  nf : ∀ b o v, g.K b o = some v → g.base ≤ b → Loose (w.heap[b]?)
theorem Inv.base_le {g : Gh} {st : AS} {w : World} (h : Inv g st w) : g.base ≤ w.heap.size := h.kept.1.1.size
theorem Inv.K_lt {g : Gh} {st : AS} {w : World} (h : Inv g st w) {b o : Nat} {v : Value} (hk : g.K b o = some v) : b < w.heap.size := World.block_lt_of_cell? w _ (h.K b o v hk).1

/-- The world goes on, nothing that was there changed: everything stays. -/
theorem Inv.kept_ {g : Gh} {st : AS} {w w' : World} (h : Inv g st w) (hk : Kept w w') : Inv g st w' where
  K b o v hv := ⟨hk.cell (h.K b o v hv).1, (h.K b o v hv).2⟩
  bxlen := h.bxlen
  bx i b cs hb hc := by
    obtain ⟨cur, T, h1, h2, h3⟩ := h.bx i b cs hb hc
    exact ⟨cur, T, by rw [hk.block b h1.lt]; exact h1, h2, h3⟩
  bxK := h.bxK
  bxnd := h.bxnd
  lnlen := h.lnlen
  ln i L hL := by
    obtain ⟨h1, h2⟩ := h.ln i L hL
    refine ⟨h1, ?_⟩
    rcases h2 with h2 | ⟨b, cur, e1, e2, e3, e4, e5⟩
    · exact .inl h2
    · exact .inr ⟨b, cur, e1, e2, e3, (hk.block b (Array.getElem?_eq_some_iff.1 e4).1).trans e4, e5⟩
  lnd := h.lnd
  kept := ⟨⟨h.kept.1.1.trans hk, Nat.le_trans h.kept.1.2 hk.size⟩, fun b o hb => ⟨(hk.block b (Array.getElem?_eq_some_iff.1 (h.kept.2 b o hb).1).1).trans (h.kept.2 b o hb).1, (h.kept.2 b o hb).2⟩⟩
  ok := h.ok
  nf b o v hv hb := by rw [hk.block b (World.block_lt_of_cell? w _ (h.K b o v hv).1)]; exact h.nf b o v hv hb

/-! ### Frames -/
structure AFr where
  n : Nat
  l : List (Nat × AV)
def look : List (Nat × AV) → Nat → AV
  | [], _ => .any
  | (t, v) :: r, u => if t = u then v else look r u
def AFr.put (fr : AFr) (dst : Option Tmp) (v : AV) : AFr :=
  match dst with
  | none => fr
  | some d => { fr with l := (d, if d < fr.n then v else .any) :: fr.l }
def AFr.eval (fr : AFr) : Operand → AV
  | .tmp t => look fr.l t
  | .const v => AV.ofV v
  | .global _ => .any
  | .func f => .fn (.func f) []
/-- What stays of a frame: the deferred calls; slots that hold a value. -/
structure FixD where
  ds : List Deferred
  keep : Tmp → Option Value
/-- The slots that a code writes. -/
def dstsOf : Code → List Tmp
  | .region _ ops _ => ops.toList.filterMap (·.dst)
  | .seq a b => dstsOf a ++ dstsOf b
  | .cond _ a b => dstsOf a ++ dstsOf b
  | .block _ c => dstsOf c
  | .loop c => dstsOf c
  | .scope c => dstsOf c
  | _ => []
def FixD.free (D : FixD) (c : Code) : Prop := ∀ t ∈ dstsOf c, D.keep t = none
def FixD.freeO (D : FixD) (o : Oper) : Prop := ∀ t, o.dst = some t → D.keep t = none
structure FSim (D : FixD) (g : Gh) (fr : AFr) (a : Act) : Prop where
  defers : a.defers = D.ds
  size : a.tmps.size = fr.n
  tmps : ∀ t, VSim g (look fr.l t) (a.tmps.getD t undef)
  keep : ∀ t x, D.keep t = some x → a.tmps.getD t undef = x
theorem FSim.mono {D : FixD} {g g' : Gh} {fr : AFr} {a : Act} (h : FSim D g fr a) (hg : g.le g') : FSim D g' fr a := ⟨h.defers, h.size, fun t => (h.tmps t).mono hg, h.keep⟩
theorem FSim.put {D : FixD} {g : Gh} {fr : AFr} {a : Act} (h : FSim D g fr a) {v : AV} {x : Value} (hv : VSim g v x) (dst : Option Tmp) (hk : ∀ t, dst = some t → D.keep t = none) : FSim D g (fr.put dst v) (a.put dst x) := by
  cases dst with
  | none => exact h
  | some d =>
    refine ⟨h.defers, by simp [Act.put, AFr.put, h.size], fun t => ?_, fun t y hy => ?_⟩
    rotate_left
    · have hd : d ≠ t := fun e => by subst e; rw [hk d rfl] at hy; cases hy
      have e : ((a.put (some d) x).tmps.getD t undef) = a.tmps.getD t undef := by
        simp only [Act.put]
        simp [Array.getElem?_setIfInBounds_ne hd]
      rw [e]
      exact h.keep t y hy
    by_cases hd : d = t
    · subst hd
      by_cases hn : d < fr.n
      · have e : ((a.put (some d) x).tmps.getD d undef) = x := by
          have : d < a.tmps.size := by rw [h.size]; exact hn
          simp [Act.put, Array.getD, this]
        rw [e]
        simp only [AFr.put, look, if_pos rfl, if_pos hn]
        exact hv
      · simp only [AFr.put, look, if_pos rfl, if_neg hn]
        exact .any _
    · have e : ((a.put (some d) x).tmps.getD t undef) = a.tmps.getD t undef := by
        simp only [Act.put]
        simp [Array.getElem?_setIfInBounds_ne hd]
      rw [e]
      simp only [AFr.put, look, if_neg hd]
      exact h.tmps t
/-- A frame that says less. -/
def AFr.sub (fr' fr : AFr) : Prop := fr'.n = fr.n ∧ ∀ p ∈ fr'.l, look fr.l p.1 = p.2
theorem look_mem : ∀ (l : List (Nat × AV)) (t : Nat), look l t = .any ∨ (t, look l t) ∈ l
  | [], t => .inl rfl
  | (u, v) :: r, t => by
    unfold look
    split
    · rename_i h; subst h; exact .inr (by simp)
    · rcases look_mem r t with h | h
      · exact .inl h
      · exact .inr (List.mem_cons_of_mem _ h)
theorem FSim.sub {D : FixD} {g : Gh} {fr fr' : AFr} {a : Act} (h : FSim D g fr a) (hs : fr'.sub fr) : FSim D g fr' a :=
  ⟨h.defers, h.size.trans hs.1.symm, (fun t => by
    rcases look_mem fr'.l t with e | e
    · rw [e]; exact .any _
    · have e2 : look fr.l t = look fr'.l t := hs.2 _ e
      rw [← e2]
      exact h.tmps t), h.keep⟩
theorem FSim.eval {D : FixD} {g : Gh} {fr : AFr} {a : Act} (h : FSim D g fr a) (x : Operand) : VSim g (fr.eval x) (a.eval x) := by
  cases x with
  | tmp t => exact h.tmps t
  | const v => exact .ofV g v
  | global g => exact .any _
  | func f => exact .fn _ [] #[] rfl (fun i x hx => by simp at hx)

/-! ### What a piece of code does -/
inductive AX where
  | normal
  | exit (id : Nat)
  | ret
  | panic (v : AV)
inductive XSim (g : Gh) : AX → Exit → Prop
  | normal : XSim g .normal .normal
  | exit (id : Nat) : XSim g (.exit id) (.exit id)
  | ret : XSim g .ret .ret
  | panic (v : AV) (x : Value) (h : VSim g v x) : XSim g (.panic v) (.panic [{ v := x, recovered := false }])
abbrev Post := AX → AFr → AS → Prop
/-- The code comes to one of Q's ends, from every world that is as the plain data say. -/
def Does (P : Program) (c : Code) (Q : Post) (fr : AFr) (st : AS) : Prop :=
  ∀ (D : FixD), D.free c → ∀ g a w, Inv g st w → FSim D g fr a → c.wp P (fun e a' w' => ∃ g' x fr' st', g.le g' ∧ Inv g' st' w' ∧ FSim D g' fr' a' ∧ XSim g' x e ∧ Q x fr' st') a w
inductive AOut where
  | ret (v : AV)
  | panic (v : AV)
inductive OSim (g : Gh) : AOut → Ending → Prop
  | ret (v : AV) (x : Value) (h : VSim g v x) : OSim g (.ret v) (.returned x)
  | panic (v : AV) (x : Value) (h : VSim g v x) : OSim g (.panic v) (.panicked [{ v := x, recovered := false }])
inductive ASim (g : Gh) : List AV → List Value → Prop
  | nil : ASim g [] []
  | cons {v : AV} {x : Value} {l : List AV} {r : List Value} (h : VSim g v x) (hr : ASim g l r) : ASim g (v :: l) (x :: r)
theorem ASim.mono {g g' : Gh} (hg : g.le g') {l : List AV} {r : List Value} (h : ASim g l r) : ASim g' l r := by
  induction h with
  | nil => exact .nil
  | cons h _ ih => exact .cons (h.mono hg) ih
/-- The call comes to one of R's ends. -/
def DoesCall (P : Program) (f : FuncId) (args : List AV) (st : AS) (R : AOut → AS → Prop) : Prop :=
  ∀ g w vs, Inv g st w → ASim g args vs → Calls P f vs.toArray w fun e w' => ∃ g' o st', g.le g' ∧ Inv g' st' w' ∧ OSim g' o e ∧ R o st'
theorem DoesCall.mono {P : Program} {f : FuncId} {args : List AV} {st : AS} {R R' : AOut → AS → Prop} (h : DoesCall P f args st R) (hr : ∀ o st', R o st' → R' o st') : DoesCall P f args st R' :=
  fun g w vs hi ha => (h g w vs hi ha).mono fun e w' ⟨g', o, st', h1, h2, h3, h4⟩ => ⟨g', o, st', h1, h2, h3, hr _ _ h4⟩
theorem Does.mono {P : Program} {c : Code} {Q Q' : Post} {fr : AFr} {st : AS} (h : Does P c Q fr st) (hq : ∀ x fr st, Q x fr st → Q' x fr st) : Does P c Q' fr st :=
  fun D hD g a w hi hf => wp_mono (h D hD g a w hi hf) fun e a' w' ⟨g', x, fr', st', h1, h2, h3, h4, h5⟩ => ⟨g', x, fr', st', h1, h2, h3, h4, hq _ _ _ h5⟩
theorem Does.sub {P : Program} {c : Code} {Q : Post} {fr fr' : AFr} {st : AS} (hs : fr'.sub fr) (h : Does P c Q fr' st) : Does P c Q fr st :=
  fun D hD g a w hi hf => h D hD g a w hi (hf.sub hs)
end Go.Proofs.Ytilpiclmdmnlkaa
/- What each operation does to plain data. No program. -/
set_option linter.unusedVariables false
set_option linter.unusedSimpArgs false
namespace Go.Proofs.Ytilpiclmdmnlkaa
open Go.RowKit

inductive TD where
  | struct (fs : List (Nat × Nat × Option Bool))
  | array (n sz : Nat) (ag : Option Bool)
  | slice (e sz bytes : Nat)
  | int (k : IntKind)
  | string
  | iface
  | other
/-- Of a type: its cells; is it a struct or an array; its zero; what it is. -/
structure TyI where
  size : Nat
  agg : Bool
  zero : AV
  desc : TD
def aggD : TypeDesc → Bool
  | .struct _ | .array _ _ => true
  | _ => false
def aggT (P : Program) (t : TypeId) : Option Bool := (P.underlying t).map aggD
def tdOf (P : Program) : TypeDesc → TD
  | .struct fs => .struct (fs.toList.map fun f => (f.offset, P.cellsOf f.type, aggT P f.type))
  | .array n e => .array n (P.cellsOf e) (aggT P e)
  | .slice e => .slice e (P.cellsOf e) (P.bytesOf e)
  | .int k => .int k
  | .string => .string
  | .interface _ => .iface
  | _ => .other
def tyOf (P : Program) (t : TypeId) : Option TyI :=
  match P.info? t, P.underlying t with
  | some i, some d => some { size := i.size, agg := aggD d, zero := (i.zero.map AV.ofV).getD .any, desc := tdOf P d }
  | _, _ => none
def hasBody (P : Program) (f : FuncId) : Bool :=
  match P.funcs[f]? with
  | some fn => fn.body.isSome && fn.name != "runtime.NumGoroutine"
  | none => false

/-- It runs to a value and leaves every world as it was. -/
def TRun {α : Type} (P : Program) (sem : Sem α) (K : α → Prop) : Prop := ∃ v, (∀ w, sem.run P w = .ok v w) ∧ K v

def AS.box (st : AS) (cs : List AV) : AS := { st with bx := st.bx ++ [cs] }
def splice {α : Type} (cs : List α) (off : Nat) (vs : List α) : List α := cs.take off ++ vs ++ cs.drop (off + vs.length)
def AV.known : AV → Bool
  | .any => false
  | _ => true
/-- Cells that may stand in a row: of one cell each, of no box and no growing row. -/
def AV.forget0 : AV → AV
  | .sl own _ es => .sl own .none es
  | v => v
def AV.forget1 : AV → AV
  | .agg l => .agg (l.map AV.forget0)
  | v => v.forget0
def AV.forget : AV → AV
  | .tup l => .tup (l.map AV.forget1)
  | v => v.forget1
def okCells (l : List AV) : Bool := l.all fun x => x.one && x.dat0

def apick (c a b : AV) (K : AV → Prop) : Prop :=
  match c with
  | .s (.bool t) => (t = true → K a) ∧ (t = false → K b)
  | _ => False
def aalloc (t : Option TyI) (st : AS) (K : AV → AS → Prop) : Prop :=
  match t with
  | some i => i.zero.known = true ∧ i.zero.cells.all AV.one = true ∧ K (.bp st.bx.length 0) (st.box i.zero.cells)
  | none => False
def abox (v : AV) (st : AS) (K : AV → AS → Prop) : Prop := v.known = true ∧ v.cells.all AV.one = true ∧ K (.bp st.bx.length 0) (st.box v.cells)
def afill (place : Nat → Option (Nat × Nat)) (cells : List AV) : List (Nat × AV) → Option (List AV)
  | [] => some cells
  | (i, v) :: rest =>
    match place i with
    | none => none
    | some (off, size) => if v.cells.length = size ∧ off + v.cells.length ≤ cells.length ∧ v.known = true ∧ v.cells.all AV.one = true then afill place (splice cells off v.cells) rest else none
def abuild (t : Option TyI) (parts : List (Nat × AV)) (K : AV → Prop) : Prop :=
  match t with
  | some { zero := .agg z, desc := .struct fs, .. } =>
    (match afill (fun i => (fs[i]?).map fun f => (f.1, f.2.1)) z parts with
    | some cs => fs.all (fun f => decide (0 < f.2.1)) = true ∧ K (.agg cs)
    | none => False)
  | some { zero := .agg z, desc := .array _ sz _, .. } =>
    (match afill (fun i => some (i * sz, sz)) z parts with
    | some cs => 0 < sz ∧ K (.agg cs)
    | none => False)
  | _ => False
/-- Each part laid into its element. -/
def afillS (es : List (List AV)) (sz : Nat) : List (Nat × AV) → Option (List (List AV))
  | [] => some es
  | (i, v) :: rest => if v.cells.length = sz ∧ i < es.length ∧ v.known = true ∧ okCells (v.cells.map AV.forget0) = true then afillS (es.set i (v.cells.map AV.forget0)) sz rest else none
def abuildSlice (P : Program) (t : Option TyI) (len : Nat) (parts : List (Nat × AV)) (K : AV → Prop) : Prop :=
  match t with
  | some { desc := .slice e sz _, .. } =>
    (match tyOf P e with
    | some i => i.zero.known = true ∧ okCells i.zero.cells = true ∧ i.zero.cells.length = sz ∧ 0 < sz ∧ len * sz ≤ 16777216 ∧
      (match afillS (List.replicate len i.zero.cells) sz parts with
      | some es => K (.sl true .full es)
      | none => False)
    | none => False)
  | _ => False
def aload (t : Option TyI) (a : AV) (st : AS) (K : AV → Prop) : Prop :=
  match t with
  | some i =>
    (match a with
    | .rp l => if i.agg = true then i.size ≤ l.length ∧ K (.agg (l.take i.size)) else (match l with | x :: _ => K x | [] => False)
    | .bp id off =>
      (match st.bx[id]? with
      | some cs => if i.agg = true then off + i.size ≤ cs.length ∧ ((cs.drop off).take i.size).all AV.one = true ∧ K (.agg ((cs.drop off).take i.size)) else (match cs[off]? with | some x => x.one = true ∧ K x | none => False)
      | none => False)
    | _ => False)
  | none => False
def astore (t : Option TyI) (a v : AV) (st : AS) (K : AS → Prop) : Prop :=
  match t, a with
  | some i, .bp id off =>
    (match st.bx[id]? with
    | some cs => v.cells.length = i.size ∧ v.known = true ∧ v.cells.all AV.one = true ∧ cs.all AV.one = true ∧ off + i.size ≤ cs.length ∧ K { st with bx := st.bx.set id (splice cs off v.cells) }
    | none => False)
  | _, _ => False
def anil (v : AV) (K : AV → Prop) : Prop :=
  match v with
  | .bp _ _ | .rp _ => K v
  | .fn (.func _) _ => K v
  | _ => False
def abin (P : Program) (op : BinOp) (t : TypeId) (x y : Operand) (a b : AV) (K : AV → Prop) : Prop :=
  match a.lit, b.lit with
  | some u, some v => TRun P (do eqGuard op t x y u v; binOp op t u v) fun r => K (AV.ofV r)
  | _, _ => False
/-- The bytes of a list. -/
def encB (l : List UInt8) : List (List AV) := l.map fun b => [AV.s (.int .u8 (b.toNat : Int))]
def aconv (P : Program) (src dst : TypeId) (a : AV) (ln : List (Nat × Nat × Nat)) (K : AV → Prop) : Prop :=
  match a with
  | .sl own _ es =>
    (match tyOf P src, tyOf P dst with
    | some { desc := .slice e 1 _, .. }, some { desc := .string, .. } =>
      (match tyOf P e with
      | some { desc := .int .u8, .. } => ∃ l : List UInt8, es = encB l ∧ K (.s (.string ⟨l.toArray⟩))
      | _ => False)
    | some { desc := .slice e _ _, .. }, some { desc := .slice _ _ _, .. } =>
      (match tyOf P e with
      | some { desc := .int .u8, .. } => src = dst ∧ ln = [] ∧ own = true ∧ es.flatten ≠ [] ∧ K (.sl true .none es)
      | _ => False)
    | _, _ => False)
  | a => (match a.lit with
    | some u => TRun P (convert src dst u) fun r => K (AV.ofV r)
    | none => False)
def aiface (t : Option TyI) (x : TypeId) (v : AV) (K : AV → Prop) : Prop :=
  match t with
  | some { desc := .iface, .. } => False
  | some _ => K (.ifc x v)
  | none => False
def aint : AV → Option Int
  | .s (.int _ n) => some n
  | _ => none
def aslice (P : Program) (t : TypeId) (a : AV) (lo hi : Option AV) (K : AV → Prop) : Prop :=
  match a with
  | .sl own _ es =>
    (match tyOf P t with
    | some { desc := .slice _ sz _, .. } =>
      (match (lo.getD (.s (.int .i64 0))), (hi.getD (.s (.int .i64 es.length))) with
      | .s (.int _ l), .s (.int _ h) => 0 ≤ l ∧ l ≤ h ∧ h ≤ es.length ∧ 0 < sz ∧ (∀ e ∈ es, e.length = sz) ∧ K (.sl own .none ((es.take h.toNat).drop l.toNat))
      | _, _ => False)
    | _ => False)
  | a => (match a.lit with
    | some u => (match lo.map AV.lit, hi.map AV.lit with
      | none, none => TRun P (Instr.sliceAt t u none none none) fun r => K (AV.ofV r)
      | some (some l), none => TRun P (Instr.sliceAt t u (some l) none none) fun r => K (AV.ofV r)
      | none, some (some h) => TRun P (Instr.sliceAt t u none (some h) none) fun r => K (AV.ofV r)
      | some (some l), some (some h) => TRun P (Instr.sliceAt t u (some l) (some h) none) fun r => K (AV.ofV r)
      | _, _ => False)
    | none => False)
def afieldAddr (t : Option TyI) (a : AV) (f : Nat) (K : AV → Prop) : Prop :=
  match t with
  | some { desc := .struct fs, .. } =>
    (match fs[f]? with
    | some (off, sz, _) => 0 < sz ∧ (match a with | .bp id o => K (.bp id (o + off)) | .rp l => K (.rp (l.drop off)) | _ => False)
    | none => False)
  | _ => False
def afield (t : Option TyI) (a : AV) (f : Nat) (K : AV → Prop) : Prop :=
  match t, a with
  | some { desc := .struct fs, .. }, .agg l =>
    (match fs[f]? with
    | some (off, sz, some true) => 0 < sz ∧ off + sz ≤ l.length ∧ K (.agg ((l.drop off).take sz))
    | some (off, sz, some false) => 0 < sz ∧ (match l[off]? with | some x => K x | none => False)
    | _ => False)
  | _, _ => False
def aindexAddr (t : Option TyI) (a i : AV) (K : AV → Prop) : Prop :=
  match t, a, i with
  | some { desc := .slice _ sz _, .. }, .sl _ _ es, .s (.int _ n) => 0 ≤ n ∧ 0 < sz ∧ (match es[n.toNat]? with | some e => e.length = sz ∧ K (.rp e) | none => False)
  | some { desc := .array len sz _, .. }, .bp id o, .s (.int _ n) => 0 ≤ n ∧ n < len ∧ 0 < sz ∧ K (.bp id (o + n.toNat * sz))
  | _, _, _ => False
def aindex (P : Program) (t : TypeId) (a i : AV) (K : AV → Prop) : Prop :=
  match a with
  | .agg l =>
    (match tyOf P t, i with
    | some { desc := .array len 1 (some false), .. }, .s (.int _ n) => 0 ≤ n ∧ n < len ∧ (match l[n.toNat]? with | some x => K x | none => False)
    | _, _ => False)
  | a => (match a.lit, i.lit with
    | some u, some n => TRun P (Instr.index t u n) fun r => K (AV.ofV r)
    | _, _ => False)
def aextract (a : AV) (i : Nat) (K : AV → Prop) : Prop :=
  match a with
  | .tup l => (match l[i]? with | some x => K x | none => False)
  | _ => False
def callK (K X : AV → AS → Prop) : AOut → AS → Prop
  | .ret v, st => K v st
  | .panic v, st => X v st
/-- append: onto nothing, a full row, the head of a growing one. -/
def aapp (e sz bytes : Nat) (a : AV) (news : List (List AV)) (st : AS) (K : AV → AS → Prop) : Prop :=
  match a with
  | .s (.slice none 0 0) => news.length * bytes ≤ 140737488355328 ∧ K (.sl true (.lin st.ln.length) news) { st with ln := st.ln ++ [(news.length, e, sz)] }
  | .sl own .full es => (es.length + news.length) * bytes ≤ 140737488355328 ∧ (∀ x ∈ es, x.length = sz) ∧ ((es = [] ∨ news ≠ []) ∧ K (.sl true (.lin st.ln.length) (es ++ news)) { st with ln := st.ln ++ [((es ++ news).length, e, sz)] } ∨ news = [] ∧ K (.sl own .full es) st)
  | .sl own (.lin id) es => (es.length + news.length) * bytes ≤ 140737488355328 ∧ st.ln[id]? = some (es.length, e, sz) ∧ (∀ x ∈ es, x.length = sz) ∧ K (.sl true (.lin id) (es ++ news)) { st with ln := st.ln.set id ((es ++ news).length, e, sz) }
  | _ => False
def aappend (P : Program) (t : Option TyI) (str : Bool) (a x : AV) (st : AS) (K : AV → AS → Prop) : Prop :=
  match t with
  | some { desc := .slice e sz bytes, .. } => 0 < sz ∧ 0 < bytes ∧ (match tyOf P e with | some i => i.zero.known = true ∧ i.zero.cells.length = sz | none => False) ∧
    (match x with
    | .sl _ _ news => str = false ∧ (∀ y ∈ news, y.length = sz) ∧ aapp e sz bytes a news st K
    | .s (.slice none 0 0) => str = false ∧ aapp e sz bytes a [] st K
    | .s (.string b) => str = true ∧ sz = 1 ∧ aapp e sz bytes a (encB b.data.toList) st K
    | _ => False)
  | _ => False
def alen (P : Program) (ts : Array TypeId) (a : AV) (K : AV → Prop) : Prop :=
  match a with
  | .sl _ _ es => (match (ts[0]?).bind (tyOf P) with | some { desc := .slice _ _ _, .. } => K (.s (.int .i64 es.length)) | _ => False)
  | a => (match a.lit with
    | some u => TRun P (Builtin.len_ ts 0 #[u]) fun r => K (AV.ofV r)
    | none => False)
def abuiltin (P : Program) (b : Builtin) (ts : Array TypeId) (ty : TypeId) (args : List AV) (st : AS) (K : AV → AS → Prop) : Prop :=
  match b, args with
  | .len, [a] => alen P ts a fun v => K v st
  | .append, [a, x] => (match ts[0]?, ts[1]? with
    | some t, some u => (match tyOf P u with | some { desc := .slice _ _ _, .. } => aappend P (tyOf P t) false a x st K | some { desc := .string, .. } => aappend P (tyOf P t) true a x st K | _ => False)
    | _, _ => False)
  | .min, l => (match AV.lits l with | some r => TRun P (Builtin.min_ ts ty r.toArray) fun v => K (AV.ofV v) st | none => False)
  | .max, l => (match AV.lits l with | some r => TRun P (Builtin.max_ ts ty r.toArray) fun v => K (AV.ofV v) st | none => False)
  | _, _ => False
def acallF (P : Program) (f : AV) (args : List AV) (st : AS) (K X : AV → AS → Prop) : Prop :=
  match f with
  | .fn (.func k) caps => (hasBody P k = true ∧ DoesCall P k (args ++ caps) st (callK K X)) ∨
    (hasBody P k = false ∧ match AV.lits (args ++ caps) with | some r => TRun P (callFunc k r.toArray) fun nx => (match nx with | .value v => K (AV.ofV v) st | _ => False) | none => False)
  | _ => False
def acall (P : Program) (ρ : Operand → AV) (c : Call) (ty : TypeId) (st : AS) (K X : AV → AS → Prop) : Prop :=
  match c.callee with
  | .value f => acallF P (ρ f) (c.args.toList.map ρ) st K X
  | .builtin b => abuiltin P b c.argTypes ty (c.args.toList.map ρ) st K
  | .invoke _ _ => False
/-- A map's box. -/
def mapBox (m : List (Value × AV)) : List AV := [.tup (m.map fun p => .tup [AV.ofV p.1, p.2])]
structure MapTy (P : Program) (t kt e : TypeId) : Prop where
  under : P.underlying t = some (.map kt e)
  keyed : Maps.Keyed P kt
def KeyOk (P : Program) (kt : TypeId) (v : Value) : Prop := (∃ l, keyOf P kt v = some l) ∧ (AV.ofV v).lit = some v
/-- What a key finds: its place and the value there; or nothing. -/
def Finds (m : List (Value × AV)) (k : Value) : Option (Nat × AV) → Prop
  | some (j, v) => m[j]? = some (k, v) ∧ ∀ (j' : Nat) v', m[j']? = some (k, v') → j' = j
  | none => ∀ p ∈ m, p.1 ≠ k
def amake (P : Program) (t : TypeId) (st : AS) (K : AV → AS → Prop) : Prop := (∃ kt e, P.underlying t = some (.map kt e)) ∧ K (.mp st.bx.length) (st.box (mapBox []))
def withOk (c : Bool) (v : AV) (ok : Bool) : AV := if c = true then .tup [v, .s (.bool ok)] else v
def alookup (P : Program) (t : TypeId) (x k : AV) (c : Bool) (st : AS) (K : AV → Prop) : Prop :=
  match x, k.lit with
  | .mp id, some kv => ∃ kt e m r, MapTy P t kt e ∧ KeyOk P kt kv ∧ (∀ p ∈ m, KeyOk P kt p.1) ∧ st.bx[id]? = some (mapBox m) ∧ Finds m kv r ∧
    (match r with
    | some (_, v) => K (withOk c v true)
    | none => ∃ i, tyOf P e = some i ∧ i.zero.known = true ∧ K (withOk c i.zero false))
  | _, _ => False
def aupdate (P : Program) (t : TypeId) (x k v : AV) (st : AS) (K : AS → Prop) : Prop :=
  match x, k.lit with
  | .mp id, some kv => ∃ kt e m r, MapTy P t kt e ∧ KeyOk P kt kv ∧ (∀ p ∈ m, KeyOk P kt p.1) ∧ st.bx[id]? = some (mapBox m) ∧ Finds m kv r ∧
    (match r with
    | some (j, _) => K { st with bx := st.bx.set id (mapBox (m.set j (kv, v))) }
    | none => K { st with bx := st.bx.set id (mapBox (m ++ [(kv, v)])) })
  | _, _ => False
/-- m[k] op= ..: the entry (made, where there is none), its number. -/
def amapEntry (P : Program) (t : TypeId) (x k : AV) (st : AS) (K : AV → AS → Prop) : Prop :=
  match x, k.lit with
  | .mp id, some kv => ∃ kt e m r, MapTy P t kt e ∧ KeyOk P kt kv ∧ (∀ p ∈ m, KeyOk P kt p.1) ∧ st.bx[id]? = some (mapBox m) ∧ Finds m kv r ∧
    (match r with
    | some (j, v) => K (.tup [v, .s (.int .i64 (j : Nat))]) st
    | none => ∃ i, tyOf P e = some i ∧ i.zero.known = true ∧ K (.tup [i.zero, .s (.int .i64 (m.length : Nat))]) { st with bx := st.bx.set id (mapBox (m ++ [(kv, i.zero)])) })
  | _, _ => False
def aentryStore (x s v : AV) (st : AS) (K : AS → Prop) : Prop :=
  match x, s with
  | .mp id, .s (.int .i64 n) => ∃ m p, st.bx[id]? = some (mapBox m) ∧ 0 ≤ n ∧ m[n.toNat]? = some p ∧ K { st with bx := st.bx.set id (mapBox (m.set n.toNat (p.1, v))) }
  | _, _ => False
/-- A slice as an array. -/
def aarrAt (t : Option TyI) (x : AV) (K : AV → Prop) : Prop :=
  match t, x with
  | some { desc := .array n sz _, .. }, .sl _ _ es => n ≤ es.length ∧ es.flatten ≠ [] ∧ K (.rp es.flatten)
  | _, _ => False
/-- make([]T, n). -/
def amakeSlice (P : Program) (t : TypeId) (n c : AV) (K : AV → Prop) : Prop :=
  match tyOf P t, n, c with
  | some { desc := .slice e sz bytes, .. }, .s (.int _ n), .s (.int _ c) =>
    (match tyOf P e with
    | some i => i.zero.known = true ∧ okCells i.zero.cells = true ∧ i.zero.cells.length = sz ∧ 0 < sz ∧ 0 ≤ n ∧ n = c ∧ n ≤ 65536 ∧ n * bytes ≤ 16777216 ∧ K (.sl true .full (List.replicate n.toNat i.zero.cells))
    | none => False)
  | _, _, _ => False
def apanic (v : AV) (st : AS) (X : AV → AS → Prop) : Prop :=
  match v with
  | .ifc _ _ => X v st
  | _ => False
/-- An operation: K what is to hold of its value and the store behind it, X of what it panics with. -/
def aexec (P : Program) (ρ : Operand → AV) (op : Op) (ty : TypeId) (st : AS) (K X : AV → AS → Prop) : Prop :=
  match op with
  | .move x => K (ρ x) st
  | .assign x => K (ρ x) st
  | .pick c a b => apick (ρ c) (ρ a) (ρ b) fun v => K v st
  | .alloc e => aalloc (tyOf P e) st K
  | .box _ x => abox (ρ x) st K
  | .build t parts => abuild (tyOf P t) (parts.toList.map fun p => (p.1, ρ p.2)) fun v => K v st
  | .buildSlice t len parts => abuildSlice P (tyOf P t) len (parts.toList.map fun p => (p.1, ρ p.2)) fun v => K v st
  | .load t a => aload (tyOf P t) (ρ a) st fun v => K v st
  | .store t a x => astore (tyOf P t) (ρ a) (ρ x) st fun st' => K .any st'
  | .nilCheck x => anil (ρ x) fun v => K v st
  | .binOp op t x y _ => abin P op t x y (ρ x) (ρ y) fun v => K v st
  | .unOp op _ x => (match (ρ x).lit with | some u => TRun P (Op.unary op u) fun r => K (AV.ofV r) st | none => False)
  | .convert src dst x => aconv P src dst (ρ x) st.ln fun v => K v st
  | .makeInterface t x => aiface (tyOf P t) t (ρ x) fun v => K v st
  | .makeFunc f first captured => (match first.toList with | [] => K (.fn f (captured.toList.map ρ)) st | _ => False)
  | .slice t x lo hi mx => (match mx with | none => aslice P t (ρ x) (lo.map ρ) (hi.map ρ) fun v => K v st | some _ => False)
  | .fieldAddr t x f => afieldAddr (tyOf P t) (ρ x) f fun v => K v st
  | .field t x f => afield (tyOf P t) (ρ x) f fun v => K v st
  | .indexAddr t x i => aindexAddr (tyOf P t) (ρ x) (ρ i) fun v => K v st
  | .index t x i => aindex P t (ρ x) (ρ i) fun v => K v st
  | .extract t i => aextract (ρ t) i fun v => K v st
  | .call c => acall P ρ c ty st K X
  | .panic x => apanic (ρ x) st X
  | .makeMap t r => (match r with | none => amake P t st K | some _ => False)
  | .lookup t x k c => alookup P t (ρ x) (ρ k) c st fun v => K v st
  | .mapUpdate t x k v => aupdate P t (ρ x) (ρ k) (ρ v) st fun st' => K .any st'
  | .mapEntry t x k => amapEntry P t (ρ x) (ρ k) st K
  | .entryStore _ x s v => aentryStore (ρ x) (ρ s) (ρ v) st fun st' => K .any st'
  | .sliceToArrayPointer t x => aarrAt (tyOf P t) (ρ x) fun v => K v st
  | .makeSlice t n c => amakeSlice P t (ρ n) (ρ c) fun v => K v st
  | _ => False
end Go.Proofs.Ytilpiclmdmnlkaa
