/- Merged: Avm3, Avm4. -/
import Derived.Test.YtjodibncpbjegaaDoorZ4
/- What each operation does to plain data. No program. -/
set_option linter.unusedVariables false
set_option linter.unusedSimpArgs false
namespace Go.Proofs.YtjodibncpbjegaaDoor
open Go.RowKit

inductive TD where
  | struct (fs : List (Nat × Nat × Option Bool))
  | array (n sz : Nat) (ag : Option Bool)
  | slice (e sz bytes : Nat)
  | int (k : IntKind)
  | string
  | iface
  | other
/-- Of a type: its cells; is it a struct or an array; its zero; what it is. -/
structure TyI where
  size : Nat
  agg : Bool
  zero : AV
  desc : TD
def aggD : TypeDesc → Bool
  | .struct _ | .array _ _ => true
  | _ => false
def aggT (P : Program) (t : TypeId) : Option Bool := (P.underlying t).map aggD
def tdOf (P : Program) : TypeDesc → TD
  | .struct fs => .struct (fs.toList.map fun f => (f.offset, P.cellsOf f.type, aggT P f.type))
  | .array n e => .array n (P.cellsOf e) (aggT P e)
  | .slice e => .slice e (P.cellsOf e) (P.bytesOf e)
  | .int k => .int k
  | .string => .string
  | .interface _ => .iface
  | _ => .other
def tyOf (P : Program) (t : TypeId) : Option TyI :=
  match P.info? t, P.underlying t with
  | some i, some d => some { size := i.size, agg := aggD d, zero := (i.zero.map AV.ofV).getD .any, desc := tdOf P d }
  | _, _ => none
def hasBody (P : Program) (f : FuncId) : Bool :=
  match P.funcs[f]? with
  | some fn => fn.body.isSome && fn.name != "runtime.NumGoroutine"
  | none => false

/-- It runs to a value and leaves every world as it was. -/
def TRun {α : Type} (P : Program) (sem : Sem α) (K : α → Prop) : Prop := ∃ v, (∀ w, sem.run P w = .ok v w) ∧ K v

def AS.box (st : AS) (cs : List AV) : AS := { st with bx := st.bx ++ [cs] }
def splice {α : Type} (cs : List α) (off : Nat) (vs : List α) : List α := cs.take off ++ vs ++ cs.drop (off + vs.length)
def AV.known : AV → Bool
  | .any => false
  | _ => true
/-- Cells that may stand in a row: of one cell each, of no box and no growing row. -/
def AV.forget0 : AV → AV
  | .sl own _ es => .sl own .none es
  | v => v
def AV.forget1 : AV → AV
  | .agg l => .agg (l.map AV.forget0)
  | v => v.forget0
def AV.forget : AV → AV
  | .tup l => .tup (l.map AV.forget1)
  | v => v.forget1
def okCells (l : List AV) : Bool := l.all fun x => x.one && x.dat0

def apick (c a b : AV) (K : AV → Prop) : Prop :=
  match c with
  | .s (.bool t) => (t = true → K a) ∧ (t = false → K b)
  | _ => False
def aalloc (t : Option TyI) (st : AS) (K : AV → AS → Prop) : Prop :=
  match t with
  | some i => i.zero.known = true ∧ i.zero.cells.all AV.one = true ∧ K (.bp st.bx.length 0) (st.box i.zero.cells)
  | none => False
def abox (v : AV) (st : AS) (K : AV → AS → Prop) : Prop := v.known = true ∧ v.cells.all AV.one = true ∧ K (.bp st.bx.length 0) (st.box v.cells)
def afill (place : Nat → Option (Nat × Nat)) (cells : List AV) : List (Nat × AV) → Option (List AV)
  | [] => some cells
  | (i, v) :: rest =>
    match place i with
    | none => none
    | some (off, size) => if v.cells.length = size ∧ off + v.cells.length ≤ cells.length ∧ v.known = true ∧ v.cells.all AV.one = true then afill place (splice cells off v.cells) rest else none
def abuild (t : Option TyI) (parts : List (Nat × AV)) (K : AV → Prop) : Prop :=
  match t with
  | some { zero := .agg z, desc := .struct fs, .. } =>
    (match afill (fun i => (fs[i]?).map fun f => (f.1, f.2.1)) z parts with
    | some cs => fs.all (fun f => decide (0 < f.2.1)) = true ∧ K (.agg cs)
    | none => False)
  | some { zero := .agg z, desc := .array _ sz _, .. } =>
    (match afill (fun i => some (i * sz, sz)) z parts with
    | some cs => 0 < sz ∧ K (.agg cs)
    | none => False)
  | _ => False
/-- Each part laid into its element. -/
def afillS (es : List (List AV)) (sz : Nat) : List (Nat × AV) → Option (List (List AV))
  | [] => some es
  | (i, v) :: rest => if v.cells.length = sz ∧ i < es.length ∧ v.known = true ∧ okCells (v.cells.map AV.forget0) = true then afillS (es.set i (v.cells.map AV.forget0)) sz rest else none
def abuildSlice (P : Program) (t : Option TyI) (len : Nat) (parts : List (Nat × AV)) (K : AV → Prop) : Prop :=
  match t with
  | some { desc := .slice e sz _, .. } =>
    (match tyOf P e with
    | some i => i.zero.known = true ∧ okCells i.zero.cells = true ∧ i.zero.cells.length = sz ∧ 0 < sz ∧ len * sz ≤ 16777216 ∧
      (match afillS (List.replicate len i.zero.cells) sz parts with
      | some es => K (.sl true .full es)
      | none => False)
    | none => False)
  | _ => False
def aload (t : Option TyI) (a : AV) (st : AS) (K : AV → Prop) : Prop :=
  match t with
  | some i =>
    (match a with
    | .rp l => if i.agg = true then i.size ≤ l.length ∧ K (.agg (l.take i.size)) else (match l with | x :: _ => K x | [] => False)
    | .bp id off =>
      (match st.bx[id]? with
      | some cs => if i.agg = true then off + i.size ≤ cs.length ∧ ((cs.drop off).take i.size).all AV.one = true ∧ K (.agg ((cs.drop off).take i.size)) else (match cs[off]? with | some x => x.one = true ∧ K x | none => False)
      | none => False)
    | _ => False)
  | none => False
def astore (t : Option TyI) (a v : AV) (st : AS) (K : AS → Prop) : Prop :=
  match t, a with
  | some i, .bp id off =>
    (match st.bx[id]? with
    | some cs => v.cells.length = i.size ∧ v.known = true ∧ v.cells.all AV.one = true ∧ cs.all AV.one = true ∧ off + i.size ≤ cs.length ∧ K { st with bx := st.bx.set id (splice cs off v.cells) }
    | none => False)
  | _, _ => False
def anil (v : AV) (K : AV → Prop) : Prop :=
  match v with
  | .bp _ _ | .rp _ => K v
  | .fn (.func _) _ => K v
  | _ => False
def abin (P : Program) (op : BinOp) (t : TypeId) (x y : Operand) (a b : AV) (K : AV → Prop) : Prop :=
  match a.lit, b.lit with
  | some u, some v => TRun P (do eqGuard op t x y u v; binOp op t u v) fun r => K (AV.ofV r)
  | _, _ => False
/-- The bytes of a list. -/
def encB (l : List UInt8) : List (List AV) := l.map fun b => [AV.s (.int .u8 (b.toNat : Int))]
def aconv (P : Program) (src dst : TypeId) (a : AV) (ln : List (Nat × Nat × Nat)) (K : AV → Prop) : Prop :=
  match a with
  | .sl own _ es =>
    (match tyOf P src, tyOf P dst with
    | some { desc := .slice e 1 _, .. }, some { desc := .string, .. } =>
      (match tyOf P e with
      | some { desc := .int .u8, .. } => ∃ l : List UInt8, es = encB l ∧ K (.s (.string ⟨l.toArray⟩))
      | _ => False)
    | some { desc := .slice e _ _, .. }, some { desc := .slice _ _ _, .. } =>
      (match tyOf P e with
      | some { desc := .int .u8, .. } => src = dst ∧ ln = [] ∧ own = true ∧ es.flatten ≠ [] ∧ K (.sl true .none es)
      | _ => False)
    | _, _ => False)
  | a => (match a.lit with
    | some u => TRun P (convert src dst u) fun r => K (AV.ofV r)
    | none => False)
def aiface (t : Option TyI) (x : TypeId) (v : AV) (K : AV → Prop) : Prop :=
  match t with
  | some { desc := .iface, .. } => False
  | some _ => K (.ifc x v)
  | none => False
def aint : AV → Option Int
  | .s (.int _ n) => some n
  | _ => none
def aslice (P : Program) (t : TypeId) (a : AV) (lo hi : Option AV) (K : AV → Prop) : Prop :=
  match a with
  | .sl own _ es =>
    (match tyOf P t with
    | some { desc := .slice _ sz _, .. } =>
      (match (lo.getD (.s (.int .i64 0))), (hi.getD (.s (.int .i64 es.length))) with
      | .s (.int _ l), .s (.int _ h) => 0 ≤ l ∧ l ≤ h ∧ h ≤ es.length ∧ 0 < sz ∧ (∀ e ∈ es, e.length = sz) ∧ K (.sl own .none ((es.take h.toNat).drop l.toNat))
      | _, _ => False)
    | _ => False)
  | a => (match a.lit with
    | some u => (match lo.map AV.lit, hi.map AV.lit with
      | none, none => TRun P (Instr.sliceAt t u none none none) fun r => K (AV.ofV r)
      | some (some l), none => TRun P (Instr.sliceAt t u (some l) none none) fun r => K (AV.ofV r)
      | none, some (some h) => TRun P (Instr.sliceAt t u none (some h) none) fun r => K (AV.ofV r)
      | some (some l), some (some h) => TRun P (Instr.sliceAt t u (some l) (some h) none) fun r => K (AV.ofV r)
      | _, _ => False)
    | none => False)
def afieldAddr (t : Option TyI) (a : AV) (f : Nat) (K : AV → Prop) : Prop :=
  match t with
  | some { desc := .struct fs, .. } =>
    (match fs[f]? with
    | some (off, sz, _) => 0 < sz ∧ (match a with | .bp id o => K (.bp id (o + off)) | .rp l => K (.rp (l.drop off)) | _ => False)
    | none => False)
  | _ => False
def afield (t : Option TyI) (a : AV) (f : Nat) (K : AV → Prop) : Prop :=
  match t, a with
  | some { desc := .struct fs, .. }, .agg l =>
    (match fs[f]? with
    | some (off, sz, some true) => 0 < sz ∧ off + sz ≤ l.length ∧ K (.agg ((l.drop off).take sz))
    | some (off, sz, some false) => 0 < sz ∧ (match l[off]? with | some x => K x | none => False)
    | _ => False)
  | _, _ => False
def aindexAddr (t : Option TyI) (a i : AV) (K : AV → Prop) : Prop :=
  match t, a, i with
  | some { desc := .slice _ sz _, .. }, .sl _ _ es, .s (.int _ n) => 0 ≤ n ∧ 0 < sz ∧ (match es[n.toNat]? with | some e => e.length = sz ∧ K (.rp e) | none => False)
  | some { desc := .array len sz _, .. }, .bp id o, .s (.int _ n) => 0 ≤ n ∧ n < len ∧ 0 < sz ∧ K (.bp id (o + n.toNat * sz))
  | _, _, _ => False
def aindex (P : Program) (t : TypeId) (a i : AV) (K : AV → Prop) : Prop :=
  match a with
  | .agg l =>
    (match tyOf P t, i with
    | some { desc := .array len 1 (some false), .. }, .s (.int _ n) => 0 ≤ n ∧ n < len ∧ (match l[n.toNat]? with | some x => K x | none => False)
    | _, _ => False)
  | a => (match a.lit, i.lit with
    | some u, some n => TRun P (Instr.index t u n) fun r => K (AV.ofV r)
    | _, _ => False)
def aextract (a : AV) (i : Nat) (K : AV → Prop) : Prop :=
  match a with
  | .tup l => (match l[i]? with | some x => K x | none => False)
  | _ => False
def callK (K X : AV → AS → Prop) : AOut → AS → Prop
  | .ret v, st => K v st
  | .panic v, st => X v st
/-- append: onto nothing, a full row, the head of a growing one. -/
def aapp (e sz bytes : Nat) (a : AV) (news : List (List AV)) (st : AS) (K : AV → AS → Prop) : Prop :=
  match a with
  | .s (.slice none 0 0) => news.length * bytes ≤ 140737488355328 ∧ K (.sl true (.lin st.ln.length) news) { st with ln := st.ln ++ [(news.length, e, sz)] }
  | .sl own .full es => (es.length + news.length) * bytes ≤ 140737488355328 ∧ (∀ x ∈ es, x.length = sz) ∧ ((es = [] ∨ news ≠ []) ∧ K (.sl true (.lin st.ln.length) (es ++ news)) { st with ln := st.ln ++ [((es ++ news).length, e, sz)] } ∨ news = [] ∧ K (.sl own .full es) st)
  | .sl own (.lin id) es => (es.length + news.length) * bytes ≤ 140737488355328 ∧ st.ln[id]? = some (es.length, e, sz) ∧ (∀ x ∈ es, x.length = sz) ∧ K (.sl true (.lin id) (es ++ news)) { st with ln := st.ln.set id ((es ++ news).length, e, sz) }
  | _ => False
def aappend (P : Program) (t : Option TyI) (str : Bool) (a x : AV) (st : AS) (K : AV → AS → Prop) : Prop :=
  match t with
  | some { desc := .slice e sz bytes, .. } => 0 < sz ∧ 0 < bytes ∧ (match tyOf P e with | some i => i.zero.known = true ∧ i.zero.cells.length = sz | none => False) ∧
    (match x with
    | .sl _ _ news => str = false ∧ (∀ y ∈ news, y.length = sz) ∧ aapp e sz bytes a news st K
    | .s (.slice none 0 0) => str = false ∧ aapp e sz bytes a [] st K
    | .s (.string b) => str = true ∧ sz = 1 ∧ aapp e sz bytes a (encB b.data.toList) st K
    | _ => False)
  | _ => False
def alen (P : Program) (ts : Array TypeId) (a : AV) (K : AV → Prop) : Prop :=
  match a with
  | .sl _ _ es => (match (ts[0]?).bind (tyOf P) with | some { desc := .slice _ _ _, .. } => K (.s (.int .i64 es.length)) | _ => False)
  | a => (match a.lit with
    | some u => TRun P (Builtin.len_ ts 0 #[u]) fun r => K (AV.ofV r)
    | none => False)
def abuiltin (P : Program) (b : Builtin) (ts : Array TypeId) (ty : TypeId) (args : List AV) (st : AS) (K : AV → AS → Prop) : Prop :=
  match b, args with
  | .len, [a] => alen P ts a fun v => K v st
  | .append, [a, x] => (match ts[0]?, ts[1]? with
    | some t, some u => (match tyOf P u with | some { desc := .slice _ _ _, .. } => aappend P (tyOf P t) false a x st K | some { desc := .string, .. } => aappend P (tyOf P t) true a x st K | _ => False)
    | _, _ => False)
  | .min, l => (match AV.lits l with | some r => TRun P (Builtin.min_ ts ty r.toArray) fun v => K (AV.ofV v) st | none => False)
  | .max, l => (match AV.lits l with | some r => TRun P (Builtin.max_ ts ty r.toArray) fun v => K (AV.ofV v) st | none => False)
  | _, _ => False
def acallF (P : Program) (f : AV) (args : List AV) (st : AS) (K X : AV → AS → Prop) : Prop :=
  match f with
  | .fn (.func k) caps => (hasBody P k = true ∧ DoesCall P k (args ++ caps) st (callK K X)) ∨
    (hasBody P k = false ∧ match AV.lits (args ++ caps) with | some r => TRun P (callFunc k r.toArray) fun nx => (match nx with | .value v => K (AV.ofV v) st | _ => False) | none => False)
  | _ => False
def acall (P : Program) (ρ : Operand → AV) (c : Call) (ty : TypeId) (st : AS) (K X : AV → AS → Prop) : Prop :=
  match c.callee with
  | .value f => acallF P (ρ f) (c.args.toList.map ρ) st K X
  | .builtin b => abuiltin P b c.argTypes ty (c.args.toList.map ρ) st K
  | .invoke _ _ => False
/-- A map's box. -/
def mapBox (m : List (Value × AV)) : List AV := [.tup (m.map fun p => .tup [AV.ofV p.1, p.2])]
structure MapTy (P : Program) (t kt e : TypeId) : Prop where
  under : P.underlying t = some (.map kt e)
  keyed : Maps.Keyed P kt
def KeyOk (P : Program) (kt : TypeId) (v : Value) : Prop := (∃ l, keyOf P kt v = some l) ∧ (AV.ofV v).lit = some v
/-- What a key finds: its place and the value there; or nothing. -/
def Finds (m : List (Value × AV)) (k : Value) : Option (Nat × AV) → Prop
  | some (j, v) => m[j]? = some (k, v) ∧ ∀ (j' : Nat) v', m[j']? = some (k, v') → j' = j
  | none => ∀ p ∈ m, p.1 ≠ k
def amake (P : Program) (t : TypeId) (st : AS) (K : AV → AS → Prop) : Prop := (∃ kt e, P.underlying t = some (.map kt e)) ∧ K (.mp st.bx.length) (st.box (mapBox []))
def withOk (c : Bool) (v : AV) (ok : Bool) : AV := if c = true then .tup [v, .s (.bool ok)] else v
def alookup (P : Program) (t : TypeId) (x k : AV) (c : Bool) (st : AS) (K : AV → Prop) : Prop :=
  match x, k.lit with
  | .mp id, some kv => ∃ kt e m r, MapTy P t kt e ∧ KeyOk P kt kv ∧ (∀ p ∈ m, KeyOk P kt p.1) ∧ st.bx[id]? = some (mapBox m) ∧ Finds m kv r ∧
    (match r with
    | some (_, v) => K (withOk c v true)
    | none => ∃ i, tyOf P e = some i ∧ i.zero.known = true ∧ K (withOk c i.zero false))
  | _, _ => False
def aupdate (P : Program) (t : TypeId) (x k v : AV) (st : AS) (K : AS → Prop) : Prop :=
  match x, k.lit with
  | .mp id, some kv => ∃ kt e m r, MapTy P t kt e ∧ KeyOk P kt kv ∧ (∀ p ∈ m, KeyOk P kt p.1) ∧ st.bx[id]? = some (mapBox m) ∧ Finds m kv r ∧
    (match r with
    | some (j, _) => K { st with bx := st.bx.set id (mapBox (m.set j (kv, v))) }
    | none => K { st with bx := st.bx.set id (mapBox (m ++ [(kv, v)])) })
  | _, _ => False
/-- m[k] op= ..: the entry (made, where there is none), its number. -/
def amapEntry (P : Program) (t : TypeId) (x k : AV) (st : AS) (K : AV → AS → Prop) : Prop :=
  match x, k.lit with
  | .mp id, some kv => ∃ kt e m r, MapTy P t kt e ∧ KeyOk P kt kv ∧ (∀ p ∈ m, KeyOk P kt p.1) ∧ st.bx[id]? = some (mapBox m) ∧ Finds m kv r ∧
    (match r with
    | some (j, v) => K (.tup [v, .s (.int .i64 (j : Nat))]) st
    | none => ∃ i, tyOf P e = some i ∧ i.zero.known = true ∧ K (.tup [i.zero, .s (.int .i64 (m.length : Nat))]) { st with bx := st.bx.set id (mapBox (m ++ [(kv, i.zero)])) })
  | _, _ => False
def aentryStore (x s v : AV) (st : AS) (K : AS → Prop) : Prop :=
  match x, s with
  | .mp id, .s (.int .i64 n) => ∃ m p, st.bx[id]? = some (mapBox m) ∧ 0 ≤ n ∧ m[n.toNat]? = some p ∧ K { st with bx := st.bx.set id (mapBox (m.set n.toNat (p.1, v))) }
  | _, _ => False
/-- A slice as an array. -/
def aarrAt (t : Option TyI) (x : AV) (K : AV → Prop) : Prop :=
  match t, x with
  | some { desc := .array n sz _, .. }, .sl _ _ es => n ≤ es.length ∧ es.flatten ≠ [] ∧ K (.rp es.flatten)
  | _, _ => False
/-- make([]T, n). -/
def amakeSlice (P : Program) (t : TypeId) (n c : AV) (K : AV → Prop) : Prop :=
  match tyOf P t, n, c with
  | some { desc := .slice e sz bytes, .. }, .s (.int _ n), .s (.int _ c) =>
    (match tyOf P e with
    | some i => i.zero.known = true ∧ okCells i.zero.cells = true ∧ i.zero.cells.length = sz ∧ 0 < sz ∧ 0 ≤ n ∧ n = c ∧ n ≤ 65536 ∧ n * bytes ≤ 16777216 ∧ K (.sl true .full (List.replicate n.toNat i.zero.cells))
    | none => False)
  | _, _, _ => False
def apanic (v : AV) (st : AS) (X : AV → AS → Prop) : Prop :=
  match v with
  | .ifc _ _ => X v st
  | _ => False
/-- An operation: K what is to hold of its value and the store behind it, X of what it panics with. -/
def aexec (P : Program) (ρ : Operand → AV) (op : Op) (ty : TypeId) (st : AS) (K X : AV → AS → Prop) : Prop :=
  match op with
  | .move x => K (ρ x) st
  | .assign x => K (ρ x) st
  | .pick c a b => apick (ρ c) (ρ a) (ρ b) fun v => K v st
  | .alloc e => aalloc (tyOf P e) st K
  | .box _ x => abox (ρ x) st K
  | .build t parts => abuild (tyOf P t) (parts.toList.map fun p => (p.1, ρ p.2)) fun v => K v st
  | .buildSlice t len parts => abuildSlice P (tyOf P t) len (parts.toList.map fun p => (p.1, ρ p.2)) fun v => K v st
  | .load t a => aload (tyOf P t) (ρ a) st fun v => K v st
  | .store t a x => astore (tyOf P t) (ρ a) (ρ x) st fun st' => K .any st'
  | .nilCheck x => anil (ρ x) fun v => K v st
  | .binOp op t x y _ => abin P op t x y (ρ x) (ρ y) fun v => K v st
  | .unOp op _ x => (match (ρ x).lit with | some u => TRun P (Op.unary op u) fun r => K (AV.ofV r) st | none => False)
  | .convert src dst x => aconv P src dst (ρ x) st.ln fun v => K v st
  | .makeInterface t x => aiface (tyOf P t) t (ρ x) fun v => K v st
  | .makeFunc f first captured => (match first.toList with | [] => K (.fn f (captured.toList.map ρ)) st | _ => False)
  | .slice t x lo hi mx => (match mx with | none => aslice P t (ρ x) (lo.map ρ) (hi.map ρ) fun v => K v st | some _ => False)
  | .fieldAddr t x f => afieldAddr (tyOf P t) (ρ x) f fun v => K v st
  | .field t x f => afield (tyOf P t) (ρ x) f fun v => K v st
  | .indexAddr t x i => aindexAddr (tyOf P t) (ρ x) (ρ i) fun v => K v st
  | .index t x i => aindex P t (ρ x) (ρ i) fun v => K v st
  | .extract t i => aextract (ρ t) i fun v => K v st
  | .call c => acall P ρ c ty st K X
  | .panic x => apanic (ρ x) st X
  | .makeMap t r => (match r with | none => amake P t st K | some _ => False)
  | .lookup t x k c => alookup P t (ρ x) (ρ k) c st fun v => K v st
  | .mapUpdate t x k v => aupdate P t (ρ x) (ρ k) (ρ v) st fun st' => K .any st'
  | .mapEntry t x k => amapEntry P t (ρ x) (ρ k) st K
  | .entryStore _ x s v => aentryStore (ρ x) (ρ s) (ρ v) st fun st' => K .any st'
  | .sliceToArrayPointer t x => aarrAt (tyOf P t) (ρ x) fun v => K v st
  | .makeSlice t n c => amakeSlice P t (ρ n) (ρ c) fun v => K v st
  | _ => False
end Go.Proofs.YtjodibncpbjegaaDoor
/- Worlds that go on: a new box, a new row, a cell written; loads and stores. No program. -/
set_option linter.unusedVariables false
set_option linter.unusedSimpArgs false
namespace Go.Proofs.YtjodibncpbjegaaDoor
open Go.RowKit

theorem Inv.bx_lt {g : Gh} {st : AS} {w : World} (h : Inv g st w) {b : Nat} (hb : b ∈ g.bx) : b < w.heap.size := by
  obtain ⟨i, hi, rfl⟩ := List.getElem_of_mem hb
  have hi' : i < st.bx.length := by rw [← h.bxlen]; exact hi
  obtain ⟨cur, T, h1, _⟩ := h.bx i _ _ (List.getElem?_eq_getElem hi) (List.getElem?_eq_getElem hi')
  exact h1.lt
theorem LinOk.lt {g : Gh} {L : Lin} {w : World} (h : LinOk g L w) (hp : 0 < L.cap) {a : Addr} (ha : L.A = some a) : a.block < w.heap.size ∧ g.base ≤ a.block ∧ a.block ∉ g.bx := by
  rcases h with ⟨_, h1⟩ | ⟨b, cur, h1, h2, h3, h4, _⟩
  · omega
  · rw [h1] at ha
    obtain rfl := Option.some.inj ha
    exact ⟨(Array.getElem?_eq_some_iff.1 h4).1, h2, h3⟩
/-- A new box. -/
theorem Inv.boxObj {g : Gh} {st : AS} {w : World} (h : Inv g st w) (cs : List AV) (cur : Array Value) (T : TypeId) (ob : Obj) (hs : cur.size = cs.length) (hm : ObjIs (some ob) (boxMap cs) cur T) (hv : ∀ (j : Nat) x, cs[j]? = some x → VSim g x (cur.getD j undef)) :
    ∃ g', g.le g' ∧ Inv g' (st.box cs) (w.alloc ob) ∧ g'.bx[st.bx.length]? = some w.heap.size := by
  have hk := (Kept.refl w).alloc ob
  have H := h.kept_ hk
  have hle : g.le { g with bx := g.bx ++ [w.heap.size] } := ⟨rfl, fun _ _ _ h => h, fun i b hb => by
    show (g.bx ++ [w.heap.size])[i]? = some b
    rw [List.getElem?_append_left (List.getElem?_eq_some_iff.1 hb).1]; exact hb, fun i L hL => ⟨L, hL, Nat.le_refl _, fun _ => rfl⟩⟩
  refine ⟨{ g with bx := g.bx ++ [w.heap.size] }, hle, ?_, ?_⟩
  · refine ⟨H.K, by simp [AS.box, h.bxlen], fun i b cs' hb hc => ?_, fun b hb => ?_, ?_, H.lnlen, fun i L hL => ?_, H.lnd, H.kept, H.ok, H.nf⟩
    · rcases Nat.lt_or_ge i g.bx.length with hi | hi
      · have hb' : g.bx[i]? = some b := by simpa [List.getElem?_append_left hi] using hb
        have hc' : st.bx[i]? = some cs' := by
          have := hc
          simp only [AS.box] at this
          rwa [List.getElem?_append_left (by rw [← h.bxlen]; exact hi)] at this
        obtain ⟨cur', T', h1, h2, h3⟩ := H.bx i b cs' hb' hc'
        exact ⟨cur', T', h1, h2, fun j x hx => (h3 j x hx).mono hle⟩
      · have hi2 : i = g.bx.length := by
          have := (List.getElem?_eq_some_iff.1 hb).1
          simp at this; omega
        subst hi2
        obtain rfl : w.heap.size = b := by simpa using hb
        have hc' : cs = cs' := by
          simp only [AS.box] at hc
          rw [h.bxlen] at hc
          simpa using hc
        subst hc'
        exact ⟨cur, T, by rw [heap_alloc_new w _]; exact hm, hs, fun j x hx => (hv j x hx).mono hle⟩
    · rcases List.mem_append.1 hb with hb | hb
      · exact H.bxK b hb
      · obtain rfl : b = w.heap.size := by simpa using hb
        refine ⟨h.base_le, fun o => ?_, ?_⟩
        · cases hk : g.K w.heap.size o with
          | none => rfl
          | some v => have := h.K_lt hk; omega
        · show g.w0.fz w.heap.size = none
          cases hk : g.w0.fz w.heap.size with
          | none => rfl
          | some o =>
            have := (Array.getElem?_eq_some_iff.1 (h.kept.2 _ o hk).1).1
            omega
    · show (g.bx ++ [w.heap.size]).Nodup
      rw [List.nodup_append]
      refine ⟨h.bxnd, by simp, fun a ha b hb he => ?_⟩
      obtain rfl : b = w.heap.size := by simpa using hb
      have := h.bx_lt ha
      omega
    · obtain ⟨h1, h2⟩ := H.ln i L hL
      refine ⟨h1, ?_⟩
      rcases h2 with h2 | ⟨b, cur', e1, e2, e3, e4, e5⟩
      · exact .inl h2
      · refine .inr ⟨b, cur', e1, e2, fun hm => ?_, e4, e5⟩
        rcases List.mem_append.1 hm with hm | hm
        · exact e3 hm
        · obtain rfl : b = w.heap.size := by simpa using hm
          obtain ⟨_, h2'⟩ := h.ln i L hL
          have := (LinOk.lt h2' e5.2.1 e1).1
          simp at this
  · show (g.bx ++ [w.heap.size])[st.bx.length]? = _
    rw [← h.bxlen]; simp
theorem Inv.box {g : Gh} {st : AS} {w : World} (h : Inv g st w) (cs : List AV) (cur : Array Value) (T : TypeId) (hs : cur.size = cs.length) (hm : boxMap cs = false) (hv : ∀ (j : Nat) x, cs[j]? = some x → VSim g x (cur.getD j undef)) :
    ∃ g', g.le g' ∧ Inv g' (st.box cs) (w.alloc (.cells cur T)) ∧ VSim g' (.bp st.bx.length 0) (.pointer (some ⟨w.heap.size, 0, none⟩)) := by
  obtain ⟨g', h1, h2, h3⟩ := h.boxObj cs cur T (.cells cur T) hs (by rw [hm]; rfl) hv
  exact ⟨g', h1, h2, .bp _ _ _ h3⟩
/-- A new row that stays. -/
theorem Inv.row {g : Gh} {st : AS} {w : World} (h : Inv g st w) (cur : Array Value) (T : TypeId) (fr : Nat × Nat) (h1 : ∀ (i : Nat) v, cur[i]? = some v → oneV v = true) (hfr : fr.1 = fr.2 ∨ cur.size ≤ fr.1 := by exact .inl rfl) :
    ∃ g', g.le g' ∧ g'.ln = g.ln ∧ Inv g' st (w.alloc (.cells cur T fr)) ∧ ∀ (o : Nat) v, cur[o]? = some v → g'.K w.heap.size o = some v := by
  have hk := (Kept.refl w).alloc (.cells cur T fr)
  have H := h.kept_ hk
  have hle : g.le { g with K := fun b o => if b = w.heap.size then cur[o]? else g.K b o } := ⟨rfl, fun b o v hv => by
    have := h.K_lt hv
    show (if b = w.heap.size then cur[o]? else g.K b o) = some v
    rw [if_neg (by omega)]; exact hv, fun _ _ h => h, fun i L hL => ⟨L, hL, Nat.le_refl _, fun _ => rfl⟩⟩
  refine ⟨{ g with K := fun b o => if b = w.heap.size then cur[o]? else g.K b o }, hle, rfl, ?_, fun o v hv => ?_⟩
  · refine ⟨fun b o v hv => ?_, H.bxlen, fun i b cs hb hc => ?_, fun b hb => ?_, H.bxnd, H.lnlen, fun i L hL => ?_, H.lnd, H.kept, H.ok, fun b o v hv hb => by
      by_cases e : b = w.heap.size
      · subst e
        intro C T' lo hi' h
        rw [heap_alloc_new w _] at h
        cases h
        exact hfr
      · exact H.nf b o v (by simpa [e] using hv) hb⟩
    · by_cases e : b = w.heap.size
      · subst e
        have hv' : cur[o]? = some v := by simpa using hv
        refine ⟨?_, h1 o v hv'⟩
        unfold World.cell?
        rw [show (w.alloc (.cells cur T fr)).heap[(⟨w.heap.size, o, none⟩ : Addr).block]? = some (.cells cur T fr) from heap_alloc_new w _]
        simpa using hv'
      · have hv' : g.K b o = some v := by simpa [e] using hv
        exact H.K b o v hv'
    · obtain ⟨cur', T', h1, h2, h3⟩ := H.bx i b cs hb hc
      exact ⟨cur', T', h1, h2, fun j x hx => (h3 j x hx).mono hle⟩
    · refine ⟨(h.bxK b hb).1, fun o => ?_, (h.bxK b hb).2.2⟩
      have := h.bx_lt hb
      show (if b = w.heap.size then cur[o]? else g.K b o) = none
      rw [if_neg (by omega)]; exact (h.bxK b hb).2.1 o
    · obtain ⟨h1, h2⟩ := H.ln i L hL
      refine ⟨h1, ?_⟩
      have hlt := (h.ln i L hL).2
      rcases h2 with h2 | ⟨b, cur', e1, e2, e3, e4, e5, e6, e7, e8, e9⟩
      · exact .inl h2
      · have hb : b ≠ w.heap.size := by have := (LinOk.lt hlt e6 e1).1; simp at this; omega
        refine .inr ⟨b, cur', e1, e2, e3, e4, e5, e6, e7, fun o ho => ?_, fun o ho => ?_⟩
        · show (if b = w.heap.size then cur[o]? else g.K b o) = _
          rw [if_neg hb]; exact e8 o ho
        · show (if b = w.heap.size then cur[o]? else g.K b o) = _
          rw [if_neg hb]; exact e9 o ho
  · show (if w.heap.size = w.heap.size then cur[o]? else _) = _
    rw [if_pos rfl]; exact hv

/-! ### Types -/
theorem ty_spec {P : Program} {t : TypeId} {i : TyI} (h : tyOf P t = some i) :
    ∃ ti d, P.info? t = some ti ∧ P.underlying t = some d ∧ i.size = ti.size ∧ i.agg = aggD d ∧ i.zero = (ti.zero.map AV.ofV).getD .any ∧ i.desc = tdOf P d := by
  unfold tyOf at h
  split at h
  · rename_i ti d h1 h2
    obtain rfl := Option.some.inj h
    exact ⟨ti, d, h1, h2, rfl, rfl, rfl, rfl⟩
  · cases h
theorem ty_size {P : Program} {t : TypeId} {i : TyI} (h : tyOf P t = some i) (w : World) : (sizeOf t).run P w = .ok i.size w := by
  obtain ⟨ti, d, h1, h2, h3, _⟩ := ty_spec h
  simp [sizeOf, typeInfo, h1, h3]
theorem ty_agg {P : Program} {t : TypeId} {i : TyI} (h : tyOf P t = some i) (w : World) : (isAgg t).run P w = .ok i.agg w := by
  obtain ⟨ti, d, h1, h2, h3, h4, _⟩ := ty_spec h
  unfold isAgg
  simp only [Sem.run_bind, run_underlying h2, Result.andThen_ok, h4]
  cases d <;> rfl
theorem ty_under {P : Program} {t : TypeId} {i : TyI} (h : tyOf P t = some i) : ∃ d, P.underlying t = some d ∧ i.desc = tdOf P d := by
  obtain ⟨ti, d, h1, h2, h3, h4, h5, h6⟩ := ty_spec h
  exact ⟨d, h2, h6⟩
theorem ty_zero {P : Program} {t : TypeId} {i : TyI} (h : tyOf P t = some i) (hz : i.zero.known = true) : ∃ z, i.zero = AV.ofV z ∧ ∀ w, (zeroValue t).run P w = .ok z w := by
  obtain ⟨ti, d, h1, h2, h3, h4, h5, h6⟩ := ty_spec h
  cases hz' : ti.zero with
  | none => rw [h5, hz'] at hz; simp [AV.known] at hz
  | some z => exact ⟨z, by rw [h5, hz']; rfl, fun w => by simp [zeroValue, typeInfo, h1, hz']⟩
theorem size_pos {P : Program} {t : TypeId} (h : 0 < P.cellsOf t) (w : World) : (sizeOf t).run P w = .ok (P.cellsOf t) w := by
  unfold Program.cellsOf at h ⊢
  cases hi : P.info? t with
  | none => rw [hi] at h; simp at h
  | some ti => simp [sizeOf, typeInfo, hi]
theorem agg_is {P : Program} {t : TypeId} {b : Bool} (h : aggT P t = some b) (w : World) : (isAgg t).run P w = .ok b w := by
  unfold aggT at h
  obtain ⟨d, hd, rfl⟩ := Option.map_eq_some_iff.1 h
  unfold isAgg
  simp only [Sem.run_bind, run_underlying hd, Result.andThen_ok]
  cases d <;> rfl

/-! ### Cells in a row -/
def CSim (g : Gh) (cs : List AV) (cur : List Value) : Prop := cur.length = cs.length ∧ ∀ (j : Nat) x, cs[j]? = some x → VSim g x (cur.getD j undef)
theorem splice_length {α : Type} (cs : List α) (off : Nat) (vs : List α) (h : off + vs.length ≤ cs.length) : (splice cs off vs).length = cs.length := by
  simp [splice]; omega
theorem splice_get {α : Type} (cs : List α) (off : Nat) (vs : List α) (h : off + vs.length ≤ cs.length) (j : Nat) :
    (splice cs off vs)[j]? = if j < off then cs[j]? else if j < off + vs.length then vs[j - off]? else cs[j]? := by
  unfold splice
  by_cases h1 : j < off
  · rw [if_pos h1, List.append_assoc, List.getElem?_append_left (by simp; omega), List.getElem?_take, if_pos h1]
  · rw [if_neg h1]
    have hl : (cs.take off).length = off := by simp; omega
    by_cases h2 : j < off + vs.length
    · rw [if_pos h2, List.append_assoc, List.getElem?_append_right (by omega), hl, List.getElem?_append_left (by omega)]
    · rw [if_neg h2, List.getElem?_append_right (by simp; omega), List.getElem?_drop]
      congr 1
      simp; omega
theorem CSim.splice {g : Gh} {cs : List AV} {cur : List Value} {vs : List AV} {us : List Value} (h : CSim g cs cur) (hv : CSim g vs us) (off : Nat) (hl : off + vs.length ≤ cs.length) :
    CSim g (splice cs off vs) (splice cur off us) := by
  refine ⟨by rw [splice_length _ _ _ hl, splice_length _ _ _ (by rw [hv.1, h.1]; exact hl)]; exact h.1, fun j x hx => ?_⟩
  rw [splice_get _ _ _ hl] at hx
  rw [List.getD_eq_getElem?_getD, splice_get _ _ _ (by rw [hv.1, h.1]; exact hl), hv.1]
  split at hx
  · rename_i h1; rw [if_pos h1, ← List.getD_eq_getElem?_getD]; exact h.2 j x hx
  · rename_i h1; rw [if_neg h1]
    split at hx
    · rename_i h2; rw [if_pos h2, ← List.getD_eq_getElem?_getD]; exact hv.2 _ x hx
    · rename_i h2; rw [if_neg h2, ← List.getD_eq_getElem?_getD]; exact h.2 j x hx
theorem arr_getD (a : Array Value) (j : Nat) : a.getD j undef = a.toList.getD j undef := by
  rw [Array.getD_eq_getD_getElem?, List.getD_eq_getElem?_getD, Array.getElem?_toList]
theorem VSim.csim {g : Gh} {v : AV} {x : Value} (h : VSim g v x) (hk : v.known = true) : CSim g v.cells x.cells.toList := by
  obtain ⟨h1, h2⟩ := h.cells_ (by rintro rfl; simp [AV.known] at hk)
  exact ⟨by simpa using h1, fun j y hy => by rw [← arr_getD]; exact h2 j y hy⟩
theorem CSim.one {g : Gh} {cs : List AV} {cur : List Value} (h : CSim g cs cur) (h1 : cs.all AV.one = true) : ∀ v ∈ cur, oneV v = true := by
  intro v hv
  obtain ⟨i, hi, rfl⟩ := List.getElem_of_mem hv
  have hi' : i < cs.length := by rw [← h.1]; exact hi
  have := (h.2 i _ (List.getElem?_eq_getElem hi')).oneV (by rw [List.all_eq_true] at h1; exact h1 _ (List.getElem_mem hi'))
  simpa [List.getD_eq_getElem?_getD, hi] using this
theorem oneCell_oneV (v : Value) : v.oneCell' = oneV v := by cases v <;> rfl
theorem CSim.agg {g : Gh} {cs : List AV} {cur : List Value} (h : CSim g cs cur) (h1 : cs.all AV.one = true) : VSim g (.agg cs) (.agg cur.toArray) :=
  .agg cs _ (by simpa using h.1) (fun i x hx => by rw [List.all_eq_true] at h1; exact h1 x (List.mem_of_getElem? hx)) (fun i x hx => by rw [arr_getD]; exact h.2 i x hx)

/-! ### Boxes written -/
theorem Inv.setObj {g : Gh} {st : AS} {w w' : World} (h : Inv g st w) {id b : Nat} {cs cs' : List AV} {cur' : Array Value} {T : TypeId} (hb : g.bx[id]? = some b) (hc : st.bx[id]? = some cs)
    (hoth : ∀ k, k ≠ b → w'.heap[k]? = w.heap[k]?) (hself : ObjIs (w'.heap[b]?) (boxMap cs') cur' T) (hsz : w'.heap.size = w.heap.size) (hos : w'.os = w.os) (htp : w'.tape = w.tape) (hout : w'.output = w.output)
    (hn : CSim g cs' cur'.toList) : Inv g { st with bx := st.bx.set id cs' } w' := by
  have hbm : b ∈ g.bx := List.mem_of_getElem? hb
  refine ⟨fun b' o v hv => ?_, by simp [h.bxlen], fun i b' cs'' hb' hc' => ?_, h.bxK, h.bxnd, h.lnlen, fun i L hL => ?_, h.lnd, ?_, h.ok, fun b' o v hv hb' => by
    have hne : b' ≠ b := fun e => by subst e; rw [(h.bxK b' hbm).2.1 o] at hv; cases hv
    rw [hoth b' hne]
    exact h.nf b' o v hv hb'⟩
  · have hne : b' ≠ b := fun e => by subst e; rw [(h.bxK b' hbm).2.1 o] at hv; cases hv
    refine ⟨?_, (h.K b' o v hv).2⟩
    rw [World.cell?_of_block (hoth b' hne)]
    exact (h.K b' o v hv).1
  · by_cases hi : i = id
    · subst hi
      rw [hb] at hb'
      obtain rfl := Option.some.inj hb'
      have hlt := (List.getElem?_eq_some_iff.1 hc).1
      have : cs' = cs'' := by simpa [hlt] using hc'
      subst this
      exact ⟨cur', T, hself, by simpa using hn.1, fun j x hx => by rw [arr_getD]; exact hn.2 j x hx⟩
    · have hne : b' ≠ b := fun e => by
        subst e
        exact hi ((List.getElem?_inj (List.getElem?_eq_some_iff.1 hb').1 h.bxnd).1 (hb'.trans hb.symm))
      have hc'' : st.bx[i]? = some cs'' := by simpa [List.getElem?_set_ne (Ne.symm hi)] using hc'
      obtain ⟨cur0, T0, h1, h2, h3⟩ := h.bx i b' cs'' hb' hc''
      exact ⟨cur0, T0, by rw [hoth b' hne]; exact h1, h2, h3⟩
  · obtain ⟨h1, h2⟩ := h.ln i L hL
    refine ⟨h1, ?_⟩
    rcases h2 with h2 | ⟨b', cur0, e1, e2, e3, e4, e5⟩
    · exact .inl h2
    · exact .inr ⟨b', cur0, e1, e2, e3, (hoth b' (fun e => e3 (e ▸ hbm))).trans e4, e5⟩
  · have hbase := (h.bxK b hbm).1
    refine ⟨⟨Below.trans h.kept.1.1 ⟨hos, htp, hout, by rw [hsz]; exact Nat.le_refl _, fun k hk => hoth k (by unfold Gh.base at hbase; omega)⟩, by rw [hsz]; exact h.kept.1.2⟩, fun k o hk => ?_⟩
    obtain ⟨k1, k2⟩ := h.kept.2 k o hk
    refine ⟨(hoth k fun e => ?_).trans k1, k2⟩
    subst e
    rw [(h.bxK k hbm).2.2] at hk
    cases hk
theorem Inv.setRow {g : Gh} {st : AS} {w : World} (h : Inv g st w) {id b : Nat} {cs cs' : List AV} {cur cur' : Array Value} {T : TypeId} (hb : g.bx[id]? = some b) (hc : st.bx[id]? = some cs)
    (hw : w.heap[b]? = some (.cells cur T (0, 0))) (hm : boxMap cs' = false) (hn : CSim g cs' cur'.toList) : Inv g { st with bx := st.bx.set id cs' } (w.setRow b cur') :=
  h.setObj hb hc (fun k hk => by
    simp only [World.setRow]
    simp [Array.getElem?_modify, Ne.symm hk]) (by rw [hm]; exact setRow_heap w b cur cur' T (0, 0) hw) (by simp [World.setRow]) rfl rfl rfl hn
end Go.Proofs.YtjodibncpbjegaaDoor
