/- Merged: AvmE. -/
import Derived.Test.YtjodibncpbjegaaDoorZ14
/- What the walk over plain data rewrites by. No program. -/
set_option linter.unusedVariables false
set_option linter.unusedSimpArgs false
namespace Go.Proofs.YtjodibncpbjegaaDoor
open Go.RowKit

/-- An equation that is used as one, not by unfolding. -/
theorem no_rfl {α : Sort _} {a b : α} (h : a = b) : a = b := by
  cases h
  exact Eq.refl a

section
variable {P : Program} {ops : Array Oper} {X : AV → AS → Prop} {N : AFr → AS → Prop} {Q : Post} {fr : AFr} {st : AS} {K : AV → AS → Prop} {ρ : Operand → AV} {ty : TypeId}

def normK (Q : Post) : AFr → AS → Prop := fun fr st => Q .normal fr st
def aopsK (P : Program) (ops : Array Oper) (X : AV → AS → Prop) (N : AFr → AS → Prop) (rest : List Oper) (fr : AFr) (dst : Option Tmp) : AV → AS → Prop := fun v st => aops P ops X N rest (fr.put dst v) st
def atSt (K : AV → AS → Prop) (st : AS) : AV → Prop := fun v => K v st
def ofK (K : AV → Prop) : Value → Prop := fun v => K (AV.ofV v)
def stK (K : AV → AS → Prop) : AS → Prop := fun st => K .any st
def extK (K : AV → AS → Prop) (st : AS) : Next → Prop := fun nx => match nx with | .value v => K (AV.ofV v) st | _ => False
def thenA (P : Program) (b : Code) (Q : Post) : Post := thenK (awp P b Q) Q
theorem normK_app : normK Q fr st = Q .normal fr st := no_rfl rfl
theorem aopsK_app {rest : List Oper} {dst : Option Tmp} {v : AV} : aopsK P ops X N rest fr dst v st = aops P ops X N rest (fr.put dst v) st := no_rfl rfl
theorem atSt_app {v : AV} : atSt K st v = K v st := no_rfl rfl
theorem ofK_app {K : AV → Prop} {v : Value} : ofK K v = K (AV.ofV v) := no_rfl rfl
theorem stK_app : stK K st = K .any st := no_rfl rfl
theorem extK_val {v : Value} : extK K st (.value v) = K (AV.ofV v) st := no_rfl rfl
theorem panicK_app {v : AV} : panicK Q fr v st = Q (.panic v) fr st := no_rfl rfl
theorem thenA_normal {b : Code} : thenA P b Q .normal fr st = awp P b Q fr st := no_rfl rfl
theorem thenA_exit {b : Code} {id : Nat} : thenA P b Q (.exit id) fr st = Q (.exit id) fr st := no_rfl rfl
theorem thenA_ret {b : Code} : thenA P b Q .ret fr st = Q .ret fr st := no_rfl rfl
theorem thenA_panic {b : Code} {v : AV} : thenA P b Q (.panic v) fr st = Q (.panic v) fr st := no_rfl rfl
theorem blockK_normal {id : Nat} : blockK id Q .normal fr st = Q .normal fr st := no_rfl rfl
theorem blockK_exit {id id' : Nat} : blockK id Q (.exit id') fr st = if id' = id then Q .normal fr st else Q (.exit id') fr st := no_rfl rfl
theorem blockK_ret {id : Nat} : blockK id Q .ret fr st = Q .ret fr st := no_rfl rfl
theorem blockK_panic {id : Nat} {v : AV} : blockK id Q (.panic v) fr st = Q (.panic v) fr st := no_rfl rfl
theorem callK_ret {v : AV} : callK K X (.ret v) st = K v st := no_rfl rfl
theorem callK_panic {v : AV} : callK K X (.panic v) st = X v st := no_rfl rfl

theorem awp_skip : awp P .skip Q fr st = Q .normal fr st := no_rfl rfl
theorem awp_region {id : Nat} {l : List Oper} : awp P (.region id l.toArray false) Q fr st = aops P l.toArray (panicK Q fr) (normK Q) l fr st := no_rfl rfl
theorem awp_draw {id : Nat} {l : List Oper} : awp P (.region id l.toArray true) Q fr st = ADraw P l.toArray (panicK Q fr) (normK Q) fr st := no_rfl rfl
theorem awp_seq {a b : Code} : awp P (.seq a b) Q fr st = awp P a (thenA P b Q) fr st := no_rfl rfl
/-- A branch that is not taken yet. -/
def acond (P : Program) (v : AV) (x y : Code) (Q : Post) (fr : AFr) (st : AS) : Prop :=
  match v with
  | .s (.bool t) => (t = true → awp P x Q fr st) ∧ (t = false → awp P y Q fr st)
  | _ => False
theorem awp_cond {c : Operand} {x y : Code} : awp P (.cond c x y) Q fr st = acond P (fr.eval c) x y Q fr st := no_rfl rfl
theorem acond_true {x y : Code} : acond P (.s (.bool true)) x y Q fr st = awp P x Q fr st := by simp [acond]
theorem acond_false {x y : Code} : acond P (.s (.bool false)) x y Q fr st = awp P y Q fr st := by simp [acond]
theorem part {u : Bool} {x y : Code} (h1 : u = true → awp P x Q fr st) (h2 : u = false → awp P y Q fr st) : acond P (.s (.bool u)) x y Q fr st := ⟨h1, h2⟩
theorem awp_block {id : Nat} {c : Code} : awp P (.block id c) Q fr st = awp P c (blockK id Q) fr st := no_rfl rfl
theorem awp_loop {c : Code} : awp P (.loop c) Q fr st = ALoop P c Q fr st := no_rfl rfl
theorem awp_exit {id : Nat} : awp P (.exit id) Q fr st = Q (.exit id) fr st := no_rfl rfl
theorem awp_ret : awp P .ret Q fr st = Q .ret fr st := no_rfl rfl
theorem awp_label {id : Nat} : awp P (.label id) Q fr st = Q .normal fr st := no_rfl rfl
theorem awp_scope {c : Code} : awp P (.scope c) Q fr st = awp P c Q fr st := no_rfl rfl

theorem aops_nil : aops P ops X N [] fr st = N fr st := no_rfl rfl
theorem aops_plain {dst : Option Tmp} {op : Op} {pos : String} {after : Array Edge} {rest : List Oper} : aops P ops X N (⟨dst, op, ty, pos, after, none⟩ :: rest) fr st = aexec P fr.eval op ty st (aopsK P ops X N rest fr dst) X :=
  propext ⟨fun h => h.1 rfl, fun h => ⟨fun _ => h, fun e => by cases e⟩⟩
def dstAt : List Oper → Nat → Option Tmp
  | [], _ => none
  | o :: _, 0 => o.dst
  | _ :: l, j + 1 => dstAt l j
theorem dstAt_eq : ∀ (l : List Oper) (j : Nat), (l[j]?).bind (·.dst) = dstAt l j
  | [], j => by rw [List.getElem?_nil]; rfl
  | o :: l, 0 => rfl
  | o :: l, j + 1 => by rw [List.getElem?_cons_succ]; exact dstAt_eq l j
theorem dstAt_zero {dst : Option Tmp} {op : Op} {pos : String} {after : Array Edge} {gd : Option (Nat × Bool)} {l : List Oper} : dstAt (⟨dst, op, ty, pos, after, gd⟩ :: l) 0 = dst := no_rfl rfl
theorem dstAt_succ {o : Oper} {l : List Oper} {j : Nat} : dstAt (o :: l) (j + 1) = dstAt l j := no_rfl rfl
/-- The value that a guard asks for. -/
def guardV (d : Option Tmp) (n : Nat) (l : List (Nat × AV)) : AV :=
  match d with
  | some d => if d < n then look l d else .any
  | none => .any
theorem guardV_some {d n : Nat} {l : List (Nat × AV)} : guardV (some d) n l = if d < n then look l d else .any := no_rfl rfl
theorem want_guard {l : List Oper} {n j : Nat} {fl : List (Nat × AV)} {o : Oper} {b : Bool} (hg : o.guard = some (j, b)) : wantB l.toArray ⟨n, fl⟩ o = fromV (guardV (dstAt l j) n fl) b := by
  unfold guardV
  rw [← dstAt_eq]
  have e : ((l.toArray[j]?).bind fun (x : Oper) => x.dst) = (l[j]?).bind (·.dst) := by rw [List.getElem?_toArray]
  simp only [wantB, hg, e]
  cases (l[j]?).bind (·.dst) with
  | none => rfl
  | some d =>
    simp only []
    split <;> rfl
/-- An operation under a guard, not asked yet. -/
def aguard (P : Program) (ops : Array Oper) (X : AV → AS → Prop) (N : AFr → AS → Prop) (v : AV) (b : Bool) (dst : Option Tmp) (op : Op) (ty : TypeId) (rest : List Oper) (fr : AFr) (st : AS) : Prop :=
  awant (fromV v b) (aexec P fr.eval op ty st (aopsK P ops X N rest fr dst) X) (aops P ops X N rest (fr.put dst .und) st)
theorem aops_guard_eq {dst : Option Tmp} {op : Op} {pos : String} {after : Array Edge} {rest l : List Oper} {j n : Nat} {b : Bool} {fl : List (Nat × AV)} :
    aops P l.toArray X N (⟨dst, op, ty, pos, after, some (j, b)⟩ :: rest) ⟨n, fl⟩ st = aguard P l.toArray X N (guardV (dstAt l j) n fl) b dst op ty rest ⟨n, fl⟩ st := by
  unfold aops
  rw [want_guard rfl]
  rfl
theorem aguard_true {dst : Option Tmp} {op : Op} {rest : List Oper} : aguard P ops X N (.s (.bool true)) true dst op ty rest fr st = aexec P fr.eval op ty st (aopsK P ops X N rest fr dst) X := by simp [aguard, fromV, awant]
theorem aguard_true' {dst : Option Tmp} {op : Op} {rest : List Oper} : aguard P ops X N (.s (.bool true)) false dst op ty rest fr st = aops P ops X N rest (fr.put dst .und) st := by simp [aguard, fromV, awant]
theorem aguard_false {dst : Option Tmp} {op : Op} {rest : List Oper} : aguard P ops X N (.s (.bool false)) true dst op ty rest fr st = aops P ops X N rest (fr.put dst .und) st := by simp [aguard, fromV, awant]
theorem aguard_false' {dst : Option Tmp} {op : Op} {rest : List Oper} : aguard P ops X N (.s (.bool false)) false dst op ty rest fr st = aexec P fr.eval op ty st (aopsK P ops X N rest fr dst) X := by simp [aguard, fromV, awant]
theorem aguard_und {b : Bool} {dst : Option Tmp} {op : Op} {rest : List Oper} : aguard P ops X N .und b dst op ty rest fr st = aops P ops X N rest (fr.put dst .und) st := by simp [aguard, fromV, awant, AV.und]
theorem gpart {dst : Option Tmp} {op : Op} {rest : List Oper} {u b : Bool} (h1 : u = true → aguard P ops X N (.s (.bool true)) b dst op ty rest fr st) (h2 : u = false → aguard P ops X N (.s (.bool false)) b dst op ty rest fr st) : aguard P ops X N (.s (.bool u)) b dst op ty rest fr st := by
  cases u
  · exact h2 rfl
  · exact h1 rfl

theorem exec_move {x : Operand} : aexec P ρ (.move x) ty st K X = K (ρ x) st := no_rfl rfl
theorem exec_assign {x : Operand} : aexec P ρ (.assign x) ty st K X = K (ρ x) st := no_rfl rfl
theorem exec_pick {c a b : Operand} : aexec P ρ (.pick c a b) ty st K X = apick (ρ c) (ρ a) (ρ b) (atSt K st) := no_rfl rfl
theorem pick_true {a b : AV} {K : AV → Prop} : apick (.s (.bool true)) a b K = K a := by simp [apick]
theorem pick_false {a b : AV} {K : AV → Prop} : apick (.s (.bool false)) a b K = K b := by simp [apick]
theorem ppart {u : Bool} {a b : AV} {K : AV → Prop} (h1 : u = true → K a) (h2 : u = false → K b) : apick (.s (.bool u)) a b K := ⟨h1, h2⟩
theorem exec_alloc {e : TypeId} : aexec P ρ (.alloc e) ty st K X = aalloc (tyOf P e) st K := no_rfl rfl
theorem exec_box {e : TypeId} {x : Operand} : aexec P ρ (.box e x) ty st K X = abox (ρ x) st K := no_rfl rfl
theorem exec_build {t : TypeId} {l : List (Nat × Operand)} : aexec P ρ (.build t l.toArray) ty st K X = abuild (tyOf P t) (l.map fun p => (p.1, ρ p.2)) (atSt K st) := no_rfl rfl
theorem exec_buildSlice {t : TypeId} {n : Nat} {l : List (Nat × Operand)} : aexec P ρ (.buildSlice t n l.toArray) ty st K X = abuildSlice P (tyOf P t) n (l.map fun p => (p.1, ρ p.2)) (atSt K st) := no_rfl rfl
theorem exec_load {t : TypeId} {a : Operand} : aexec P ρ (.load t a) ty st K X = aload (tyOf P t) (ρ a) st (atSt K st) := no_rfl rfl
theorem exec_store {t : TypeId} {a x : Operand} : aexec P ρ (.store t a x) ty st K X = astore (tyOf P t) (ρ a) (ρ x) st (stK K) := no_rfl rfl
theorem exec_nilCheck {x : Operand} : aexec P ρ (.nilCheck x) ty st K X = anil (ρ x) (atSt K st) := no_rfl rfl
def abinK (P : Program) (op : BinOp) (t : TypeId) (x y : Operand) (a b : Option Value) (K : AV → Prop) : Prop :=
  match a, b with
  | some u, some v => TRun P (do eqGuard op t x y u v; binOp op t u v) (ofK K)
  | _, _ => False
theorem exec_binOp {op : BinOp} {t u : TypeId} {x y : Operand} : aexec P ρ (.binOp op t x y u) ty st K X = abinK P op t x y (ρ x).lit (ρ y).lit (atSt K st) := by
  simp only [aexec, abin, abinK]
  rfl
theorem abinK_some {op : BinOp} {t : TypeId} {x y : Operand} {u v : Value} {K : AV → Prop} : abinK P op t x y (some u) (some v) K = TRun P (do eqGuard op t x y u v; binOp op t u v) (ofK K) := no_rfl rfl
def aunK (P : Program) (sem : Value → Sem Value) (a : Option Value) (K : AV → Prop) : Prop :=
  match a with
  | some u => TRun P (sem u) (ofK K)
  | _ => False
theorem aunK_some {sem : Value → Sem Value} {u : Value} {K : AV → Prop} : aunK P sem (some u) K = TRun P (sem u) (ofK K) := no_rfl rfl
theorem exec_unOp {op : UnOp} {t : TypeId} {x : Operand} : aexec P ρ (.unOp op t x) ty st K X = aunK P (Op.unary op) (ρ x).lit (atSt K st) := by
  simp only [aexec, aunK]
  cases (ρ x).lit <;> rfl
theorem exec_convert {s d : TypeId} {x : Operand} : aexec P ρ (.convert s d x) ty st K X = aconv P s d (ρ x) st.ln (atSt K st) := no_rfl rfl
theorem conv_s {s d : TypeId} {v : Value} {ln : List (Nat × Nat × Nat)} {K : AV → Prop} : aconv P s d (.s v) ln K = TRun P (convert s d v) (ofK K) := no_rfl rfl
theorem exec_makeInterface {t : TypeId} {x : Operand} : aexec P ρ (.makeInterface t x) ty st K X = aiface (tyOf P t) t (ρ x) (atSt K st) := no_rfl rfl
theorem exec_makeFunc {f : Fn} {l : List Operand} : aexec P ρ (.makeFunc f #[] l.toArray) ty st K X = K (.fn f (l.map ρ)) st := no_rfl rfl
theorem exec_slice {t : TypeId} {x : Operand} {lo hi : Option Operand} : aexec P ρ (.slice t x lo hi none) ty st K X = aslice P t (ρ x) (lo.map ρ) (hi.map ρ) (atSt K st) := no_rfl rfl
theorem exec_fieldAddr {t : TypeId} {x : Operand} {f : Nat} : aexec P ρ (.fieldAddr t x f) ty st K X = afieldAddr (tyOf P t) (ρ x) f (atSt K st) := no_rfl rfl
theorem exec_field {t : TypeId} {x : Operand} {f : Nat} : aexec P ρ (.field t x f) ty st K X = afield (tyOf P t) (ρ x) f (atSt K st) := no_rfl rfl
theorem exec_indexAddr {t : TypeId} {x i : Operand} : aexec P ρ (.indexAddr t x i) ty st K X = aindexAddr (tyOf P t) (ρ x) (ρ i) (atSt K st) := no_rfl rfl
theorem exec_index {t : TypeId} {x i : Operand} : aexec P ρ (.index t x i) ty st K X = aindex P t (ρ x) (ρ i) (atSt K st) := no_rfl rfl
theorem exec_extract {x : Operand} {i : Nat} : aexec P ρ (.extract x i) ty st K X = aextract (ρ x) i (atSt K st) := no_rfl rfl
theorem exec_call {c : Call} : aexec P ρ (.call c) ty st K X = acall P ρ c ty st K X := no_rfl rfl
theorem exec_panic {x : Operand} : aexec P ρ (.panic x) ty st K X = apanic (ρ x) st X := no_rfl rfl
theorem call_value {f : Operand} {l : List Operand} {ts : Array TypeId} : acall P ρ ⟨.value f, l.toArray, ts⟩ ty st K X = acallF P (ρ f) (l.map ρ) st K X := no_rfl rfl
theorem call_builtin {b : Builtin} {l : List Operand} {ts : Array TypeId} : acall P ρ ⟨.builtin b, l.toArray, ts⟩ ty st K X = abuiltin P b ts ty (l.map ρ) st K := no_rfl rfl
def alitsK (P : Program) (k : FuncId) (l : Option (List Value)) (K : Next → Prop) : Prop :=
  match l with
  | some r => TRun P (callFunc k r.toArray) K
  | none => False
theorem alitsK_some {k : FuncId} {r : List Value} {K : Next → Prop} : alitsK P k (some r) K = TRun P (callFunc k r.toArray) K := no_rfl rfl
def acallB (P : Program) (b : Bool) (k : FuncId) (l : List AV) (st : AS) (K X : AV → AS → Prop) : Prop :=
  match b with
  | true => DoesCall P k l st (callK K X)
  | false => alitsK P k (AV.lits l) (extK K st)
theorem acallB_true {k : FuncId} {l : List AV} : acallB P true k l st K X = DoesCall P k l st (callK K X) := no_rfl rfl
theorem acallB_false {k : FuncId} {l : List AV} : acallB P false k l st K X = alitsK P k (AV.lits l) (extK K st) := no_rfl rfl
theorem callF_fn {k : FuncId} {caps args : List AV} : acallF P (.fn (.func k) caps) args st K X = acallB P (hasBody P k) k (args ++ caps) st K X := by
  have e : acallF P (.fn (.func k) caps) args st K X = ((hasBody P k = true ∧ DoesCall P k (args ++ caps) st (callK K X)) ∨ (hasBody P k = false ∧ alitsK P k (AV.lits (args ++ caps)) (extK K st))) := by
    simp only [acallF, alitsK]
    cases AV.lits (args ++ caps) <;> rfl
  rw [e]
  cases hb : hasBody P k with
  | true => simp [acallB]
  | false => simp [acallB]
theorem bi_len {ts : Array TypeId} {a : AV} : abuiltin P .len ts ty [a] st K = alen P ts a (atSt K st) := no_rfl rfl
def appB (P : Program) (u t : Option TyI) (a x : AV) (st : AS) (K : AV → AS → Prop) : Prop :=
  match u with
  | some { desc := .slice _ _ _, .. } => aappend P t false a x st K
  | some { desc := .string, .. } => aappend P t true a x st K
  | _ => False
theorem bi_append {t u : TypeId} {a x : AV} : abuiltin P .append #[t, u] ty [a, x] st K = appB P (tyOf P u) (tyOf P t) a x st K := by
  have h0 : (#[t, u] : Array TypeId)[0]? = some t := rfl
  have h1 : (#[t, u] : Array TypeId)[1]? = some u := rfl
  simp only [abuiltin, h0, h1, appB]
  rfl
theorem appB_sl {s e sz b : Nat} {ag : Bool} {z : AV} {t : Option TyI} {a x : AV} : appB P (some ⟨s, ag, z, .slice e sz b⟩) t a x st K = aappend P t false a x st K := no_rfl rfl
theorem appB_str {s : Nat} {ag : Bool} {z : AV} {t : Option TyI} {a x : AV} : appB P (some ⟨s, ag, z, .string⟩) t a x st K = aappend P t true a x st K := no_rfl rfl
theorem eval_tmp {n : Nat} {l : List (Nat × AV)} {t : Nat} : AFr.eval ⟨n, l⟩ (.tmp t) = look l t := no_rfl rfl
theorem eval_const {v : Value} : fr.eval (.const v) = AV.ofV v := no_rfl rfl
theorem eval_func {f : FuncId} : fr.eval (.func f) = .fn (.func f) [] := no_rfl rfl
theorem look_cons {t u : Nat} {v : AV} {r : List (Nat × AV)} : look ((t, v) :: r) u = if t = u then v else look r u := no_rfl rfl
theorem look_nil {u : Nat} : look [] u = .any := no_rfl rfl
theorem put_some {n d : Nat} {l : List (Nat × AV)} {v : AV} : AFr.put ⟨n, l⟩ (some d) v = ⟨n, (d, if d < n then v else .any) :: l⟩ := no_rfl rfl
theorem put_none {v : AV} : fr.put none v = fr := no_rfl rfl
theorem ofV_int {k : IntKind} {n : Int} : AV.ofV (.int k n) = .s (.int k n) := no_rfl rfl
theorem ofV_bool {b : Bool} : AV.ofV (.bool b) = .s (.bool b) := no_rfl rfl
theorem ofV_float {k : FloatKind} {b : Nat} : AV.ofV (.float k b) = .s (.float k b) := no_rfl rfl
theorem ofV_string {b : ByteArray} : AV.ofV (.string b) = .s (.string b) := no_rfl rfl
theorem ofV_slice {a : Option Addr} {n c : Nat} : AV.ofV (.slice a n c) = .s (.slice a n c) := no_rfl rfl
theorem ofV_ptr {a : Option Addr} : AV.ofV (.pointer a) = .s (.pointer a) := no_rfl rfl
theorem ofV_map {a : Option Nat} : AV.ofV (.map a) = .s (.map a) := no_rfl rfl
theorem ofV_agg {l : List Value} : AV.ofV (.agg l.toArray) = if l.all oneV then .agg (l.map .s) else .any := by simp [AV.ofV]
theorem ofV_tup {l : List Value} : AV.ofV (.tuple l.toArray) = if l.all oneV then .tup (l.map .s) else .any := by simp [AV.ofV]
theorem lit_s {v : Value} : (AV.s v).lit = some v := no_rfl rfl
theorem box_eq {b : List (List AV)} {n : List (Nat × Nat × Nat)} {cs : List AV} : AS.box ⟨b, n⟩ cs = ⟨b ++ [cs], n⟩ := no_rfl rfl
theorem get_here {α : Type} (S : List α) (l : List α) (k : Nat) : (S ++ l)[S.length + k]? = l[k]? := by rw [List.getElem?_append_right (by omega)]; simp
theorem get_here0 {α : Type} (S : List α) (l : List α) : (S ++ l)[S.length]? = l[0]? := by rw [List.getElem?_append_right (by omega)]; simp
theorem set_here {α : Type} (S : List α) (l : List α) (k : Nat) (x : α) : (S ++ l).set (S.length + k) x = S ++ l.set k x := by rw [List.set_append_right _ _ (by omega)]; simp
theorem set_here0 {α : Type} (S : List α) (l : List α) (x : α) : (S ++ l).set S.length x = S ++ l.set 0 x := by rw [List.set_append_right _ _ (by omega)]; simp
theorem one_any : AV.one .any = false := no_rfl rfl
theorem dat0_any : AV.dat0 .any = true := no_rfl rfl
theorem known_any : AV.known .any = false := no_rfl rfl
theorem cells_any : AV.cells .any = [.any] := no_rfl rfl
theorem forget0_any : AV.forget0 .any = .any := no_rfl rfl
theorem one_s {v : Value} : AV.one (.s v) = oneV v := no_rfl rfl
theorem dat0_s {v : Value} : AV.dat0 (.s v) = true := no_rfl rfl
theorem known_s {v : Value} : AV.known (.s v) = true := no_rfl rfl
theorem cells_s {v : Value} : AV.cells (.s v) = [.s v] := no_rfl rfl
theorem forget0_s {v : Value} : AV.forget0 (.s v) = (.s v) := no_rfl rfl
theorem one_agg {l : List AV} : AV.one (.agg l) = false := no_rfl rfl
theorem dat0_agg {l : List AV} : AV.dat0 (.agg l) = false := no_rfl rfl
theorem known_agg {l : List AV} : AV.known (.agg l) = true := no_rfl rfl
theorem cells_agg {l : List AV} : AV.cells (.agg l) = l := no_rfl rfl
theorem forget0_agg {l : List AV} : AV.forget0 (.agg l) = (.agg l) := no_rfl rfl
theorem one_tup {l : List AV} : AV.one (.tup l) = false := no_rfl rfl
theorem dat0_tup {l : List AV} : AV.dat0 (.tup l) = false := no_rfl rfl
theorem known_tup {l : List AV} : AV.known (.tup l) = true := no_rfl rfl
theorem cells_tup {l : List AV} : AV.cells (.tup l) = [.tup l] := no_rfl rfl
theorem forget0_tup {l : List AV} : AV.forget0 (.tup l) = (.tup l) := no_rfl rfl
theorem one_bp {i o : Nat} : AV.one (.bp i o) = true := no_rfl rfl
theorem dat0_bp {i o : Nat} : AV.dat0 (.bp i o) = false := no_rfl rfl
theorem known_bp {i o : Nat} : AV.known (.bp i o) = true := no_rfl rfl
theorem cells_bp {i o : Nat} : AV.cells (.bp i o) = [.bp i o] := no_rfl rfl
theorem forget0_bp {i o : Nat} : AV.forget0 (.bp i o) = (.bp i o) := no_rfl rfl
theorem one_rp {l : List AV} : AV.one (.rp l) = true := no_rfl rfl
theorem dat0_rp {l : List AV} : AV.dat0 (.rp l) = true := no_rfl rfl
theorem known_rp {l : List AV} : AV.known (.rp l) = true := no_rfl rfl
theorem cells_rp {l : List AV} : AV.cells (.rp l) = [.rp l] := no_rfl rfl
theorem forget0_rp {l : List AV} : AV.forget0 (.rp l) = (.rp l) := no_rfl rfl
theorem one_sl {o : Bool} {t : Tag} {es : List (List AV)} : AV.one (.sl o t es) = true := no_rfl rfl
theorem dat0_sl {o : Bool} {t : Tag} {es : List (List AV)} : AV.dat0 (.sl o t es) = t.calm := no_rfl rfl
theorem known_sl {o : Bool} {t : Tag} {es : List (List AV)} : AV.known (.sl o t es) = true := no_rfl rfl
theorem cells_sl {o : Bool} {t : Tag} {es : List (List AV)} : AV.cells (.sl o t es) = [.sl o t es] := no_rfl rfl
theorem forget0_sl {o : Bool} {t : Tag} {es : List (List AV)} : AV.forget0 (.sl o t es) = .sl o .none es := no_rfl rfl
theorem one_fn {f : Fn} {c : List AV} : AV.one (.fn f c) = true := no_rfl rfl
theorem dat0_fn {f : Fn} {c : List AV} : AV.dat0 (.fn f c) = c.isEmpty := no_rfl rfl
theorem known_fn {f : Fn} {c : List AV} : AV.known (.fn f c) = true := no_rfl rfl
theorem cells_fn {f : Fn} {c : List AV} : AV.cells (.fn f c) = [.fn f c] := no_rfl rfl
theorem forget0_fn {f : Fn} {c : List AV} : AV.forget0 (.fn f c) = (.fn f c) := no_rfl rfl
theorem one_ifc {t : TypeId} {v : AV} : AV.one (.ifc t v) = true := no_rfl rfl
theorem dat0_ifc {t : TypeId} {v : AV} : AV.dat0 (.ifc t v) = false := no_rfl rfl
theorem known_ifc {t : TypeId} {v : AV} : AV.known (.ifc t v) = true := no_rfl rfl
theorem cells_ifc {t : TypeId} {v : AV} : AV.cells (.ifc t v) = [.ifc t v] := no_rfl rfl
theorem forget0_ifc {t : TypeId} {v : AV} : AV.forget0 (.ifc t v) = (.ifc t v) := no_rfl rfl
theorem one_mp {i : Nat} : AV.one (.mp i) = true := no_rfl rfl
theorem dat0_mp {i : Nat} : AV.dat0 (.mp i) = false := no_rfl rfl
theorem known_mp {i : Nat} : AV.known (.mp i) = true := no_rfl rfl
theorem cells_mp {i : Nat} : AV.cells (.mp i) = [.mp i] := no_rfl rfl
theorem forget0_mp {i : Nat} : AV.forget0 (.mp i) = (.mp i) := no_rfl rfl
theorem exec_makeMap {t : TypeId} : aexec P ρ (.makeMap t none) ty st K X = amake P t st K := no_rfl rfl
theorem exec_lookup {t : TypeId} {x k : Operand} {c : Bool} : aexec P ρ (.lookup t x k c) ty st K X = alookup P t (ρ x) (ρ k) c st (atSt K st) := no_rfl rfl
theorem exec_mapUpdate {t : TypeId} {x k v : Operand} : aexec P ρ (.mapUpdate t x k v) ty st K X = aupdate P t (ρ x) (ρ k) (ρ v) st (stK K) := no_rfl rfl
theorem exec_mapEntry {t : TypeId} {x k : Operand} : aexec P ρ (.mapEntry t x k) ty st K X = amapEntry P t (ρ x) (ρ k) st K := no_rfl rfl
theorem exec_entryStore {t : TypeId} {x s v : Operand} : aexec P ρ (.entryStore t x s v) ty st K X = aentryStore (ρ x) (ρ s) (ρ v) st (stK K) := no_rfl rfl
theorem exec_arrAt {t : TypeId} {x : Operand} : aexec P ρ (.sliceToArrayPointer t x) ty st K X = aarrAt (tyOf P t) (ρ x) (atSt K st) := no_rfl rfl
theorem exec_makeSlice {t : TypeId} {n c : Operand} : aexec P ρ (.makeSlice t n c) ty st K X = amakeSlice P t (ρ n) (ρ c) (atSt K st) := no_rfl rfl
theorem ent_some {t kt e id : Nat} {k v : AV} {kv : Value} {m : List (Value × AV)} {j : Nat} {K : AV → AS → Prop} (hk : k.lit = some kv) (hT : MapTy P t kt e) (hko : KeyOk P kt kv) (hm : ∀ p ∈ m, KeyOk P kt p.1) (hb : st.bx[id]? = some (mapBox m)) (hf : Finds m kv (some (j, v))) (h : K (.tup [v, .s (.int .i64 (j : Nat))]) st) :
    amapEntry P t (.mp id) k st K := by
  unfold amapEntry
  rw [hk]
  exact ⟨kt, e, m, _, hT, hko, hm, hb, hf, h⟩
theorem ent_none {t kt e id : Nat} {k : AV} {kv : Value} {m : List (Value × AV)} {i : TyI} {K : AV → AS → Prop} (hk : k.lit = some kv) (hT : MapTy P t kt e) (hko : KeyOk P kt kv) (hm : ∀ p ∈ m, KeyOk P kt p.1) (hb : st.bx[id]? = some (mapBox m)) (hf : Finds m kv none) (ht : tyOf P e = some i) (hz : i.zero.known = true)
    (h : K (.tup [i.zero, .s (.int .i64 (m.length : Nat))]) { st with bx := st.bx.set id (mapBox (m ++ [(kv, i.zero)])) }) : amapEntry P t (.mp id) k st K := by
  unfold amapEntry
  rw [hk]
  exact ⟨kt, e, m, none, hT, hko, hm, hb, hf, i, ht, hz, h⟩
theorem ent_store {id : Nat} {n : Nat} {v : AV} {m : List (Value × AV)} {p : Value × AV} {K : AS → Prop} (hb : st.bx[id]? = some (mapBox m)) (hp : m[n]? = some p) (h : K { st with bx := st.bx.set id (mapBox (m.set n (p.1, v))) }) : aentryStore (.mp id) (.s (.int .i64 (n : Nat))) v st K := by
  unfold aentryStore
  exact ⟨m, p, hb, by omega, by simpa using hp, by simpa using h⟩
theorem arrAt_sl {s : Nat} {a : Bool} {z : AV} {n sz : Nat} {ag : Option Bool} {own : Bool} {tag : Tag} {es : List (List AV)} {K : AV → Prop} : aarrAt (some ⟨s, a, z, .array n sz ag⟩) (.sl own tag es) K = (n ≤ es.length ∧ es.flatten ≠ [] ∧ K (.rp es.flatten)) := no_rfl rfl
/-- A look-up, told what it finds. -/
theorem look_some {t kt e id : Nat} {k v : AV} {kv : Value} {c : Bool} {m : List (Value × AV)} {j : Nat} {K : AV → Prop} (hk : k.lit = some kv) (hT : MapTy P t kt e) (hko : KeyOk P kt kv) (hm : ∀ p ∈ m, KeyOk P kt p.1) (hb : st.bx[id]? = some (mapBox m)) (hf : Finds m kv (some (j, v))) (h : K (withOk c v true)) :
    alookup P t (.mp id) k c st K := by
  unfold alookup
  rw [hk]
  exact ⟨kt, e, m, _, hT, hko, hm, hb, hf, h⟩
theorem look_none {t kt e id : Nat} {k : AV} {kv : Value} {c : Bool} {m : List (Value × AV)} {i : TyI} {K : AV → Prop} (hk : k.lit = some kv) (hT : MapTy P t kt e) (hko : KeyOk P kt kv) (hm : ∀ p ∈ m, KeyOk P kt p.1) (hb : st.bx[id]? = some (mapBox m)) (hf : Finds m kv none) (ht : tyOf P e = some i) (hz : i.zero.known = true) (h : K (withOk c i.zero false)) :
    alookup P t (.mp id) k c st K := by
  unfold alookup
  rw [hk]
  exact ⟨kt, e, m, none, hT, hko, hm, hb, hf, i, ht, hz, h⟩
theorem upd_some {t kt e id : Nat} {k v v0 : AV} {kv : Value} {m : List (Value × AV)} {j : Nat} {K : AS → Prop} (hk : k.lit = some kv) (hT : MapTy P t kt e) (hko : KeyOk P kt kv) (hm : ∀ p ∈ m, KeyOk P kt p.1) (hb : st.bx[id]? = some (mapBox m)) (hf : Finds m kv (some (j, v0))) (h : K { st with bx := st.bx.set id (mapBox (m.set j (kv, v))) }) :
    aupdate P t (.mp id) k v st K := by
  unfold aupdate
  rw [hk]
  exact ⟨kt, e, m, some (j, v0), hT, hko, hm, hb, hf, h⟩
theorem upd_none {t kt e id : Nat} {k v : AV} {kv : Value} {m : List (Value × AV)} {K : AS → Prop} (hk : k.lit = some kv) (hT : MapTy P t kt e) (hko : KeyOk P kt kv) (hm : ∀ p ∈ m, KeyOk P kt p.1) (hb : st.bx[id]? = some (mapBox m)) (hf : Finds m kv none) (h : K { st with bx := st.bx.set id (mapBox (m ++ [(kv, v)])) }) :
    aupdate P t (.mp id) k v st K := by
  unfold aupdate
  rw [hk]
  exact ⟨kt, e, m, none, hT, hko, hm, hb, hf, h⟩
theorem withOk_true {v : AV} {b : Bool} : withOk true v b = .tup [v, .s (.bool b)] := no_rfl rfl
theorem withOk_false {v : AV} {b : Bool} : withOk false v b = v := no_rfl rfl
theorem okCells_nil : okCells [] = true := no_rfl rfl
theorem okCells_cons {x : AV} {l : List AV} : okCells (x :: l) = (x.one && x.dat0 && okCells l) := by simp [okCells]
theorem load_rpA {sz : Nat} {z : AV} {d : TD} {l : List AV} {K : AV → Prop} : aload (some ⟨sz, true, z, d⟩) (.rp l) st K = (sz ≤ l.length ∧ K (.agg (l.take sz))) := by simp [aload]
theorem load_rp1 {sz : Nat} {z : AV} {d : TD} {x : AV} {l : List AV} {K : AV → Prop} : aload (some ⟨sz, false, z, d⟩) (.rp (x :: l)) st K = K x := by simp [aload]
def loadB (cs : Option (List AV)) (off sz : Nat) (K : AV → Prop) : Prop :=
  match cs with
  | some cs => off + sz ≤ cs.length ∧ ((cs.drop off).take sz).all AV.one = true ∧ K (.agg ((cs.drop off).take sz))
  | none => False
theorem loadB_some {cs : List AV} {off sz : Nat} {K : AV → Prop} : loadB (some cs) off sz K = (off + sz ≤ cs.length ∧ ((cs.drop off).take sz).all AV.one = true ∧ K (.agg ((cs.drop off).take sz))) := no_rfl rfl
theorem load_bpA {sz id off : Nat} {z : AV} {d : TD} {K : AV → Prop} : aload (some ⟨sz, true, z, d⟩) (.bp id off) st K = loadB (st.bx[id]?) off sz K := by
  simp only [aload, loadB, if_true]
  cases st.bx[id]? <;> rfl
def load1 (cs : Option (List AV)) (off : Nat) (K : AV → Prop) : Prop :=
  match cs with
  | some cs => match cs[off]? with
    | some x => x.one = true ∧ K x
    | none => False
  | none => False
def at1 (x : Option AV) (K : AV → Prop) : Prop :=
  match x with
  | some x => x.one = true ∧ K x
  | none => False
theorem at1_some {x : AV} {K : AV → Prop} : at1 (some x) K = (x.one = true ∧ K x) := no_rfl rfl
theorem load1_some {cs : List AV} {off : Nat} {K : AV → Prop} : load1 (some cs) off K = at1 (cs[off]?) K := by
  simp only [load1, at1]
theorem load_bp1 {sz id off : Nat} {z : AV} {d : TD} {K : AV → Prop} : aload (some ⟨sz, false, z, d⟩) (.bp id off) st K = load1 (st.bx[id]?) off K := by
  simp only [aload, load1, Bool.false_eq_true, if_false]
  cases st.bx[id]? <;> rfl
def storeB (cs : Option (List AV)) (st : AS) (id off sz : Nat) (v : AV) (K : AS → Prop) : Prop :=
  match cs with
  | some cs => v.cells.length = sz ∧ v.known = true ∧ v.cells.all AV.one = true ∧ cs.all AV.one = true ∧ off + sz ≤ cs.length ∧ K { st with bx := st.bx.set id (splice cs off v.cells) }
  | none => False
theorem storeB_some {cs : List AV} {id off sz : Nat} {v : AV} {K : AS → Prop} : storeB (some cs) st id off sz v K = (v.cells.length = sz ∧ v.known = true ∧ v.cells.all AV.one = true ∧ cs.all AV.one = true ∧ off + sz ≤ cs.length ∧ K { st with bx := st.bx.set id (splice cs off v.cells) }) := no_rfl rfl
theorem store_bp {sz id off : Nat} {ag : Bool} {z : AV} {d : TD} {v : AV} {K : AS → Prop} : astore (some ⟨sz, ag, z, d⟩) (.bp id off) v st K = storeB (st.bx[id]?) st id off sz v K := by
  simp only [astore, storeB]
  cases st.bx[id]? <;> rfl
theorem fieldAddr_bp {sz id o : Nat} {ag : Bool} {z : AV} {fs : List (Nat × Nat × Option Bool)} {f : Nat} {K : AV → Prop} : afieldAddr (some ⟨sz, ag, z, .struct fs⟩) (.bp id o) f K = (match fs[f]? with | some (off, s, _) => 0 < s ∧ K (.bp id (o + off)) | none => False) := by
  simp only [afieldAddr]
  cases fs[f]? <;> rfl
theorem fieldAddr_rp {sz : Nat} {ag : Bool} {z : AV} {l : List AV} {fs : List (Nat × Nat × Option Bool)} {f : Nat} {K : AV → Prop} : afieldAddr (some ⟨sz, ag, z, .struct fs⟩) (.rp l) f K = (match fs[f]? with | some (off, s, _) => 0 < s ∧ K (.rp (l.drop off)) | none => False) := by
  simp only [afieldAddr]
  cases fs[f]? <;> rfl
def idxE (e : Option (List AV)) (sz : Nat) (K : AV → Prop) : Prop :=
  match e with
  | some e => e.length = sz ∧ K (.rp e)
  | none => False
theorem idxE_some {e : List AV} {sz : Nat} {K : AV → Prop} : idxE (some e) sz K = (e.length = sz ∧ K (.rp e)) := no_rfl rfl
theorem index_sl {s sz e bs : Nat} {ag : Bool} {z : AV} {o : Bool} {t : Tag} {es : List (List AV)} {k : IntKind} {n : Int} {K : AV → Prop} : aindexAddr (some ⟨s, ag, z, .slice e sz bs⟩) (.sl o t es) (.s (.int k n)) K = (0 ≤ n ∧ 0 < sz ∧ idxE (es[n.toNat]?) sz K) := by
  simp only [aindexAddr, idxE]
  cases es[n.toNat]? <;> rfl
theorem index_arr {s len sz : Nat} {ag : Bool} {z : AV} {oa : Option Bool} {id o : Nat} {k : IntKind} {n : Int} {K : AV → Prop} : aindexAddr (some ⟨s, ag, z, .array len sz oa⟩) (.bp id o) (.s (.int k n)) K = (0 ≤ n ∧ n < len ∧ 0 < sz ∧ K (.bp id (o + n.toNat * sz))) := no_rfl rfl
theorem nil_bp {id o : Nat} {K : AV → Prop} : anil (.bp id o) K = K (.bp id o) := no_rfl rfl
theorem nil_rp {l : List AV} {K : AV → Prop} : anil (.rp l) K = K (.rp l) := no_rfl rfl
theorem nil_fn {f : FuncId} {c : List AV} {K : AV → Prop} : anil (.fn (.func f) c) K = K (.fn (.func f) c) := no_rfl rfl
end
def number : Nat → List AV → List (Nat × AV)
  | _, [] => []
  | k, v :: l => (k, v) :: number (k + 1) l
theorem number_eq : ∀ (l : List AV) (k : Nat), (List.range' k l.length).zip l = number k l
  | [], k => by simp [number]
  | v :: l, k => by simp [number, List.range'_succ, number_eq l (k + 1)]
theorem number_nil {k : Nat} : number k [] = [] := no_rfl rfl
theorem number_cons {k : Nat} {v : AV} {l : List AV} : number k (v :: l) = (k, v) :: number (k + 1) l := no_rfl rfl
/-- A call, by its function's body, all written out. -/
theorem enter {P : Program} {f : FuncId} {fn : Func} {c : Code} {n : Nat} {rs : List ResultVar} {args : List AV} {st : AS} {R : AOut → AS → Prop} (hf : P.funcs[f]? = some fn) (hb : fn.body = some c) (hn : fn.ntmps = n) (hr : fn.results = rs.toArray) (hl : args.length ≤ n)
    (h : awp P c (retK P rs st R) ⟨n, number 0 args⟩ st) : DoesCall P f args st R := by
  refine DoesCall.enter hf hb (by rw [hn]; exact hl) ?_
  rw [hr, hn, List.range_eq_range', number_eq]
  exact h
/-- It answers v, and leaves nothing. -/
def Gives (P : Program) (f : FuncId) (args : List AV) (v : AV) : Prop := ∀ st, DoesCall P f args st fun o st' => o = .ret v ∧ st' = st
theorem BoxesOk.app {st : AS} {l : List (List AV)} {ln : List (Nat × Nat × Nat)} : BoxesOk st ⟨st.bx ++ l, ln⟩ := fun i cs hi h => .inl (by rwa [List.getElem?_append_left hi] at h)
theorem BoxesOk.same {st : AS} {ln : List (Nat × Nat × Nat)} : BoxesOk st ⟨st.bx, ln⟩ := fun i cs hi h => .inl h
theorem cut_app {st : AS} {l : List (List AV)} {k : List (Nat × Nat × Nat)} : AS.cut ⟨st.bx ++ l, st.ln ++ k⟩ st.bx.length st.ln.length = st := by simp [AS.cut]
theorem cut_app1 {st : AS} {l : List (List AV)} : AS.cut ⟨st.bx ++ l, st.ln⟩ st.bx.length st.ln.length = st := by simp [AS.cut]
theorem cut_same {st : AS} : AS.cut st st.bx.length st.ln.length = st := by simp [AS.cut]
theorem oneOf_one {v : AV} : oneOf [v] = v := no_rfl rfl
theorem oneOf_two {v u : AV} {l : List AV} : oneOf (v :: u :: l) = .tup (v :: u :: l) := no_rfl rfl
theorem oneOf_nil : oneOf [] = .tup [] := no_rfl rfl
section
variable {P : Program} {rs : List ResultVar} {st st' : AS} {R : AOut → AS → Prop} {fr : AFr}
/-- What is left when a function has come to its end. -/
def Ends (P : Program) (rs : List ResultVar) (st : AS) (R : AOut → AS → Prop) (fr : AFr) (st' : AS) : Prop := aresL P fr st' rs fun l => RetForm st (oneOf l) st' R
theorem retK_ret : retK P rs st R .ret fr st' = Ends P rs st R fr st' := no_rfl rfl
theorem retK_normal : retK P rs st R .normal fr st' = Ends P rs st R fr st' := no_rfl rfl
theorem retK_panic {v : AV} : retK P rs st R (.panic v) fr st' = (InB st.bx.length st.ln.length v ∧ BoxesOk st st' ∧ R (.panic v) (st'.cut st.bx.length st.ln.length)) := no_rfl rfl
def RForm (st st' : AS) (R : AOut → AS → Prop) (l : List AV) : Prop := RetForm st (oneOf l) st' R
def consK (K : List AV → Prop) (P : Program) (fr : AFr) (st : AS) (rs : List ResultVar) : AV → Prop := fun v => aresL P fr st rs fun l => K (v :: l)
theorem ends1 {t : Tmp} : Ends P [.tmp t] st R fr st' = RetForm st (look fr.l t) st' R := no_rfl rfl
theorem ends2 {t u : Tmp} : Ends P [.tmp t, .tmp u] st R fr st' = RetForm st (.tup [look fr.l t, look fr.l u]) st' R := no_rfl rfl
theorem ends3 {t u v : Tmp} : Ends P [.tmp t, .tmp u, .tmp v] st R fr st' = RetForm st (.tup [look fr.l t, look fr.l u, look fr.l v]) st' R := no_rfl rfl
theorem ends0 : Ends P [] st R fr st' = RetForm st (.tup []) st' R := no_rfl rfl
def retOne (st st' : AS) (R : AOut → AS → Prop) : AV → Prop := fun v => RetForm st v st' R
theorem retOne_app {v : AV} : retOne st st' R v = RetForm st v st' R := no_rfl rfl
theorem endsC {a : Tmp} {t : TypeId} : Ends P [.cell a t] st R fr st' = aload (tyOf P t) (look fr.l a) st' (retOne st st' R) := no_rfl rfl
end
end Go.Proofs.YtjodibncpbjegaaDoor
