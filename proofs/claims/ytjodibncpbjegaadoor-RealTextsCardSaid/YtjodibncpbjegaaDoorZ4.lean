/- Merged: Avm1, Init, Avm2. -/
import Derived.Test.YtjodibncpbjegaaDoorZ3
import Derived.WalkKit
import Derived.Lib.Hide
import Derived.Laws.OwnMore
import Derived.Maps.AppendAt
import Derived.Maps.Keyed
import Derived.WalkLawsBesides
import Derived.WalkSpells
import Derived.RegionTactic
import Derived.Still
import Derived.Test.YtjodibncpbjegaaDoorProg
import Derived.Lib.LaidTab
import Derived.Lib.LaidU8
import Derived.Lib.ItoaNum
/- Plain data for what a run holds in memory: values without addresses, how they lie in a world, what a call may leave behind. No program. -/
set_option linter.unusedVariables false
set_option linter.unusedSimpArgs false
namespace Go.Proofs.YtjodibncpbjegaaDoor
open Go.RowKit

/-- How a slice may grow: not at all; only into a new row (its room is full); it is the head of row id. -/
inductive Tag where
  | none
  | full
  | lin (id : Nat)
  deriving DecidableEq
/-- A value without addresses. -/
inductive AV where
  | any
  | s (v : Value)
  | agg (l : List AV)
  | tup (l : List AV)
  | bp (id off : Nat)
  | rp (l : List AV)
  | sl (own : Bool) (tag : Tag) (es : List (List AV))
  | fn (f : Fn) (caps : List AV)
  | ifc (t : TypeId) (v : AV)
  | mp (id : Nat)
def Tag.calm : Tag → Bool
  | .lin _ => false
  | _ => true
/-- Does it speak of no box and no growing row? -/
def AV.dat0 : AV → Bool
  | .any | .s _ | .rp _ => true
  | .sl _ t _ => t.calm
  | .fn _ caps => caps.isEmpty
  | _ => false
def AV.dat1 : AV → Bool
  | .agg l => l.all AV.dat0
  | .ifc _ (.agg l) => l.all AV.dat0
  | .ifc _ v => v.dat0
  | v => v.dat0
def AV.dat : AV → Bool
  | .tup l => l.all AV.dat1
  | v => v.dat1
def AV.cells : AV → List AV
  | .agg l => l
  | v => [v]
def oneV : Value → Bool
  | .agg _ | .tuple _ => false
  | _ => true
/-- Is it the value of one cell? -/
def AV.one : AV → Bool
  | .any | .agg _ | .tup _ => false
  | .s v => oneV v
  | _ => true

/-- A row that grows: where it is, how many elements, its room, what of. -/
structure Lin where
  A : Option Addr
  n : Nat
  cap : Nat
  e : TypeId
  sz : Nat
/-- The world at the beginning; what lies in it, no cells and no map, and stays. -/
structure Root where
  W : World
  n : Nat
  fz : Nat → Option Obj
/-- What is known of a world beside the plain data: cells that stay; the boxes' blocks; the growing rows; the world at the beginning. -/
structure Gh where
  K : Nat → Nat → Option Value
  bx : List Nat
  ln : List Lin
  w0 : Root
def Gh.base (g : Gh) : Nat := g.w0.W.heap.size

def TagOk (g : Gh) : Tag → Option Addr → Nat → Nat → Prop
  | .none, _, _, _ => True
  | .full, A, n, cap => cap = n
  | .lin id, A, n, cap => ∃ L, g.ln[id]? = some L ∧ n ≤ L.n ∧ (n = L.n → A = L.A ∧ cap = L.cap)

inductive VSim (g : Gh) : AV → Value → Prop
  | any (x : Value) : VSim g .any x
  | s (v : Value) (h1 : oneV v = true) : VSim g (.s v) v
  | agg (l : List AV) (a : Array Value) (hs : a.size = l.length) (h1 : ∀ (i : Nat) x, l[i]? = some x → x.one = true) (h : ∀ (i : Nat) x, l[i]? = some x → VSim g x (a.getD i undef)) : VSim g (.agg l) (.agg a)
  | tup (l : List AV) (a : Array Value) (hs : a.size = l.length) (h : ∀ (i : Nat) x, l[i]? = some x → VSim g x (a.getD i undef)) : VSim g (.tup l) (.tuple a)
  | bp (id off b : Nat) (hb : g.bx[id]? = some b) : VSim g (.bp id off) (.pointer (some ⟨b, off, none⟩))
  | rp (l : List AV) (b o : Nat) (vs : Nat → Value) (h1 : ∀ (i : Nat) x, l[i]? = some x → x.one = true ∧ x.dat0 = true ∧ g.K b (o + i) = some (vs i))
      (h : ∀ (i : Nat) x, l[i]? = some x → VSim g x (vs i)) : VSim g (.rp l) (.pointer (some ⟨b, o, none⟩))
  | sl (own : Bool) (tag : Tag) (es : List (List AV)) (A : Option Addr) (cap sz : Nat) (vs : Nat → Value) (hl : es.length ≤ cap) (hc : es.length ≤ 140737488355328)
      (hsz : ∀ e, e ∈ es → e.length = sz) (h1 : ∀ (j : Nat) x, es.flatten[j]? = some x → x.one = true ∧ x.dat0 = true)
      (hA : es.flatten ≠ [] → ∃ b o, A = some ⟨b, o, none⟩ ∧ (own = true → g.base ≤ b) ∧ ∀ (j : Nat) x, es.flatten[j]? = some x → g.K b (o + j) = some (vs j))
      (h : ∀ (j : Nat) x, es.flatten[j]? = some x → VSim g x (vs j))
      (htag : TagOk g tag A es.length cap) : VSim g (.sl own tag es) (.slice A es.length cap)
  | fn (f : Fn) (caps : List AV) (ca : Array Value) (hs : ca.size = caps.length) (h : ∀ (i : Nat) x, caps[i]? = some x → VSim g x (ca.getD i undef)) : VSim g (.fn f caps) (.func f #[] ca)
  | ifc (t : TypeId) (v : AV) (x : Value) (h : VSim g v x) : VSim g (.ifc t v) (.iface t x)
  | mp (id b : Nat) (hb : g.bx[id]? = some b) : VSim g (.mp id) (.map (some b))

/-- The plain store: what the boxes hold, how long the growing rows are. -/
structure AS where
  bx : List (List AV)
  ln : List (Nat × Nat × Nat)

structure Gh.le (g g' : Gh) : Prop where
  w0 : g'.w0 = g.w0
  K : ∀ b o v, g.K b o = some v → g'.K b o = some v
  bx : ∀ (i : Nat) b, g.bx[i]? = some b → g'.bx[i]? = some b
  ln : ∀ (i : Nat) L, g.ln[i]? = some L → ∃ L', g'.ln[i]? = some L' ∧ L.n ≤ L'.n ∧ (L.n = L'.n → L' = L)
theorem Gh.le.refl (g : Gh) : g.le g := ⟨rfl, fun _ _ _ h => h, fun _ _ h => h, fun i L h => ⟨L, h, Nat.le_refl _, fun _ => rfl⟩⟩
theorem Gh.le.trans {a b c : Gh} (h : a.le b) (k : b.le c) : a.le c :=
  ⟨k.w0.trans h.w0, fun x y z hz => k.K x y z (h.K x y z hz), fun i x hx => k.bx i x (h.bx i x hx), fun i L hL => by
    obtain ⟨L', h1, h2, h3⟩ := h.ln i L hL
    obtain ⟨L'', k1, k2, k3⟩ := k.ln i L' h1
    refine ⟨L'', k1, Nat.le_trans h2 k2, fun he => ?_⟩
    have e1 : L.n = L'.n := by omega
    have e2 : L'.n = L''.n := by omega
    rw [k3 e2, h3 e1]⟩
theorem VSim.mono {g g' : Gh} (h : g.le g') {v : AV} {x : Value} (hv : VSim g v x) : VSim g' v x := by
  induction hv with
  | any x => exact .any x
  | s v h1 => exact .s v h1
  | agg l a hs h1 _ ih => exact .agg l a hs h1 ih
  | tup l a hs _ ih => exact .tup l a hs ih
  | bp id off b hb => exact .bp id off b (h.bx _ _ hb)
  | rp l b o vs h1 _ ih => exact .rp l b o vs (fun i x hx => ⟨(h1 i x hx).1, (h1 i x hx).2.1, h.K _ _ _ (h1 i x hx).2.2⟩) ih
  | sl own tag es A cap sz vs hl hc hsz h1 hA _ htag ih =>
    refine .sl own tag es A cap sz vs hl hc hsz h1 (fun hn => ?_) ih ?_
    · obtain ⟨b, o, e, ho, hK⟩ := hA hn
      exact ⟨b, o, e, fun hb => by unfold Gh.base; rw [h.w0]; exact ho hb, fun j x hx => h.K _ _ _ (hK j x hx)⟩
    · cases tag with
      | none => trivial
      | full => exact htag
      | lin id =>
        obtain ⟨L, h1, h2, h3⟩ := htag
        obtain ⟨L', k1, k2, k3⟩ := h.ln id L h1
        refine ⟨L', k1, Nat.le_trans h2 k2, fun he => ?_⟩
        have e1 : es.length = L.n := by omega
        have e2 : L.n = L'.n := by omega
        rw [k3 e2]
        exact h3 e1
  | fn f caps ca hs _ ih => exact .fn f caps ca hs ih
  | ifc t v x _ ih => exact .ifc t v x ih
  | mp id b hb => exact .mp id b (h.bx _ _ hb)

/-- What speaks of no box and no growing row stays. -/
structure Gh.sub (g g' : Gh) : Prop where
  w0 : g'.w0 = g.w0
  K : ∀ b o v, g.K b o = some v → g'.K b o = some v
theorem Gh.le.sub {g g' : Gh} (h : g.le g') : g.sub g' := ⟨h.w0, h.K⟩
theorem VSim.dat0 {g g' : Gh} (h : g.sub g') {v : AV} {x : Value} (hv : VSim g v x) : v.dat0 = true → VSim g' v x := by
  induction hv with
  | any x => exact fun _ => .any x
  | s v h1 => exact fun _ => .s v h1
  | agg l a hs h1 _ ih => intro h; simp [AV.dat0] at h
  | tup l a hs _ ih => intro h; simp [AV.dat0] at h
  | bp id off b hb => intro h; simp [AV.dat0] at h
  | rp l b o vs h1 _ ih => exact fun _ => .rp l b o vs (fun i x hx => ⟨(h1 i x hx).1, (h1 i x hx).2.1, h.K _ _ _ (h1 i x hx).2.2⟩) (fun i x hx => ih i x hx (h1 i x hx).2.1)
  | sl own tag es A cap sz vs hl hc hsz h1 hA _ htag ih =>
    intro hd
    refine .sl own tag es A cap sz vs hl hc hsz h1 (fun hn => ?_) (fun j x hx => ih j x hx (h1 j x hx).2) ?_
    · obtain ⟨b, o, e, ho, hK⟩ := hA hn
      exact ⟨b, o, e, fun hb => by unfold Gh.base; rw [h.w0]; exact ho hb, fun j x hx => h.K _ _ _ (hK j x hx)⟩
    · cases tag with
      | none => trivial
      | full => exact htag
      | lin id => simp [AV.dat0, Tag.calm] at hd
  | fn f caps ca hs _ ih =>
    intro hd
    have : caps = [] := by simpa [AV.dat0] using hd
    subst this
    exact .fn f [] ca hs (fun i x hx => by simp at hx)
  | ifc t v x _ ih => intro h; simp [AV.dat0] at h
  | mp id b hb => intro h; simp [AV.dat0] at h
theorem VSim.dat1 {g g' : Gh} (h : g.sub g') {v : AV} {x : Value} (hv : VSim g v x) (hd : v.dat1 = true) : VSim g' v x := by
  cases hv with
  | agg l a hs h1 hh => exact .agg l a hs h1 (fun i x hx => (hh i x hx).dat0 h (by simp only [AV.dat1, List.all_eq_true] at hd; exact hd x (List.mem_of_getElem? hx)))
  | ifc t v x hv' =>
    refine .ifc t v x ?_
    cases v with
    | agg l =>
      cases hv' with
      | agg l a hs h1 hh => exact .agg l a hs h1 (fun i x hx => (hh i x hx).dat0 h (by simp only [AV.dat1, List.all_eq_true] at hd; exact hd x (List.mem_of_getElem? hx)))
    | _ => exact hv'.dat0 h (by simpa [AV.dat1] using hd)
  | any x => exact .any x
  | s _ h1 => exact .s _ h1
  | tup l a hs hh => simp [AV.dat1, AV.dat0] at hd
  | bp id off b hb => simp [AV.dat1, AV.dat0] at hd
  | mp id b hb => simp [AV.dat1, AV.dat0] at hd
  | rp l b o vs h1 hh => exact VSim.dat0 h (.rp l b o vs h1 hh) hd
  | sl own tag es A cap sz vs hl hc hsz h1 hA hh htag => exact VSim.dat0 h (.sl own tag es A cap sz vs hl hc hsz h1 hA hh htag) hd
  | fn f caps ca hs hh => exact VSim.dat0 h (.fn f caps ca hs hh) hd
theorem VSim.dat {g g' : Gh} (h : g.sub g') {v : AV} {x : Value} (hv : VSim g v x) (hd : v.dat = true) : VSim g' v x := by
  cases v with
  | tup l =>
    cases hv with
    | tup l a hs hh => exact .tup l a hs (fun i x hx => (hh i x hx).dat1 h (by simp only [AV.dat, List.all_eq_true] at hd; exact hd x (List.mem_of_getElem? hx)))
  | _ => exact hv.dat1 h hd

/-! ### The cells of a value -/
theorem VSim.cells_ {g : Gh} {v : AV} {x : Value} (h : VSim g v x) (hv : v ≠ .any) : x.cells.size = v.cells.length ∧ ∀ (i : Nat) y, v.cells[i]? = some y → VSim g y (x.cells.getD i undef) := by
  have one : ∀ {v : AV} {x : Value}, v.cells = [v] → x.cells = #[x] → VSim g v x → x.cells.size = v.cells.length ∧ ∀ (i : Nat) y, v.cells[i]? = some y → VSim g y (x.cells.getD i undef) := by
    intro v x h1 h2 h
    rw [h1, h2]
    refine ⟨rfl, fun i y hy => ?_⟩
    cases i with
    | zero => obtain rfl : v = y := by simpa using hy
              exact h
    | succ i => simp at hy
  cases h with
  | agg l a hs h1 hh => exact ⟨hs, hh⟩
  | any x => exact absurd rfl hv
  | s _ h1 => exact one rfl (by cases x <;> first | rfl | simp [oneV] at h1) (.s x h1)
  | tup l a hs hh => exact one rfl rfl (.tup l a hs hh)
  | bp id off b hb => exact one rfl rfl (.bp id off b hb)
  | rp l b o vs h1 hh => exact one rfl rfl (.rp l b o vs h1 hh)
  | sl own tag es A cap sz vs hl hc hsz h1 hA hh htag => exact one rfl rfl (.sl own tag es A cap sz vs hl hc hsz h1 hA hh htag)
  | fn f caps ca hs hh => exact one rfl rfl (.fn f caps ca hs hh)
  | ifc t v x hh => exact one rfl rfl (.ifc t v x hh)
  | mp id b hb => exact one rfl rfl (.mp id b hb)
theorem VSim.oneV {g : Gh} {v : AV} {x : Value} (h : VSim g v x) (h1 : v.one = true) : oneV x = true := by
  cases h <;> first | rfl | assumption | simp [AV.one] at h1

/-! ### What a value is where it hangs on no address -/
def AV.lit0 : AV → Option Value
  | .s v => some v
  | .fn f [] => some (.func f #[] #[])
  | _ => none
def AV.lits : List AV → Option (List Value)
  | [] => some []
  | v :: l => match v.lit0, AV.lits l with
    | some x, some r => some (x :: r)
    | _, _ => none
def AV.lit : AV → Option Value
  | .s v => some v
  | .agg l => (AV.lits l).map fun r => .agg r.toArray
  | .tup l => (AV.lits l).map fun r => .tuple r.toArray
  | v => v.lit0
theorem VSim.lit0 {g : Gh} {v : AV} {x y : Value} (h : VSim g v x) (hl : v.lit0 = some y) : x = y := by
  cases h with
  | s v h1 => simpa [AV.lit0] using hl
  | fn f caps ca hs hh =>
    cases caps with
    | nil =>
      have : ca = #[] := Array.eq_empty_of_size_eq_zero (by simpa using hs)
      subst this
      simpa [AV.lit0] using hl
    | cons c cs => simp [AV.lit0] at hl
  | _ => simp [AV.lit0] at hl
theorem lits_get : ∀ (l : List AV) (r : List Value), AV.lits l = some r → r.length = l.length ∧ ∀ (i : Nat) v, l[i]? = some v → ∃ y, r[i]? = some y ∧ v.lit0 = some y
  | [], r, h => by
    obtain rfl : [] = r := by simpa [AV.lits] using h
    exact ⟨rfl, fun i v hv => by simp at hv⟩
  | v :: l, r, h => by
    unfold AV.lits at h
    split at h
    · rename_i x r' hx hr
      obtain rfl := Option.some.inj h
      obtain ⟨h1, h2⟩ := lits_get l r' hr
      refine ⟨by simp [h1], fun i u hu => ?_⟩
      cases i with
      | zero => obtain rfl : v = u := by simpa using hu
                exact ⟨x, rfl, hx⟩
      | succ i => exact h2 i u (by simpa using hu)
    · cases h
theorem lits_sim {g : Gh} {l : List AV} {r : List Value} {a : Array Value} (h : AV.lits l = some r) (hs : a.size = l.length) (hh : ∀ (i : Nat) x, l[i]? = some x → VSim g x (a.getD i undef)) : a = r.toArray := by
  obtain ⟨h1, h2⟩ := lits_get l r h
  refine Array.ext (by simp [hs, h1]) (fun i hi _ => ?_)
  have hil : i < l.length := by omega
  obtain ⟨y, hy, h0⟩ := h2 i l[i] (List.getElem?_eq_getElem hil)
  have := (hh i l[i] (List.getElem?_eq_getElem hil)).lit0 h0
  have e : r[i]? = some (r[i]'(by omega)) := List.getElem?_eq_getElem (by omega)
  rw [e] at hy
  obtain rfl := Option.some.inj hy
  simp [Array.getD, hi] at this
  simpa using this
theorem VSim.lit {g : Gh} {v : AV} {x y : Value} (h : VSim g v x) (hl : v.lit = some y) : x = y := by
  cases v with
  | agg l =>
    cases h with
    | agg l a hs h1 hh =>
      simp only [AV.lit, Option.map_eq_some_iff] at hl
      obtain ⟨r, hr, rfl⟩ := hl
      rw [lits_sim hr hs hh]
  | tup l =>
    cases h with
    | tup l a hs hh =>
      simp only [AV.lit, Option.map_eq_some_iff] at hl
      obtain ⟨r, hr, rfl⟩ := hl
      rw [lits_sim hr hs hh]
  | s w => cases h; simpa [AV.lit] using hl
  | _ => exact h.lit0 hl
/-- From a literal value. -/
def AV.ofV : Value → AV
  | .agg a => if a.all oneV then .agg (a.toList.map .s) else .any
  | .tuple a => if a.all oneV then .tup (a.toList.map .s) else .any
  | .func f first captured => if first.isEmpty && captured.isEmpty then .fn f [] else .any
  | v => .s v
theorem VSim.ofV (g : Gh) (v : Value) : VSim g (AV.ofV v) v := by
  cases v with
  | agg a =>
    simp only [AV.ofV]
    split
    · rename_i ha
      rw [Array.all_eq_true] at ha
      refine .agg _ a (by simp) (fun i x hx => ?_) (fun i x hx => ?_)
      · simp only [List.getElem?_map, Option.map_eq_some_iff] at hx
        obtain ⟨y, hy, rfl⟩ := hx
        obtain ⟨hi, rfl⟩ := List.getElem?_eq_some_iff.1 hy
        simpa [AV.one] using ha i (by simpa using hi)
      · simp only [List.getElem?_map, Option.map_eq_some_iff] at hx
        obtain ⟨y, hy, rfl⟩ := hx
        obtain ⟨hi, rfl⟩ := List.getElem?_eq_some_iff.1 hy
        have hi' : i < a.size := by simpa using hi
        have e : a.getD i undef = a[i] := by simp [Array.getD, hi']
        rw [e, Array.getElem_toList]
        exact .s _ (ha i hi')
    · exact .any _
  | tuple a =>
    simp only [AV.ofV]
    split
    · rename_i ha
      rw [Array.all_eq_true] at ha
      refine .tup _ a (by simp) (fun i x hx => ?_)
      simp only [List.getElem?_map, Option.map_eq_some_iff] at hx
      obtain ⟨y, hy, rfl⟩ := hx
      obtain ⟨hi, rfl⟩ := List.getElem?_eq_some_iff.1 hy
      have hi' : i < a.size := by simpa using hi
      have e : a.getD i undef = a[i] := by simp [Array.getD, hi']
      rw [e, Array.getElem_toList]
      exact .s _ (ha i hi')
    · exact .any _
  | func f first captured =>
    simp only [AV.ofV]
    split
    · rename_i hb
      simp only [Bool.and_eq_true, Array.isEmpty_iff] at hb
      obtain ⟨rfl, rfl⟩ := hb
      exact .fn f [] #[] rfl (fun i x hx => by simp at hx)
    · exact .any _
  | _ => exact .s _ rfl
end Go.Proofs.YtjodibncpbjegaaDoor
/- What every world holds that the law is called in: the library's table of powers of ten, the place of a number's lowest bit, and its two errors. -/
set_option linter.unusedVariables false
namespace Go.Proofs.YtjodibncpbjegaaDoor
open Go.RowKit

/-- The library's table of places of a number's lowest bit. -/
def db64 : List Int := [0, 1, 56, 2, 57, 49, 28, 3, 61, 58, 42, 50, 38, 29, 17, 4, 62, 47, 59, 36, 45, 43, 51, 22, 53, 39, 33, 30, 24, 18, 12, 5, 63, 55, 48, 27, 60, 41, 37, 16, 46, 35, 44, 21, 52, 32, 23, 11, 54, 26, 40, 15, 34, 20, 31, 10, 25, 14, 19, 9, 13, 8, 7, 6]
/-- The tables hold what they hold. -/
structure Tabs (w : World) : Prop where
  pow : Lib.TabIs Tryd.prog w "internal/strconv.uint64pow10" .u64 Lib.pow10Tab
  low : w.cell? ⟨6, 15, none⟩ = some (.int .u8 4)
  syn : ∃ te pe, w.cell? ⟨3, 0, none⟩ = some (.iface te pe)
  rng : ∃ te pe, w.cell? ⟨4, 0, none⟩ = some (.iface te pe)
theorem tab_kept {w w' : World} (h : Lib.TabIs Tryd.prog w "internal/strconv.uint64pow10" .u64 Lib.pow10Tab) (hk : Kept w w') : Lib.TabIs Tryd.prog w' "internal/strconv.uint64pow10" .u64 Lib.pow10Tab := by
  unfold Lib.TabIs World.var? at *
  cases hg : Tryd.prog.globalNamed "internal/strconv.uint64pow10" with
  | none => rw [hg] at h; cases h
  | some g =>
    rw [hg] at h
    simp only [Option.bind_some] at h ⊢
    have hlt : g < w.heap.size := by
      rcases Nat.lt_or_ge g w.heap.size with h1 | h1
      · exact h1
      · rw [Array.getElem?_eq_none h1] at h; cases h
    rw [hk.block g hlt]
    exact h
theorem Tabs.kept {w w' : World} (h : Tabs w) (hk : Kept w w') : Tabs w' := ⟨tab_kept h.pow hk, hk.cell h.low, let ⟨te, pe, hc⟩ := h.syn; ⟨te, pe, hk.cell hc⟩, let ⟨te, pe, hc⟩ := h.rng; ⟨te, pe, hk.cell hc⟩⟩
/-- What every world holds. -/
def WorldOk (w : World) : Prop := Tabs w
theorem WorldOk.kept {w w' : World} (h : WorldOk w) (hk : Kept w w') : WorldOk w' := Tabs.kept h hk
end Go.Proofs.YtjodibncpbjegaaDoor
/- A world and what is known of it; frames; what a piece of code does to plain data. No program. -/
set_option linter.unusedVariables false
set_option linter.unusedSimpArgs false
namespace Go.Proofs.YtjodibncpbjegaaDoor
open Go.RowKit

/-- A growing row in a world. -/
def LinOk (g : Gh) (L : Lin) (w : World) : Prop :=
  (L.n = 0 ∧ L.cap = 0) ∨
  ∃ b cur, L.A = some ⟨b, 0, none⟩ ∧ g.base ≤ b ∧ b ∉ g.bx ∧ w.heap[b]? = some (.cells cur L.e (0, 0)) ∧ L.n ≤ L.cap ∧ 0 < L.cap ∧ cur.size = L.cap * L.sz ∧
    (∀ o, o < L.n * L.sz → g.K b o = cur[o]?) ∧ (∀ o, L.n * L.sz ≤ o → g.K b o = none)
/-- Is it a map's box? -/
def boxMap : List AV → Bool
  | [.tup _] => true
  | _ => false
theorem boxMap_one {cs : List AV} (h : cs.all AV.one = true) : boxMap cs = false := by
  unfold boxMap
  split
  · simp [AV.one] at h
  · rfl
/-- A map's entries, as one cell. -/
def mapCell (es : Array MapEntry) : Value := .tuple (es.map fun e => .tuple #[e.key, e.val])
/-- A map's entries bear their numbers. -/
def Born (es : Array MapEntry) (clk : Nat) : Prop := (∀ (i : Nat) e, es[i]? = some e → e.born = i) ∧ clk = es.size
def ObjIs (o : Option Obj) (m : Bool) (cur : Array Value) (T : TypeId) : Prop :=
  match m with
  | false => o = some (.cells cur T (0, 0))
  | true => ∃ es clk, o = some (.map es clk) ∧ cur = #[mapCell es] ∧ Born es clk
theorem ObjIs.lt {w : World} {b : Nat} {m : Bool} {cur : Array Value} {T : TypeId} (h : ObjIs (w.heap[b]?) m cur T) : b < w.heap.size := by
  cases m with
  | false => exact (Array.getElem?_eq_some_iff.1 h).1
  | true => obtain ⟨es, clk, h, _⟩ := h; exact (Array.getElem?_eq_some_iff.1 h).1
def isC : Obj → Bool
  | .cells _ _ _ => true
  | _ => false
def KeptR (r : Root) (w : World) : Prop := (Kept r.W w ∧ r.n ≤ w.heap.size) ∧ ∀ b o, r.fz b = some o → w.heap[b]? = some o ∧ isC o = false
/-- A block of which no cell is frozen. -/
def Loose (x : Option Obj) : Prop := ∀ C T lo hi, x = some (.cells C T (lo, hi)) → lo = hi ∨ C.size ≤ lo
structure Inv (g : Gh) (st : AS) (w : World) : Prop where
  K : ∀ b o v, g.K b o = some v → w.cell? ⟨b, o, none⟩ = some v ∧ oneV v = true
  bxlen : g.bx.length = st.bx.length
  bx : ∀ (i : Nat) b cs, g.bx[i]? = some b → st.bx[i]? = some cs → ∃ cur T, ObjIs (w.heap[b]?) (boxMap cs) cur T ∧ cur.size = cs.length ∧ ∀ (j : Nat) x, cs[j]? = some x → VSim g x (cur.getD j undef)
  bxK : ∀ b, b ∈ g.bx → g.base ≤ b ∧ (∀ o, g.K b o = none) ∧ g.w0.fz b = none
  bxnd : g.bx.Nodup
  lnlen : g.ln.length = st.ln.length
  ln : ∀ (i : Nat) L, g.ln[i]? = some L → st.ln[i]? = some (L.n, L.e, L.sz) ∧ LinOk g L w
  lnd : ∀ (i j : Nat) L L' a a', g.ln[i]? = some L → g.ln[j]? = some L' → 0 < L.cap → 0 < L'.cap → L.A = some a → L'.A = some a' → a.block = a'.block → i = j
  kept : KeptR g.w0 w
  ok : WorldOk g.w0.W
  nf : ∀ b o v, g.K b o = some v → g.base ≤ b → Loose (w.heap[b]?)
theorem Inv.base_le {g : Gh} {st : AS} {w : World} (h : Inv g st w) : g.base ≤ w.heap.size := h.kept.1.1.size
theorem Inv.K_lt {g : Gh} {st : AS} {w : World} (h : Inv g st w) {b o : Nat} {v : Value} (hk : g.K b o = some v) : b < w.heap.size := World.block_lt_of_cell? w _ (h.K b o v hk).1

/-- The world goes on, nothing that was there changed: everything stays. -/
theorem Inv.kept_ {g : Gh} {st : AS} {w w' : World} (h : Inv g st w) (hk : Kept w w') : Inv g st w' where
  K b o v hv := ⟨hk.cell (h.K b o v hv).1, (h.K b o v hv).2⟩
  bxlen := h.bxlen
  bx i b cs hb hc := by
    obtain ⟨cur, T, h1, h2, h3⟩ := h.bx i b cs hb hc
    exact ⟨cur, T, by rw [hk.block b h1.lt]; exact h1, h2, h3⟩
  bxK := h.bxK
  bxnd := h.bxnd
  lnlen := h.lnlen
  ln i L hL := by
    obtain ⟨h1, h2⟩ := h.ln i L hL
    refine ⟨h1, ?_⟩
    rcases h2 with h2 | ⟨b, cur, e1, e2, e3, e4, e5⟩
    · exact .inl h2
    · exact .inr ⟨b, cur, e1, e2, e3, (hk.block b (Array.getElem?_eq_some_iff.1 e4).1).trans e4, e5⟩
  lnd := h.lnd
  kept := ⟨⟨h.kept.1.1.trans hk, Nat.le_trans h.kept.1.2 hk.size⟩, fun b o hb => ⟨(hk.block b (Array.getElem?_eq_some_iff.1 (h.kept.2 b o hb).1).1).trans (h.kept.2 b o hb).1, (h.kept.2 b o hb).2⟩⟩
  ok := h.ok
  nf b o v hv hb := by rw [hk.block b (World.block_lt_of_cell? w _ (h.K b o v hv).1)]; exact h.nf b o v hv hb

/-! ### Frames -/
structure AFr where
  n : Nat
  l : List (Nat × AV)
def look : List (Nat × AV) → Nat → AV
  | [], _ => .any
  | (t, v) :: r, u => if t = u then v else look r u
def AFr.put (fr : AFr) (dst : Option Tmp) (v : AV) : AFr :=
  match dst with
  | none => fr
  | some d => { fr with l := (d, if d < fr.n then v else .any) :: fr.l }
def AFr.eval (fr : AFr) : Operand → AV
  | .tmp t => look fr.l t
  | .const v => AV.ofV v
  | .global _ => .any
  | .func f => .fn (.func f) []
/-- What stays of a frame: the deferred calls; slots that hold a value. -/
structure FixD where
  ds : List Deferred
  keep : Tmp → Option Value
/-- The slots that a code writes. -/
def dstsOf : Code → List Tmp
  | .region _ ops _ => ops.toList.filterMap (·.dst)
  | .seq a b => dstsOf a ++ dstsOf b
  | .cond _ a b => dstsOf a ++ dstsOf b
  | .block _ c => dstsOf c
  | .loop c => dstsOf c
  | .scope c => dstsOf c
  | _ => []
def FixD.free (D : FixD) (c : Code) : Prop := ∀ t ∈ dstsOf c, D.keep t = none
def FixD.freeO (D : FixD) (o : Oper) : Prop := ∀ t, o.dst = some t → D.keep t = none
structure FSim (D : FixD) (g : Gh) (fr : AFr) (a : Act) : Prop where
  defers : a.defers = D.ds
  size : a.tmps.size = fr.n
  tmps : ∀ t, VSim g (look fr.l t) (a.tmps.getD t undef)
  keep : ∀ t x, D.keep t = some x → a.tmps.getD t undef = x
theorem FSim.mono {D : FixD} {g g' : Gh} {fr : AFr} {a : Act} (h : FSim D g fr a) (hg : g.le g') : FSim D g' fr a := ⟨h.defers, h.size, fun t => (h.tmps t).mono hg, h.keep⟩
theorem FSim.put {D : FixD} {g : Gh} {fr : AFr} {a : Act} (h : FSim D g fr a) {v : AV} {x : Value} (hv : VSim g v x) (dst : Option Tmp) (hk : ∀ t, dst = some t → D.keep t = none) : FSim D g (fr.put dst v) (a.put dst x) := by
  cases dst with
  | none => exact h
  | some d =>
    refine ⟨h.defers, by simp [Act.put, AFr.put, h.size], fun t => ?_, fun t y hy => ?_⟩
    rotate_left
    · have hd : d ≠ t := fun e => by subst e; rw [hk d rfl] at hy; cases hy
      have e : ((a.put (some d) x).tmps.getD t undef) = a.tmps.getD t undef := by
        simp only [Act.put]
        simp [Array.getElem?_setIfInBounds_ne hd]
      rw [e]
      exact h.keep t y hy
    by_cases hd : d = t
    · subst hd
      by_cases hn : d < fr.n
      · have e : ((a.put (some d) x).tmps.getD d undef) = x := by
          have : d < a.tmps.size := by rw [h.size]; exact hn
          simp [Act.put, Array.getD, this]
        rw [e]
        simp only [AFr.put, look, if_pos rfl, if_pos hn]
        exact hv
      · simp only [AFr.put, look, if_pos rfl, if_neg hn]
        exact .any _
    · have e : ((a.put (some d) x).tmps.getD t undef) = a.tmps.getD t undef := by
        simp only [Act.put]
        simp [Array.getElem?_setIfInBounds_ne hd]
      rw [e]
      simp only [AFr.put, look, if_neg hd]
      exact h.tmps t
/-- A frame that says less. -/
def AFr.sub (fr' fr : AFr) : Prop := fr'.n = fr.n ∧ ∀ p ∈ fr'.l, look fr.l p.1 = p.2
theorem look_mem : ∀ (l : List (Nat × AV)) (t : Nat), look l t = .any ∨ (t, look l t) ∈ l
  | [], t => .inl rfl
  | (u, v) :: r, t => by
    unfold look
    split
    · rename_i h; subst h; exact .inr (by simp)
    · rcases look_mem r t with h | h
      · exact .inl h
      · exact .inr (List.mem_cons_of_mem _ h)
theorem FSim.sub {D : FixD} {g : Gh} {fr fr' : AFr} {a : Act} (h : FSim D g fr a) (hs : fr'.sub fr) : FSim D g fr' a :=
  ⟨h.defers, h.size.trans hs.1.symm, (fun t => by
    rcases look_mem fr'.l t with e | e
    · rw [e]; exact .any _
    · have e2 : look fr.l t = look fr'.l t := hs.2 _ e
      rw [← e2]
      exact h.tmps t), h.keep⟩
theorem FSim.eval {D : FixD} {g : Gh} {fr : AFr} {a : Act} (h : FSim D g fr a) (x : Operand) : VSim g (fr.eval x) (a.eval x) := by
  cases x with
  | tmp t => exact h.tmps t
  | const v => exact .ofV g v
  | global g => exact .any _
  | func f => exact .fn _ [] #[] rfl (fun i x hx => by simp at hx)

/-! ### What a piece of code does -/
inductive AX where
  | normal
  | exit (id : Nat)
  | ret
  | panic (v : AV)
inductive XSim (g : Gh) : AX → Exit → Prop
  | normal : XSim g .normal .normal
  | exit (id : Nat) : XSim g (.exit id) (.exit id)
  | ret : XSim g .ret .ret
  | panic (v : AV) (x : Value) (h : VSim g v x) : XSim g (.panic v) (.panic [{ v := x, recovered := false }])
abbrev Post := AX → AFr → AS → Prop
/-- The code comes to one of Q's ends, from every world that is as the plain data say. -/
def Does (P : Program) (c : Code) (Q : Post) (fr : AFr) (st : AS) : Prop :=
  ∀ (D : FixD), D.free c → ∀ g a w, Inv g st w → FSim D g fr a → c.wp P (fun e a' w' => ∃ g' x fr' st', g.le g' ∧ Inv g' st' w' ∧ FSim D g' fr' a' ∧ XSim g' x e ∧ Q x fr' st') a w
inductive AOut where
  | ret (v : AV)
  | panic (v : AV)
inductive OSim (g : Gh) : AOut → Ending → Prop
  | ret (v : AV) (x : Value) (h : VSim g v x) : OSim g (.ret v) (.returned x)
  | panic (v : AV) (x : Value) (h : VSim g v x) : OSim g (.panic v) (.panicked [{ v := x, recovered := false }])
inductive ASim (g : Gh) : List AV → List Value → Prop
  | nil : ASim g [] []
  | cons {v : AV} {x : Value} {l : List AV} {r : List Value} (h : VSim g v x) (hr : ASim g l r) : ASim g (v :: l) (x :: r)
theorem ASim.mono {g g' : Gh} (hg : g.le g') {l : List AV} {r : List Value} (h : ASim g l r) : ASim g' l r := by
  induction h with
  | nil => exact .nil
  | cons h _ ih => exact .cons (h.mono hg) ih
/-- The call comes to one of R's ends. -/
def DoesCall (P : Program) (f : FuncId) (args : List AV) (st : AS) (R : AOut → AS → Prop) : Prop :=
  ∀ g w vs, Inv g st w → ASim g args vs → Calls P f vs.toArray w fun e w' => ∃ g' o st', g.le g' ∧ Inv g' st' w' ∧ OSim g' o e ∧ R o st'
theorem DoesCall.mono {P : Program} {f : FuncId} {args : List AV} {st : AS} {R R' : AOut → AS → Prop} (h : DoesCall P f args st R) (hr : ∀ o st', R o st' → R' o st') : DoesCall P f args st R' :=
  fun g w vs hi ha => (h g w vs hi ha).mono fun e w' ⟨g', o, st', h1, h2, h3, h4⟩ => ⟨g', o, st', h1, h2, h3, hr _ _ h4⟩
theorem Does.mono {P : Program} {c : Code} {Q Q' : Post} {fr : AFr} {st : AS} (h : Does P c Q fr st) (hq : ∀ x fr st, Q x fr st → Q' x fr st) : Does P c Q' fr st :=
  fun D hD g a w hi hf => wp_mono (h D hD g a w hi hf) fun e a' w' ⟨g', x, fr', st', h1, h2, h3, h4, h5⟩ => ⟨g', x, fr', st', h1, h2, h3, h4, hq _ _ _ h5⟩
theorem Does.sub {P : Program} {c : Code} {Q : Post} {fr fr' : AFr} {st : AS} (hs : fr'.sub fr) (h : Does P c Q fr' st) : Does P c Q fr st :=
  fun D hD g a w hi hf => h D hD g a w hi (hf.sub hs)
end Go.Proofs.YtjodibncpbjegaaDoor
