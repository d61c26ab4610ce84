/- Merged: ALsSp. -/
import Derived.Test.YtbnfdglfakaohaaDoorZ39
/- Laws of layer 07: what was decoded is the caller's own. -/
set_option linter.unusedVariables false
set_option linter.unusedSimpArgs false
namespace Go.Proofs.YtbnfdglfakaohaaDoor
open Go.RowKit
attribute [local go_sem] run_store_fl
set_option maxRecDepth 20000
/-- The 2 cells at a, written over. -/
def putTwo (W : World) (a : Addr) (u0 u1 : Value) : World := (W.setCell a u0).setCell (Addr.mk a.block (a.off + 1) none) u1
theorem two_block {W : World} {a : Addr} {u0 u1 : Value} {k : Nat} (h : k ≠ a.block) : (putTwo W a u0 u1).heap[k]? = W.heap[k]? := by
  unfold putTwo
  refine (setCell_block (a := ⟨a.block, a.off + 1, none⟩) h).trans ?_
  exact setCell_block (a := a) h
theorem Beside.two {lo hi : Nat} {A B : World} (h : Beside lo hi A B) {a : Addr} (h1 : lo ≤ a.block) (h2 : a.block < hi) (u0 u1 : Value) : Beside lo hi A (putTwo B a u0 u1) := by
  have s0 := h.setCell (a := a) h1 h2 u0
  have s1 := s0.setCell (a := ⟨a.block, a.off + 1, none⟩) h1 h2 u1
  unfold putTwo
  exact s1
theorem two_cells {w : World} {a : Addr} {x1 : Value} (c1 : w.cell? ⟨a.block, a.off + 1, none⟩ = some x1) :
    (∀ v0, (w.setCell a v0).cell? ⟨a.block, a.off + 1, none⟩ = some x1) :=
  fun v0 => next_head (by omega) c1
/-- The 9 cells at a, written over. -/
def putNine (W : World) (a : Addr) (u0 u1 u2 u3 u4 u5 u6 u7 u8 : Value) : World := ((((((((W.setCell a u0).setCell (Addr.mk a.block (a.off + 1) none) u1).setCell (Addr.mk a.block (a.off + 2) none) u2).setCell (Addr.mk a.block (a.off + 3) none) u3).setCell (Addr.mk a.block (a.off + 4) none) u4).setCell (Addr.mk a.block (a.off + 5) none) u5).setCell (Addr.mk a.block (a.off + 6) none) u6).setCell (Addr.mk a.block (a.off + 7) none) u7).setCell (Addr.mk a.block (a.off + 8) none) u8
theorem nine_block {W : World} {a : Addr} {u0 u1 u2 u3 u4 u5 u6 u7 u8 : Value} {k : Nat} (h : k ≠ a.block) : (putNine W a u0 u1 u2 u3 u4 u5 u6 u7 u8).heap[k]? = W.heap[k]? := by
  unfold putNine
  refine (setCell_block (a := ⟨a.block, a.off + 8, none⟩) h).trans ?_
  refine (setCell_block (a := ⟨a.block, a.off + 7, none⟩) h).trans ?_
  refine (setCell_block (a := ⟨a.block, a.off + 6, none⟩) h).trans ?_
  refine (setCell_block (a := ⟨a.block, a.off + 5, none⟩) h).trans ?_
  refine (setCell_block (a := ⟨a.block, a.off + 4, none⟩) h).trans ?_
  refine (setCell_block (a := ⟨a.block, a.off + 3, none⟩) h).trans ?_
  refine (setCell_block (a := ⟨a.block, a.off + 2, none⟩) h).trans ?_
  refine (setCell_block (a := ⟨a.block, a.off + 1, none⟩) h).trans ?_
  exact setCell_block (a := a) h
theorem Beside.nine {lo hi : Nat} {A B : World} (h : Beside lo hi A B) {a : Addr} (h1 : lo ≤ a.block) (h2 : a.block < hi) (u0 u1 u2 u3 u4 u5 u6 u7 u8 : Value) : Beside lo hi A (putNine B a u0 u1 u2 u3 u4 u5 u6 u7 u8) := by
  have s0 := h.setCell (a := a) h1 h2 u0
  have s1 := s0.setCell (a := ⟨a.block, a.off + 1, none⟩) h1 h2 u1
  have s2 := s1.setCell (a := ⟨a.block, a.off + 2, none⟩) h1 h2 u2
  have s3 := s2.setCell (a := ⟨a.block, a.off + 3, none⟩) h1 h2 u3
  have s4 := s3.setCell (a := ⟨a.block, a.off + 4, none⟩) h1 h2 u4
  have s5 := s4.setCell (a := ⟨a.block, a.off + 5, none⟩) h1 h2 u5
  have s6 := s5.setCell (a := ⟨a.block, a.off + 6, none⟩) h1 h2 u6
  have s7 := s6.setCell (a := ⟨a.block, a.off + 7, none⟩) h1 h2 u7
  have s8 := s7.setCell (a := ⟨a.block, a.off + 8, none⟩) h1 h2 u8
  unfold putNine
  exact s8
theorem nine_cells {w : World} {a : Addr} {x1 x2 x3 x4 x5 x6 x7 x8 : Value} (c1 : w.cell? ⟨a.block, a.off + 1, none⟩ = some x1) (c2 : w.cell? ⟨a.block, a.off + 2, none⟩ = some x2) (c3 : w.cell? ⟨a.block, a.off + 3, none⟩ = some x3) (c4 : w.cell? ⟨a.block, a.off + 4, none⟩ = some x4) (c5 : w.cell? ⟨a.block, a.off + 5, none⟩ = some x5) (c6 : w.cell? ⟨a.block, a.off + 6, none⟩ = some x6) (c7 : w.cell? ⟨a.block, a.off + 7, none⟩ = some x7) (c8 : w.cell? ⟨a.block, a.off + 8, none⟩ = some x8) :
    (∀ v0, (w.setCell a v0).cell? ⟨a.block, a.off + 1, none⟩ = some x1) ∧
    (∀ v0 v1, ((w.setCell a v0).setCell ⟨a.block, a.off + 1, none⟩ v1).cell? ⟨a.block, a.off + 2, none⟩ = some x2) ∧
    (∀ v0 v1 v2, (((w.setCell a v0).setCell ⟨a.block, a.off + 1, none⟩ v1).setCell ⟨a.block, a.off + 2, none⟩ v2).cell? ⟨a.block, a.off + 3, none⟩ = some x3) ∧
    (∀ v0 v1 v2 v3, ((((w.setCell a v0).setCell ⟨a.block, a.off + 1, none⟩ v1).setCell ⟨a.block, a.off + 2, none⟩ v2).setCell ⟨a.block, a.off + 3, none⟩ v3).cell? ⟨a.block, a.off + 4, none⟩ = some x4) ∧
    (∀ v0 v1 v2 v3 v4, (((((w.setCell a v0).setCell ⟨a.block, a.off + 1, none⟩ v1).setCell ⟨a.block, a.off + 2, none⟩ v2).setCell ⟨a.block, a.off + 3, none⟩ v3).setCell ⟨a.block, a.off + 4, none⟩ v4).cell? ⟨a.block, a.off + 5, none⟩ = some x5) ∧
    (∀ v0 v1 v2 v3 v4 v5, ((((((w.setCell a v0).setCell ⟨a.block, a.off + 1, none⟩ v1).setCell ⟨a.block, a.off + 2, none⟩ v2).setCell ⟨a.block, a.off + 3, none⟩ v3).setCell ⟨a.block, a.off + 4, none⟩ v4).setCell ⟨a.block, a.off + 5, none⟩ v5).cell? ⟨a.block, a.off + 6, none⟩ = some x6) ∧
    (∀ v0 v1 v2 v3 v4 v5 v6, (((((((w.setCell a v0).setCell ⟨a.block, a.off + 1, none⟩ v1).setCell ⟨a.block, a.off + 2, none⟩ v2).setCell ⟨a.block, a.off + 3, none⟩ v3).setCell ⟨a.block, a.off + 4, none⟩ v4).setCell ⟨a.block, a.off + 5, none⟩ v5).setCell ⟨a.block, a.off + 6, none⟩ v6).cell? ⟨a.block, a.off + 7, none⟩ = some x7) ∧
    (∀ v0 v1 v2 v3 v4 v5 v6 v7, ((((((((w.setCell a v0).setCell ⟨a.block, a.off + 1, none⟩ v1).setCell ⟨a.block, a.off + 2, none⟩ v2).setCell ⟨a.block, a.off + 3, none⟩ v3).setCell ⟨a.block, a.off + 4, none⟩ v4).setCell ⟨a.block, a.off + 5, none⟩ v5).setCell ⟨a.block, a.off + 6, none⟩ v6).setCell ⟨a.block, a.off + 7, none⟩ v7).cell? ⟨a.block, a.off + 8, none⟩ = some x8) :=
  ⟨fun v0 => next_head (by omega) c1, fun v0 v1 => next_cell (by omega) (next_head (by omega) c2), fun v0 v1 v2 => next_cell (by omega) (next_cell (by omega) (next_head (by omega) c3)), fun v0 v1 v2 v3 => next_cell (by omega) (next_cell (by omega) (next_cell (by omega) (next_head (by omega) c4))), fun v0 v1 v2 v3 v4 => next_cell (by omega) (next_cell (by omega) (next_cell (by omega) (next_cell (by omega) (next_head (by omega) c5)))), fun v0 v1 v2 v3 v4 v5 => next_cell (by omega) (next_cell (by omega) (next_cell (by omega) (next_cell (by omega) (next_cell (by omega) (next_head (by omega) c6))))), fun v0 v1 v2 v3 v4 v5 v6 => next_cell (by omega) (next_cell (by omega) (next_cell (by omega) (next_cell (by omega) (next_cell (by omega) (next_cell (by omega) (next_head (by omega) c7)))))), fun v0 v1 v2 v3 v4 v5 v6 v7 => next_cell (by omega) (next_cell (by omega) (next_cell (by omega) (next_cell (by omega) (next_cell (by omega) (next_cell (by omega) (next_cell (by omega) (next_head (by omega) c8)))))))⟩
theorem VSim.bool_ {g : Gh} {n : Bool} {x : Value} (h : VSim g (.s (.bool n)) x) : x = .bool n := by cases h; rfl
/-- What a slice of types, or what came in its place, is: n elements. -/
def CurT (g : Gh) (l : List T) (A : Option Addr) (n c : Nat) : Prop := VSim g (.sl true .none (encTL true l)) (.slice A n c) ∨ (A = none ∧ n = 0 ∧ c = 0)
theorem CurT.of {g : Gh} {l : List T} {A B : Option Addr} {n c m d : Nat} (h : VSim g (.sl true .none (encTL true l)) (.slice A n c)) (hl : Like (.slice A n c) (.slice B m d)) : CurT g l B m d := by
  rcases hl.sl_ with h1 | h1
  · obtain ⟨h1, h2, h3⟩ := Value.slice.inj h1
    subst h1 h2 h3
    exact .inl h
  · obtain ⟨h1, h2, h3⟩ := Value.slice.inj h1
    exact .inr ⟨h1, h2, h3⟩
theorem CurT.len {g : Gh} {l : List T} {A : Option Addr} {n c : Nat} (h : CurT g l A n c) : n ≤ l.length ∧ n ≤ 140737488355328 ∧ n ≤ c := by
  rcases h with h | ⟨_, rfl, rfl⟩
  · obtain ⟨A', c', e, h1, h2, _⟩ := VSim.elem (n := 2) h (encTL_lens true _) (by omega)
    obtain ⟨e1, e2, e3⟩ := Value.slice.inj e
    rw [encTL_len] at e2 h1 h2
    subst e2 e3
    exact ⟨Nat.le_refl _, h2, h1⟩
  · omega
/-- One of them, now: its cells; it may be written over. -/
theorem CurT.at_ {g : Gh} {l : List T} {A : Option Addr} {n c : Nat} {W : World} (h : CurT g l A n c) (hs : Spo g.K g.base W) {j : Nat} (hj : j < n) :
    ∃ (ad : Addr) (k : Int) (B : Option Addr) (m d : Nat), A = some ad ∧ g.base ≤ ad.block ∧ (∃ v, g.K ad.block (ad.add (j * 2)).off = some v) ∧
      W.cell? (ad.add (j * 2)) = some (.int .i64 k) ∧ W.cell? ⟨(ad.add (j * 2)).block, (ad.add (j * 2)).off + 1, none⟩ = some (.slice B m d) ∧
      W.frozen? (ad.add (j * 2)) = false ∧ W.frozen? ⟨(ad.add (j * 2)).block, (ad.add (j * 2)).off + 1, none⟩ = false ∧
      ∀ k', Spo g.K g.base (putTwo W (ad.add (j * 2)) (.int .i64 k') (.slice none 0 0)) := by
  have hle := h.len
  rcases h with h | ⟨_, rfl, _⟩
  rotate_left
  · omega
  have hx : l[j]? = some (l[j]'(by omega)) := List.getElem?_eq_getElem (by omega)
  obtain ⟨x, hxe⟩ : ∃ x, x = l[j]'(by omega) := ⟨_, rfl⟩
  rw [← hxe] at hx
  obtain ⟨A', c', e, h1, h2, h3⟩ := VSim.elem (n := 2) h (encTL_lens true _) (by omega)
  obtain ⟨e1, e2, e3⟩ := Value.slice.inj e
  subst e1
  obtain ⟨b, o, rfl, hb, hc⟩ := h3 j _ (encTL_get true hx)
  rw [encT_eq] at hc
  have hb := hb rfl
  obtain ⟨v0, k0, s0⟩ := hc 0 _ rfl
  obtain ⟨v1, k1, s1⟩ := hc 1 _ rfl
  obtain rfl := s0.int_
  obtain ⟨B, d, rfl, _⟩ := VSim.elem (n := 2) s1 (encTL_lens true _) (by omega)
  obtain ⟨_, u0, w0, y0⟩ := hs _ _ _ k0 hb
  obtain ⟨_, u1, w1, y1⟩ := hs _ _ _ k1 hb
  obtain ⟨k, rfl⟩ := y0.int_
  have : ∃ B m d, u1 = .slice B m d := by rcases y1.sl_ with rfl | rfl <;> exact ⟨_, _, _, rfl⟩
  obtain ⟨B', m', d', rfl⟩ := this
  refine ⟨⟨b, o, none⟩, k, B', m', d', rfl, hb, ?_⟩
  rw [add_none]
  refine ⟨⟨_, k0⟩, w0, w1, hs.free k0 hb, hs.free k1 hb, fun k' => ?_⟩
  have r0 := hs.store k0 hb (Like.int .i64 _ k')
  have r1 := r0.store k1 hb (Like.nil _ _ _)
  dsimp only [putTwo]
  exact r1
/-- One column, now: its cells; it may be written over. -/
theorem col_at {g : Gh} {l : List C} {A : Option Addr} {n c0 : Nat} {W : World} (h : VSim g (.sl true .none (encCL true l)) (.slice A n c0)) (hs : Spo g.K g.base W) {j : Nat} (hj : j < l.length) :
    ∃ (ad : Addr) (c : C) (nm : ByteArray) (kd : Int) (B : Option Addr) (m d : Nat) (hs' : Bool) (dk di : Int) (df : Nat) (dt : ByteArray) (B2 : Option Addr) (m2 d2 : Nat), A = some ad ∧ l[j]? = some c ∧ g.base ≤ ad.block ∧ (∃ v, g.K ad.block (ad.add (j * 9)).off = some v) ∧
      W.cell? (ad.add (j * 9)) = some (.string nm) ∧
      W.cell? ⟨(ad.add (j * 9)).block, (ad.add (j * 9)).off + 1, none⟩ = some (.int .i64 kd) ∧
      W.cell? ⟨(ad.add (j * 9)).block, (ad.add (j * 9)).off + 2, none⟩ = some (.slice B m d) ∧
      W.cell? ⟨(ad.add (j * 9)).block, (ad.add (j * 9)).off + 3, none⟩ = some (.bool hs') ∧
      W.cell? ⟨(ad.add (j * 9)).block, (ad.add (j * 9)).off + 4, none⟩ = some (.int .i64 dk) ∧
      W.cell? ⟨(ad.add (j * 9)).block, (ad.add (j * 9)).off + 5, none⟩ = some (.int .i64 di) ∧
      W.cell? ⟨(ad.add (j * 9)).block, (ad.add (j * 9)).off + 6, none⟩ = some (.float .f64 df) ∧
      W.cell? ⟨(ad.add (j * 9)).block, (ad.add (j * 9)).off + 7, none⟩ = some (.string dt) ∧
      W.cell? ⟨(ad.add (j * 9)).block, (ad.add (j * 9)).off + 8, none⟩ = some (.slice B2 m2 d2) ∧
      W.frozen? (ad.add (j * 9)) = false ∧
      W.frozen? ⟨(ad.add (j * 9)).block, (ad.add (j * 9)).off + 1, none⟩ = false ∧
      W.frozen? ⟨(ad.add (j * 9)).block, (ad.add (j * 9)).off + 2, none⟩ = false ∧
      W.frozen? ⟨(ad.add (j * 9)).block, (ad.add (j * 9)).off + 3, none⟩ = false ∧
      W.frozen? ⟨(ad.add (j * 9)).block, (ad.add (j * 9)).off + 4, none⟩ = false ∧
      W.frozen? ⟨(ad.add (j * 9)).block, (ad.add (j * 9)).off + 5, none⟩ = false ∧
      W.frozen? ⟨(ad.add (j * 9)).block, (ad.add (j * 9)).off + 6, none⟩ = false ∧
      W.frozen? ⟨(ad.add (j * 9)).block, (ad.add (j * 9)).off + 7, none⟩ = false ∧
      W.frozen? ⟨(ad.add (j * 9)).block, (ad.add (j * 9)).off + 8, none⟩ = false ∧
      CurT g c.ty.of B m d ∧ Cur g c.dflt.items B2 m2 d2 ∧
      ∀ nm', Spo g.K g.base (putNine W (ad.add (j * 9)) (.string nm') (.int .i64 0) (.slice none 0 0) (.bool false) (.int .i64 0) (.int .i64 0) (.float .f64 0) (.string ⟨#[]⟩) (.slice none 0 0)) := by
  have hx : l[j]? = some l[j] := List.getElem?_eq_getElem hj
  obtain ⟨c, hxe⟩ : ∃ c, c = l[j] := ⟨_, rfl⟩
  rw [← hxe] at hx
  obtain ⟨A', c', e, h1, h2, h3⟩ := VSim.elem (n := 9) h (encCL_lens true _) (by omega)
  obtain ⟨e1, e2, e3⟩ := Value.slice.inj e
  subst e1
  obtain ⟨b, o, rfl, hb, hc⟩ := h3 j _ (encCL_get true hx)
  rw [encC_eq] at hc
  have hb := hb rfl
  obtain ⟨v0, k0, s0⟩ := hc 0 _ rfl
  obtain ⟨v1, k1, s1⟩ := hc 1 _ rfl
  obtain ⟨v2, k2, s2⟩ := hc 2 _ rfl
  obtain ⟨v3, k3, s3⟩ := hc 3 _ rfl
  obtain ⟨v4, k4, s4⟩ := hc 4 _ rfl
  obtain ⟨v5, k5, s5⟩ := hc 5 _ rfl
  obtain ⟨v6, k6, s6⟩ := hc 6 _ rfl
  obtain ⟨v7, k7, s7⟩ := hc 7 _ rfl
  obtain ⟨v8, k8, s8⟩ := hc 8 _ rfl
  obtain rfl := s0.str_
  obtain rfl := s1.int_
  obtain ⟨Bx, dx, rfl, _⟩ := VSim.elem (n := 2) s2 (encTL_lens true _) (by omega)
  obtain rfl := s3.bool_
  obtain rfl := s4.int_
  obtain rfl := s5.int_
  obtain rfl := s6.float_
  obtain rfl := s7.str_
  obtain ⟨By, dy, rfl, _⟩ := VSim.elem (n := 5) s8 (encL_lens true _) (by omega)
  obtain ⟨_, u0, w0, y0⟩ := hs _ _ _ k0 hb
  obtain ⟨_, u1, w1, y1⟩ := hs _ _ _ k1 hb
  obtain ⟨_, u2, w2, y2⟩ := hs _ _ _ k2 hb
  obtain ⟨_, u3, w3, y3⟩ := hs _ _ _ k3 hb
  obtain ⟨_, u4, w4, y4⟩ := hs _ _ _ k4 hb
  obtain ⟨_, u5, w5, y5⟩ := hs _ _ _ k5 hb
  obtain ⟨_, u6, w6, y6⟩ := hs _ _ _ k6 hb
  obtain ⟨_, u7, w7, y7⟩ := hs _ _ _ k7 hb
  obtain ⟨_, u8, w8, y8⟩ := hs _ _ _ k8 hb
  obtain ⟨nm, rfl⟩ := y0.str_
  obtain ⟨kd, rfl⟩ := y1.int_
  have : ∃ B m d, u2 = .slice B m d := by rcases y2.sl_ with rfl | rfl <;> exact ⟨_, _, _, rfl⟩
  obtain ⟨B, m, d, rfl⟩ := this
  obtain ⟨hs', rfl⟩ := y3.bool_
  obtain ⟨dk, rfl⟩ := y4.int_
  obtain ⟨di, rfl⟩ := y5.int_
  obtain ⟨df, rfl⟩ := y6.float_
  obtain ⟨dt, rfl⟩ := y7.str_
  have : ∃ B m d, u8 = .slice B m d := by rcases y8.sl_ with rfl | rfl <;> exact ⟨_, _, _, rfl⟩
  obtain ⟨B2, m2, d2, rfl⟩ := this
  refine ⟨⟨b, o, none⟩, c, nm, kd, B, m, d, hs', dk, di, df, dt, B2, m2, d2, rfl, hx, hb, ?_⟩
  rw [add_none]
  refine ⟨⟨_, k0⟩, w0, w1, w2, w3, w4, w5, w6, w7, w8, hs.free k0 hb, hs.free k1 hb, hs.free k2 hb, hs.free k3 hb, hs.free k4 hb, hs.free k5 hb, hs.free k6 hb, hs.free k7 hb, hs.free k8 hb, CurT.of s2 y2, Cur.of s8 y8, fun nm' => ?_⟩
  have r0 := hs.store k0 hb (Like.str _ nm')
  have r1 := r0.store k1 hb (Like.int .i64 _ 0)
  have r2 := r1.store k2 hb (Like.nil _ _ _)
  have r3 := r2.store k3 hb (Like.bool _ false)
  have r4 := r3.store k4 hb (Like.int .i64 _ 0)
  have r5 := r4.store k5 hb (Like.int .i64 _ 0)
  have r6 := r5.store k6 hb (Like.float .f64 _ 0)
  have r7 := r6.store k7 hb (Like.str _ ⟨#[]⟩)
  have r8 := r7.store k8 hb (Like.nil _ _ _)
  dsimp only [putNine]
  exact r8
set_option maxHeartbeats 8000000 in
theorem u_spoil7 {g : Gh} {hi : Nat} {l : List C} (hu : Under g.K hi) {W : World} {A : Option Addr} {c0 : Nat} (hh : hi ≤ W.heap.size) (hlm : l.length ≤ 140737488355328) (hc : VSim g (.sl true .none (encCL true l)) (.slice A l.length c0)) (hs : Spo g.K g.base W) :
    Calls Tryd.prog 33 #[.agg #[.slice A l.length c0]] W fun e W' => e = .returned (.tuple #[]) ∧ Spo g.K g.base W' ∧ Beside g.base hi W W' := by
  go_enter Tryd.func33, Tryd.ntmps33
  have ka := (Kept.refl W).alloc (.cells #[.slice A l.length c0] 31)
  have hw := heap_alloc_new W (.cells #[.slice A l.length c0] 31)
  go_wp2_with fail
  go_loopw [2] (fun u wr => ∃ j : Nat, u = .int .i64 j ∧ j ≤ l.length ∧ Spo g.K g.base wr ∧ Beside g.base hi W wr ∧ wr.heap[W.heap.size]? = some (.cells #[.slice A l.length c0] 31)) (fun u _ => l.length - (intOf u).toNat)
  case atStart => exact ⟨0, rfl, Nat.zero_le _, hs.kept ka, .of ka, hw⟩
  case round =>
    obtain ⟨j, rfl, hj, r1, r2, r3⟩ := hrel
    have dS := box1 r3
    by_cases hlt : j < l.length
    · obtain ⟨ad, c, nm, kd, B, m, d, hs', dk, di, df, dt, B2, m2, d2, rfl, hx, hb, ⟨v0, hv0⟩, c1, c2, c3, c4, c5, c6, c7, c8, c9, _, _, _, _, _, _, _, _, _, hcT, hcV, _⟩ := col_at hc r1 hlt
      have i0 : (0 : Int) ≤ (j : Int) := by omega
      have i1 : (j : Int) < (l.length : Int) := by omega
      have hbh : ad.block < hi := hu _ _ _ hv0
      have hwlt : W.heap.size < wr.heap.size := (Array.getElem?_eq_some_iff.1 r3).1
      have leT := hcT.len
      have leV := hcV.len
      have kc := (Kept.refl wr).alloc (.cells #[.string nm, .int .i64 kd, .slice B m d, .bool hs', .int .i64 dk, .int .i64 di, .float .f64 df, .string dt, .slice B2 m2 d2] 57)
      have gC := heap_alloc_new wr (.cells #[.string nm, .int .i64 kd, .slice B m d, .bool hs', .int .i64 dk, .int .i64 di, .float .f64 df, .string dt, .slice B2 m2 d2] 57)
      have q1 := r1.kept kc
      have q2 := r2.trans (.of kc)
      have r3A := (kc.block _ hwlt).trans r3
      obtain ⟨wA, hwA⟩ : ∃ wA, wA = wr.alloc (.cells #[.string nm, .int .i64 kd, .slice B m d, .bool hs', .int .i64 dk, .int .i64 di, .float .f64 df, .string dt, .slice B2 m2 d2] 57) := ⟨_, rfl⟩
      rw [← hwA] at gC q1 q2 r3A
      go_wp2_with fail
      go_loopw [4] (fun u wq => ∃ k : Nat, u = .int .i64 k ∧ k ≤ m ∧ Spo g.K g.base wq ∧ Beside g.base hi wA wq) (fun u _ => m - (intOf u).toNat)
      case atStart => exact ⟨0, rfl, Nat.zero_le _, by rw [← hwA]; exact q1, by rw [← hwA]; exact .refl _ _ _⟩
      case round =>
        obtain ⟨k, rfl, hkm, t1, t2⟩ := hrel
        have gC1 := t2.hi_ (Nat.le_trans hh (Nat.le_of_lt hwlt)) gC
        have dC := cells_cell gC1 2
        by_cases hk : k < m
        · obtain ⟨ad3, k3, B3, m3, d3, rfl, hb3, ⟨v3, hv3⟩, g0, g1, z0, z1, st⟩ := hcT.at_ t1 hk
          have i2 : (0 : Int) ≤ (k : Int) := by omega
          have i3 : (k : Int) < (m : Int) := by omega
          have n1 := two_cells (a := ad3.add (k * 2)) g1
          go_wp2_with fail
          go_roundw
          case rel =>
            have hbk : (ad3.add (k * 2)).block = ad3.block := add_block ..
            exact ⟨k + 1, by go_num, by omega, st 77, t2.two (by rw [hbk]; exact hb3) (by rw [hbk]; exact hu _ _ _ hv3) _ _⟩
          case measure => simp [intOf]; omega
        · have i3 : ¬ ((k : Int) < (m : Int)) := by omega
          go_wp2_with fail
          go_loopw [5] (fun u wq2 => ∃ k : Nat, u = .int .i64 k ∧ k ≤ m2 ∧ Spo g.K g.base wq2 ∧ Beside g.base hi wA wq2) (fun u _ => m2 - (intOf u).toNat)
          case atStart => exact ⟨0, rfl, Nat.zero_le _, t1, t2⟩
          case round =>
            obtain ⟨k2, rfl, hkm2, p1, p2⟩ := hrel
            clear dC gC1
            have gC1 := p2.hi_ (Nat.le_trans hh (Nat.le_of_lt hwlt)) gC
            have dC := cells_cell gC1 8
            by_cases hk2 : k2 < m2
            · obtain ⟨ad3, x3, k3, i3, f3, t3, B3', m3, d3', rfl, hx3, hb3, g0, g1, g2, g3, g4, _, v3, hv3⟩ := hcV.at_ p1 hk2
              have i4 : (0 : Int) ≤ (k2 : Int) := by omega
              have i5 : (k2 : Int) < (m2 : Int) := by omega
              obtain ⟨y0, y1, y2, y3, y4⟩ := hcV.thaw p1 hk2 rfl
              obtain ⟨n1, n2, n3, n4⟩ := five_cells g1 g2 g3 g4
              go_wp2_with fail
              go_roundw
              case rel =>
                have hbk : (ad3.add (k2 * 5)).block = ad3.block := add_block ..
                exact ⟨k2 + 1, by go_num, by omega, hcV.five p1 hk2 rfl 77 0 0 ⟨#[]⟩, p2.five (by rw [hbk]; exact hb3) (by rw [hbk]; exact hu _ _ _ hv3) _ _ _ _ _⟩
              case measure => simp [intOf]; omega
            · have i4 : ¬ ((k2 : Int) < (m2 : Int)) := by omega
              obtain ⟨ad', c', _, _, _, _, _, _, _, _, _, _, _, _, _, e2, _, _, _, g0, g1, g2, g3, g4, g5, g6, g7, g8, z0, z1, z2, z3, z4, z5, z6, z7, z8, _, _, st⟩ := col_at hc p1 hlt
              obtain rfl := Option.some.inj e2
              obtain ⟨n1, n2, n3, n4, n5, n6, n7, n8⟩ := nine_cells g1 g2 g3 g4 g5 g6 g7 g8
              have gS := p2.hi_ hh r3A
              have dS2 := box1 gS
              go_wp2_with fail
              go_roundw
              case rel =>
                have hbk : (ad.add (j * 9)).block = ad.block := add_block ..
                exact ⟨j + 1, by go_num, by omega, st ⟨#[64]⟩, (q2.trans p2).nine (by rw [hbk]; exact hb) (by rw [hbk]; exact hbh) _ _ _ _ _ _ _ _ _, (nine_block (by rw [hbk]; omega)).trans gS⟩
              case measure => simp [intOf]; omega
    · have i1 : ¬ ((j : Int) < (l.length : Int)) := by omega
      go_wp2_with fail
      exact bodyPost_end (v := .tuple #[]) (by simp [results, Tryd.results33]) rfl ⟨rfl, r1, r2⟩
theorem rowB7 : RowT Tryd.prog 40 5 1 1 := RowT.of (z := .int .u8 0) Tryd.underlying40 (by kernel_rfl) rfl (by omega)
def dCs (l : List UInt8) : List C := if 1024 < l.length then [] else match rdSch l with
  | .ok cs _ => cs
  | .no _ => []
def dE (l : List UInt8) : Int := if 1024 < l.length then 2 else match rdSch l with
  | .ok _ _ => 0
  | .no e => e
theorem wk_dec7 (e : Int) : Wk (.tup [.agg [.s (.slice none 0 0)], .s (.int .i64 e)]) (.tup [.agg [.sl true .none (encCL true [])], .s (.int .i64 e)]) := by
  refine Wks.tup rfl fun i x y hx hy => ?_
  match i, hx, hy with
  | 0, hx, hy =>
    obtain rfl : AV.agg [.s (.slice none 0 0)] = x := Option.some.inj hx
    obtain rfl : AV.agg [.sl true .none (encCL true [])] = y := Option.some.inj hy
    exact Wk.agg ⟨⟨Wk.nil _, rfl, rfl⟩, trivial⟩
  | 1, hx, hy =>
    obtain rfl : AV.s (.int .i64 e) = x := Option.some.inj hx
    obtain rfl : AV.s (.int .i64 e) = y := Option.some.inj hy
    exact .refl _
theorem wk_decR (l : List UInt8) : Wk (.tup (decR l)) (.tup [.agg [.sl true .none (encCL true (dCs l))], .s (.int .i64 (dE l))]) := by
  by_cases h : 1024 < l.length
  · have e1 : decR l = [.agg [.s (.slice none 0 0)], .s (.int .i64 2)] := by unfold decR; rw [if_pos h]
    have e2 : dCs l = [] := by unfold dCs; rw [if_pos h]
    have e3 : dE l = 2 := by unfold dE; rw [if_pos h]
    rw [e1, e2, e3]
    exact wk_dec7 2
  · rcases hr : rdSch l with ⟨cs, q⟩ | e
    · have e1 : decR l = [.agg [.sl true .none (encCL true cs)], .s (.int .i64 0)] := by unfold decR; rw [if_neg h, hr]
      have e2 : dCs l = cs := by unfold dCs; rw [if_neg h, hr]
      have e3 : dE l = 0 := by unfold dE; rw [if_neg h, hr]
      rw [e1, e2, e3]
      exact .refl _
    · have e1 : decR l = [.agg [.s (.slice none 0 0)], .s (.int .i64 e)] := by unfold decR; rw [if_neg h, hr]
      have e2 : dCs l = [] := by unfold dCs; rw [if_neg h, hr]
      have e3 : dE l = e := by unfold dE; rw [if_neg h, hr]
      rw [e1, e2, e3]
      exact wk_dec7 e
theorem VSim.len_CL {g : Gh} {o : Bool} {t : Tag} {l : List C} {x : Value} (h : VSim g (.sl o t (encCL o l)) x) : ∃ B d, x = .slice B l.length d ∧ l.length ≤ 140737488355328 := by
  obtain ⟨B, d, e, _, h2, _⟩ := VSim.elem (n := 9) h (encCL_lens o _) (by omega)
  rw [encCL_len] at e h2
  exact ⟨B, d, e, h2⟩
theorem u_Dec7 {l : List UInt8} {W : World} (hT : WorldOk W) {vs : List C} {e0 : Int} (hv : dCs l = vs) (he : dE l = e0) {A : Option Addr} {len c : Nat} (mb : VSim (gh0 W) (.sl false .none (encB l)) (.slice A len c)) :
    Calls Tryd.prog 31 #[.slice A len c] W fun e W' => Kept W W' ∧ ∃ B d K, e = .returned (.tuple #[.agg #[.slice B vs.length d], .int .i64 e0]) ∧ vs.length ≤ 140737488355328 ∧ Ans W W' (.sl true .none (encCL true vs)) (.slice B vs.length d) K := by
  subst hv he
  refine ((g_Decode l false).callsA hT (.cons mb .nil)).mono ?_
  rintro e W' ⟨hk, x, K, rfl, ha⟩
  obtain ⟨p, r, rfl, h1, h3⟩ := (ha.weak (wk_decR _)).two
  obtain ⟨y, rfl, h4⟩ := h1.one_
  obtain rfl := h3.lit
  obtain ⟨B, d, rfl, q2⟩ := h4.sim.len_CL
  exact ⟨hk, B, d, K, rfl, q2, h4⟩
theorem u_rDec7 {l : List UInt8} {W : World} (hT : WorldOk W) {vs : List C} {e0 : Int} (hv : dCs l = vs) (he : dE l = e0) {A : Option Addr} {len c : Nat} (mb : VSim (gh0 W) (.sl false .none (encB l)) (.slice A len c)) :
    Calls Tryd.prog 32 #[.slice A len c] W fun e W' => Kept W W' ∧ ∃ B d K, e = .returned (.tuple #[.agg #[.slice B vs.length d], .int .i64 e0]) ∧ vs.length ≤ 140737488355328 ∧ Ans W W' (.sl true .none (encCL true vs)) (.slice B vs.length d) K := by
  subst hv he
  refine ((g_rDecode l false).callsA hT (.cons mb .nil)).mono ?_
  rintro e W' ⟨hk, x, K, rfl, ha⟩
  obtain ⟨p, r, rfl, h1, h3⟩ := (ha.weak (wk_decR _)).two
  obtain ⟨y, rfl, h4⟩ := h1.one_
  obtain rfl := h3.lit
  obtain ⟨B, d, rfl, q2⟩ := h4.sim.len_CL
  exact ⟨hk, B, d, K, rfl, q2, h4⟩
theorem u_whole7 {W : World} (hT : WorldOk W) {vs : List C} {A B : Option Addr} {n c m d : Nat} (h1 : VSim (gh0 W) (.sl false .none (encCL false vs)) (.slice A n c)) (h2 : VSim (gh0 W) (.sl false .none (encCL false vs)) (.slice B m d)) :
    Calls Tryd.prog 19 #[.agg #[.slice A n c], .agg #[.slice B m d]] W fun e W' => e = .returned (.bool true) ∧ Kept W W' := by
  have c0 := g_whole vs vs false false
  rw [exCL_refl] at c0
  exact c0.calls hT (.cons (h1.mk1 rfl) (.cons (h2.mk1 rfl) .nil))
theorem u_same7 {W : World} (hT : WorldOk W) {l : List UInt8} {A B : Option Addr} {n c m d : Nat} (h1 : VSim (gh0 W) (.sl false .none (encB l)) (.slice A n c)) (h2 : VSim (gh0 W) (.sl false .none (encB l)) (.slice B m d)) :
    Calls Tryd.prog 30 #[.slice A n c, .slice B m d] W fun e W' => e = .returned (.bool true) ∧ Kept W W' := by
  have c0 := g_sameB l l false false
  rw [decide_eq_true rfl] at c0
  exact c0.calls hT (.cons h1 (.cons h2 .nil))
theorem noOwn_B (l : List UInt8) : NoOwn (.sl false .none (encB l)) := .sl _ _ fun x hx => by
  rw [encB_flat] at hx
  obtain ⟨b, _, rfl⟩ := List.mem_map.1 hx
  exact .s _
set_option maxHeartbeats 4000000 in
theorem l_SchemaDecodes {l : List UInt8} {W : World} {A : Option Addr} {len c : Nat} (hT : WorldOk W) (hl : l.length ≤ 140737488351232) (m1 : VSim (gh0 W) (.sl false .none (encB l)) (.slice A len c)) :
    Calls Tryd.prog 9 #[.slice A len c] W fun e W' => e = .returned (.bool true) ∧ Kept W W' := by
  obtain ⟨rfl, p0, hc⟩ := Bn.from0 m1
  have nb := noOwn_B l
  obtain ⟨vs, hv⟩ : ∃ vs, dCs l = vs := ⟨_, rfl⟩
  obtain ⟨e0, he⟩ : ∃ e0, dE l = e0 := ⟨_, rfl⟩
  have nv := noOwnCL vs
  go_enter Tryd.func9, Tryd.ntmps9
  have k0 := (Kept.refl W).alloc (.cells #[] 5)
  go_wp2_with (at_builtin; refine wpList_app0 rfl _ _ _ rfl rowB7 W.heap.size rfl (own_new W _ 1 0 _ rfl (by unfold maxLen; omega)) (cellsB l) rfl (Src.bytes (p0.kept k0).bs) (by unfold maxLen; omega) (by omega) k0.size ?_; intro A1 c1 w1 hown1 hg1 hat1)
  have k1 : Kept W w1 := k0.app (own_new W _ 1 0 _ rfl (by unfold maxLen; omega)) (Nat.le_refl _) hg1
  have p1 : Bn w1 A1 l := Bn.own hown1
  have hc1 := own_cap hown1
  have hlm : l.length ≤ 140737488355328 := by omega
  have mi1 := p1.sim hc1 hlm false rfl
  clear hown1 hg1 hat1 k0
  refine (u_Dec7 (hT.kept k1) hv he (m1.kept0 nb k1)).mono ?_
  rintro e w2 ⟨k2, B, d, K2, rfl, lm2, a2⟩
  have gR := heap_alloc_new w2 (.cells #[.slice B vs.length d] 31)
  have jR := (Kept.refl w2).alloc (.cells #[.slice B vs.length d] 31)
  have h2 := k2.trans jR
  go_wp2_with fail
  refine (u_rDec7 (hT.kept (k1.trans h2)) hv he (mi1.kept0 nb h2)).mono ?_
  rintro e w3 ⟨k3, B3, d3, K3, rfl, lm3, a3⟩
  have gQ := heap_alloc_new w3 (.cells #[.slice B3 vs.length d3] 31)
  have jQ := (Kept.refl w3).alloc (.cells #[.slice B3 vs.length d3] 31)
  have h3 := k3.trans jQ
  have cR := box1 (kept_box gR h3)
  have cQ := box1 gQ
  go_wp2_with fail
  clear cR cQ
  refine (u_whole7 (hT.kept ((k1.trans h2).trans h3)) (a2.kept (wk_freeCL _) nv (jR.trans h3)) (a3.kept (wk_freeCL _) nv jQ)).mono ?_
  rintro e w4 ⟨rfl, k4⟩
  have h4 := (h2.trans h3).trans k4
  go_wp2_with fail
  refine (u_same7 (hT.kept (k1.trans h4)) (m1.kept0 nb (k1.trans h4)) (mi1.kept0 nb h4)).mono ?_
  rintro e w5 ⟨rfl, k5⟩
  have z5 := ((jR.trans h3).trans k4).trans k5
  have s5 := (Spo.start a2.hK a2.hN).kept z5
  have u5 := Under.of a2.hK
  have y5 := h4.trans k5
  have z35 := (jQ.trans k4).trans k5
  have gR5 := kept_box gR ((h3.trans k4).trans k5)
  have gQ5 := kept_box gQ (k4.trans k5)
  have h23 := (jR.trans k3).size
  have cR := box1 gR5
  go_wp2_with fail
  clear cR
  refine (u_spoil7 u5 z5.size lm2 a2.sim s5).mono ?_
  rintro e w6 ⟨rfl, _, r2⟩
  have K15 := r2.kept w1 (Nat.le_refl _) y5
  have K05 := k1.trans K15
  have gQ := r2.hi_ h23 gQ5
  have m3 := a3.own (allOwn_CL _) (wk_freeCL _) nv (fun b h1 h2 => (r2.block b (Nat.le_trans jR.size h1) (Nat.lt_of_lt_of_le h2 z35.size)).trans (z35.block b h2))
  go_wp2_with fail
  refine (u_Dec7 (hT.kept K05) hv he (m1.kept0 nb K05)).mono ?_
  rintro e w7 ⟨k7, B7, d7, K7, rfl, lm7, a7⟩
  have gP := heap_alloc_new w7 (.cells #[.slice B7 vs.length d7] 31)
  have jP := (Kept.refl w7).alloc (.cells #[.slice B7 vs.length d7] 31)
  go_wp2_with fail
  refine (g_live.calls (hT.kept (K05.trans (k7.trans jP))) .nil).mono ?_
  rintro e w8 ⟨rfl, k8⟩
  have kz := (k7.trans jP).trans k8
  have cP := box1 (kept_box gP k8)
  have cQ := box1 (kept_box gQ kz)
  go_wp2_with fail
  refine (u_whole7 (hT.kept (K05.trans kz)) (a7.kept (wk_freeCL _) nv (jP.trans k8)) (m3.kept0 nv kz)).mono ?_
  rintro e w9 ⟨rfl, k9⟩
  go_wp2_with fail
  go_ret
  exact ⟨rfl, (K05.trans kz).trans k9⟩
end Go.Proofs.YtbnfdglfakaohaaDoor
