/- The row of the law LebBack of layer 03: for every input the call answers true, and each argument reads behind the call as it read before. Condition: what the arguments hold together is of bulk at most 1048576. -/
import Derived.Test.YtgpniihkggffeaaRows
import Derived.Test.YtgpniihkggffeaaRow
import Derived.Test.YtgpniihkggffeaaLebBack
import Derived.Test.YtgpniihkggffeaaBulk
import Derived.Deep.CondSized
import Derived.JoinedCond
import Derived.Lib.SmallJoins
set_option linter.unusedVariables false
set_option linter.unusedSimpArgs false
namespace Go.Proofs.Ytgpniihkggffeaa.lebBack
open Go.ChangeShapes Go.WideShapes Go.ChangeAt Go.RowKit
open Go.ChangeMaps (open_string shut_string)
theorem own : ownKnob Try.prog.godebug = none := by kernel_rfl
theorem laidOut : laidOutB Try.prog = true := by kernel_rfl
set_option maxRecDepth 100000 in
theorem lifted (os : Os) (started : os.Started) (H : Type) (enc : TypeId × Value → H) (F : Stop.Interp) :
    ReturnsInHanded {} Try.checked os 7 .any ((Rows.OpenSpec.upto Rows.lebBackSpec).pre6 enc Try.prog Try.f7 Rows.lebBackUptoRow.domain false) (((Rows.OpenSpec.upto Rows.lebBackSpec).at F).post enc Try.prog Try.f7 false true false false) := by
  refine returnsInHanded_of_cond_sized (C := Try.checked) (s := (Rows.OpenSpec.upto Rows.lebBackSpec)) (k := Rows.uptoSmall) rfl own started (by kernel_rfl) Try.func7
    (OpenSpec.witness (enc := enc) (C := Try.checked) (s := (Rows.OpenSpec.upto Rows.lebBackSpec)) (k := Rows.uptoSmall) rfl false ⟨#[], #[.agg #[.int .u64 0, .slice none 0 0, .slice none 0 0, .int .i64 0]], []⟩ 8 (by kernel_rfl) (by kernel_rfl) (by kernel_rfl)
      (x := ([.agg [.lit (.int .u64 0), .nil, .nil, .lit (.int .i64 0)]], [], [])) (by kernel_rfl) rfl (by kernel_rfl)) ?_
  intro W base args ds gs before hval0 hW hcnd hk hsz _
  have hval : ∀ (j : Nat) t v, Try.f7.params[j]? = some t → args[j]? = some v → Value.okWide Try.prog W .any base t v := hval0
  have hW' := hW
  obtain ⟨p, q, hA0, hV, rfl, hfz, hnd⟩ := hW
  have hA : DataW.TrodAll enc Try.prog W 0 (fun _ => true) true Try.f7.params.toList args.toList ds p := hA0
  rw [Try.params7] at hA hval hsz
  obtain ⟨v0, vs0, d0, ds0, p0, q0, hargs, rfl, rfl, h0, r0⟩ := trodAll_cons hA
  obtain ⟨rfl, rfl, rfl⟩ := trodAll_nil r0
  obtain rfl : args = #[v0] := by cases args; simp_all
  obtain ⟨rfl, rfl⟩ := trodVars_none hV
  have k0 := h0
  have lt0 : ∀ x ∈ p0, x.block < W.heap.size := by obtain ⟨m, hm⟩ := k0; exact DataW.trod_lt m _ _ _ hm
  obtain ⟨c0, c1, c2, c3, y0, y1, y2, y3, m, rfl, rfl, rfl, hy0, hy1, hy2, hy3⟩ := Go.Joins.open_agg4 Try.underlying37 (by kernel_rfl) (by kernel_rfl) (hval 0 37 v0 rfl rfl) h0
  obtain ⟨z0, e0, rfl, w0⟩ := DataW.trod_int Try.underlying23 hy0
  obtain ⟨z3, e3, rfl, w3⟩ := DataW.trod_int Try.underlying3 hy3
  simp at e0 e3
  subst e0 e3
  obtain ⟨n, rfl, hn⟩ := u64_of_wf w0
  obtain ⟨A1, cap1, l1, rfl, lc1, b1, ec1⟩ := open_bytes_cell Try.underlying22 Try.underlying5 (by kernel_rfl) hy1
  obtain ⟨A2, cap2, l2, rfl, lc2, b2, ec2⟩ := open_bytes_cell Try.underlying22 Try.underlying5 (by kernel_rfl) hy2
  have hbulk : l1.length + l2.length ≤ 2097152 := by
    have h : Rows.uptoBulkAll [DataW.agg (H := H) [.lit (.int .u64 n), y1.1, y2.1, .lit (.int .i64 z3)]] ≤ 1048576 := of_decide_eq_true hk
    simp only [Rows.uptoBulkAll, Rows.uptoBulk] at h
    have g1 : cap1 ≤ Rows.uptoBulk y1.1 := by
      rcases ec1 with h1 | ⟨el, sp, h1, h2⟩
      · omega
      · rw [h1]; have := bulk_slice el sp; omega
    have g2 : cap2 ≤ Rows.uptoBulk y2.1 := by
      rcases ec2 with h1 | ⟨el, sp, h1, h2⟩
      · omega
      · rw [h1]; have := bulk_slice el sp; omega
    omega
  clear hA0 hval0
  refine (LebBack_walk n z3 W hn A1 A2 cap1 cap2 l1 l2 b1 b2 lc1 lc2 hbulk).mono fun e W' ⟨he, bel⟩ => ?_
  subst he
  exact ⟨_, rfl, _, _, _, [], _, [], hW', trodAll_mk1 (shut_bool Try.underlying4 _), (trodAll_cons_mk (Below.trod laidOut (by kernel_rfl) (of_decide_eq_true (by kernel_rfl)) k0 bel lt0) trodAll_mk0), rfl, bel.frame _, fun h => by cases h⟩

/-- The statement. -/
theorem lebBack_holds : Rows.LebBackUptoSaid :=
  OpenClaim.holds_of_cond 7 Try.f7 rfl rfl rfl rfl rfl rfl rfl ⟨rfl, rfl, rfl, rfl, rfl⟩ rfl rfl rfl rfl rfl (by kernel_rfl) Try.func7 (by kernel_rfl)
    (of_decide_eq_true (by kernel_rfl)) (by unfold Func.isWrapper; first | (rw [if_pos (by decide +kernel)]; kernel_rfl) | (rw [if_neg (by decide +kernel)]; exact ⟨rfl, rfl⟩))
    (fun os started H enc _ F => lifted os started H enc F)
#print axioms lebBack_holds
end Go.Proofs.Ytgpniihkggffeaa.lebBack
