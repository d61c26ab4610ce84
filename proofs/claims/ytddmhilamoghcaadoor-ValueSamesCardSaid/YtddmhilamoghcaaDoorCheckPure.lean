/- Why a value may not be. No program. -/
import Derived.Test.YtddmhilamoghcaaDoorValPure
import Derived.Test.YtddmhilamoghcaaDoorUtfPure
set_option linter.unusedVariables false
set_option linter.unusedSimpArgs false
namespace Go.Proofs.YtddmhilamoghcaaDoor

mutual
def chk : V → Nat → Int
  | .mk k i f t l, d => if 4 < d then 62 else if ¬ ownP (.mk k i f t l) then 60 else if 1024 < t.size then 2 else if 256 < l.length then 3 else if k = 4 ∧ utf t = false then 61 else chks l (d + 1)
def chks : List V → Nat → Int
  | [], _ => 0
  | x :: l, d => if chk x d = 0 then chks l d else chk x d
end
theorem chk_eq (k i : Int) (f : Nat) (t : ByteArray) (l : List V) (d : Nat) : chk (.mk k i f t l) d = if 4 < d then 62 else if ¬ ownP (.mk k i f t l) then 60 else if 1024 < t.size then 2 else if 256 < l.length then 3 else if k = 4 ∧ utf t = false then 61 else chks l (d + 1) := by
  rw [chk]
theorem chks_zero : ∀ (l : List V) (d : Nat), (∀ (i : Nat) (x : V), l[i]? = some x → chk x d = 0) → chks l d = 0
  | [], d, h => by rw [chks]
  | x :: l, d, h => by
    rw [chks, if_pos (h 0 x rfl)]
    exact chks_zero l d (fun i y hy => h (i + 1) y (by simpa using hy))
theorem chks_at : ∀ (l : List V) (d k : Nat) (x : V), (∀ (i : Nat) (x : V), i < k → l[i]? = some x → chk x d = 0) → l[k]? = some x → chk x d ≠ 0 → chks l d = chk x d
  | [], d, k, x, _, h, _ => by simp at h
  | y :: l, d, 0, x, _, h, hn => by
    obtain rfl : y = x := by simpa using h
    rw [chks, if_neg hn]
  | y :: l, d, k + 1, x, hz, h, hn => by
    rw [chks, if_pos (hz 0 y (by omega) rfl)]
    exact chks_at l d k x (fun i z hi hz' => hz (i + 1) z (by omega) (by simpa using hz')) (by simpa using h) hn
end Go.Proofs.YtddmhilamoghcaaDoor
