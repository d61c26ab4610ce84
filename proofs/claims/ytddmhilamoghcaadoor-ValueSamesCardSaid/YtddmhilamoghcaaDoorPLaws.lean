/- The laws of values, plainly: being the same is having the same fixed form. No program. -/
import Derived.Test.YtddmhilamoghcaaDoorMapPure
import Derived.Test.YtddmhilamoghcaaDoorCheckPure
import Derived.Test.YtddmhilamoghcaaDoorExPure
set_option linter.unusedVariables false
set_option linter.unusedSimpArgs false
namespace Go.Proofs.YtddmhilamoghcaaDoor
open Go
mutual
theorem sameV_iff : ∀ a b : V, sameV a b = true ↔ mapV fixB a = mapV fixB b
  | .mk k i f t l, .mk k' i' f' t' l' => by simp [sameV, mapV, sameL_iff l l', and_assoc]
theorem sameL_iff : ∀ l m : List V, sameL l m = true ↔ mapL fixB l = mapL fixB m
  | [], [] => by simp [sameL, mapL]
  | x :: l, y :: m => by simp [sameL, mapL, sameV_iff x y, sameL_iff l m]
  | [], _ :: _ => by simp [sameL, mapL]
  | _ :: _, [] => by simp [sameL, mapL]
end
mutual
theorem exV_iff : ∀ a b : V, exV a b = true ↔ a = b
  | .mk k i f t l, .mk k' i' f' t' l' => by
    simp [exV, exL_iff l l', and_assoc]
    intro _ _
    exact ⟨fun ⟨a, b, c⟩ => ⟨b, a, c⟩, fun ⟨a, b, c⟩ => ⟨b, a, c⟩⟩
theorem exL_iff : ∀ l m : List V, exL l m = true ↔ l = m
  | [], [] => by simp [exL]
  | x :: l, y :: m => by simp [exL, exV_iff x y, exL_iff l m]
  | [], _ :: _ => by simp [exL]
  | _ :: _, [] => by simp [exL]
end
mutual
theorem map2 : ∀ a : V, mapV fixB (mapV fixB a) = mapV fixB a
  | .mk k i f t l => by simp [mapV, fixB_fixB, map2L l]
theorem map2L : ∀ l : List V, mapL fixB (mapL fixB l) = mapL fixB l
  | [] => by simp [mapL]
  | x :: l => by simp [mapL, map2 x, map2L l]
end
theorem mapL_length (g : Nat → Nat) (l : List V) : (mapL g l).length = l.length := by rw [mapL_eq, List.length_map]
theorem ownP_map (k i : Int) (f : Nat) (t : ByteArray) (l : List V) : ownP (.mk k i (fixB f) t (mapL fixB l)) ↔ ownP (.mk k i f t l) := by
  simp only [ownP, V.kind_mk, V.int_mk, V.float_mk, V.text_mk, V.items_mk, fixB_fixB, mapL_length]
mutual
theorem chk_map : ∀ (a : V) (d : Nat), chk (mapV fixB a) d = chk a d
  | .mk k i f t l, d => by
    rw [mapV, chk_eq, chk_eq, chks_map l, mapL_length]
    simp only [ownP_map]
theorem chks_map : ∀ (l : List V) (d : Nat), chks (mapL fixB l) d = chks l d
  | [], d => by rw [mapL]
  | x :: l, d => by rw [mapL, chks, chks, chk_map x, chks_map l]
end
mutual
theorem rank_map (g : Nat → Nat) : ∀ a : V, (mapV g a).rank = a.rank
  | .mk k i f t l => by simp only [mapV, V.rank, ranks_map g l]
theorem ranks_map (g : Nat → Nat) : ∀ l : List V, V.ranks (mapL g l) = V.ranks l
  | [] => by simp [mapL, V.ranks]
  | x :: l => by simp [mapL, V.ranks, rank_map g x, ranks_map g l]
end
theorem sameV_refl (a : V) : sameV a a = true := (sameV_iff _ _).2 rfl
theorem sameL_refl (a : List V) : sameL a a = true := (sameL_iff _ _).2 rfl
theorem sameV_symm (a b : V) : sameV b a = sameV a b := by
  apply Bool.eq_iff_iff.2
  rw [sameV_iff, sameV_iff]
  exact ⟨Eq.symm, Eq.symm⟩
theorem sameV_on (a b c : V) (h : sameV a b = true) : sameV b c = sameV a c := by
  apply Bool.eq_iff_iff.2
  rw [sameV_iff, sameV_iff, (sameV_iff _ _).1 h]
theorem sameV_fix (a : V) : sameV (mapV fixB a) a = true := (sameV_iff _ _).2 (map2 a)
theorem exV_refl' (a : V) : exV a a = true := (exV_iff _ _).2 rfl
theorem chk_same (a b : V) (d : Nat) (h : sameV a b = true) : chk a d = chk b d := by rw [← chk_map a, ← chk_map b, (sameV_iff _ _).1 h]
end Go.Proofs.YtddmhilamoghcaaDoor
