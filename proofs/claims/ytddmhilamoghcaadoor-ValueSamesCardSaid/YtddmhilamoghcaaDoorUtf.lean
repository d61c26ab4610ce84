/- value.Utf. -/
import Derived.Test.YtddmhilamoghcaaDoorBase2
import Derived.Test.YtddmhilamoghcaaDoorUtfPure
import Derived.Test.YtddmhilamoghcaaDoorInit
import Derived.Test.YtddmhilamoghcaaDoorShelf
import Derived.Lib.OthersKept
set_option linter.unusedVariables false
set_option linter.unusedSimpArgs false
namespace Go.Proofs.YtddmhilamoghcaaDoor
open Go.RowKit

theorem get_extract (s : ByteArray) (i k : Nat) (h : i + k < s.size) : (s.extract i s.size).get! k = s.get! (i + k) := by
  have h1 : k < (s.extract i s.size).size := by simp [ByteArray.size_extract]; omega
  rw [Utf8W.get!_of_lt _ _ h1, Utf8W.get!_of_lt _ _ h]
  simp [ByteArray.getElem_extract]
theorem decode_extract (s : ByteArray) (i : Nat) (h : i < s.size) : Lib.decodeGo (s.extract i s.size) = Utf8.decode s i := by
  have hs : (s.extract i s.size).size = s.size - i := by simp [ByteArray.size_extract]
  unfold Lib.decodeGo
  rw [if_neg (by omega), Lib.decode_at, Lib.decode_at, hs, get_extract s i 0 (by omega)]
  simp only [Nat.zero_add, Nat.add_zero, Nat.sub_zero]
  by_cases h1 : i + 1 < s.size
  · rw [get_extract s i 1 h1]
    by_cases h2 : i + 2 < s.size
    · rw [get_extract s i 2 h2]
      by_cases h3 : i + 3 < s.size
      · rw [get_extract s i 3 h3]
      · have : ¬ 3 < s.size - i := by omega
        simp only [Lib.decodeN, this, false_and, and_false, if_false]
    · have : ¬ 3 < s.size - i := by omega
      have : ¬ 2 < s.size - i := by omega
      simp only [Lib.decodeN, *, false_and, and_false, if_false]
  · have : ¬ 3 < s.size - i := by omega
    have : ¬ 2 < s.size - i := by omega
    have : ¬ 1 < s.size - i := by omega
    simp only [Lib.decodeN, *, false_and, and_false, if_false]
theorem width_pos (s : ByteArray) (pos : Nat) (h : pos < s.size) : 1 ≤ (Utf8.decode s pos).2 := by
  by_cases ha : (s[pos]'h).toNat < 128
  · rw [decode_ascii s pos h ha]
    exact Nat.le_refl _
  · exact (decode_high s pos h (by omega)).2

set_option maxRecDepth 20000 in
set_option maxHeartbeats 1000000 in
theorem value_Utf (s : ByteArray) (w : World) (hT : Tabs w) (hs : s.size ≤ 9223372036854775807) : Calls Tryd.prog 19 #[.string s] w fun e w' => e = .returned (.bool (utf s)) ∧ Kept w w' := by
  go_enter Tryd.func19, Tryd.ntmps19
  go_wp2_with fail
  go_loopw [] (fun w' => ∃ pos : Nat, w'.heap[w.heap.size]? = some (.stringIter s pos) ∧ Hid (utfFrom s 0 = utfFrom s pos) ∧ Kept w w') (fun w' => s.size - w'.iterPos w.heap.size)
  case atStart => exact ⟨0, w.iter_heap s 0, Lib.hid rfl, (Kept.refl w).alloc _⟩
  case round =>
    obtain ⟨pos, hk, HU, hK⟩ := hrel
    have ips : ∀ (x : World) (p : Nat), x.heap[w.heap.size]? = some (.stringIter s p) → x.iterPos w.heap.size = p := fun x p h => by simp [World.iterPos, h]
    by_cases hp : pos < s.size
    · have hwd := width_pos s pos hp
      have hst := stepAt_decode s pos
      have hsl := stepAt_le s pos hp
      have hde := decode_extract s pos hp
      obtain ⟨R, hR⟩ : ∃ R, (Utf8.decode s pos).1 = R := ⟨_, rfl⟩
      obtain ⟨N, hN⟩ : ∃ N, (Utf8.decode s pos).2 = N := ⟨_, rfl⟩
      have hnx : ∀ ty, (Instr.next (.pointer (some ⟨w.heap.size, 0, none⟩)) true ty).run Tryd.prog wr = _ := fun ty => Lib.run_next_any_at wr w.heap.size s pos ty hk hp
      have hk1 := Lib.iterAt_heap wr w.heap.size s pos (pos + N) hk
      have hK1 : Kept w (wr.iterAt w.heap.size s (pos + N)) := Lib.below_iterAt hK (Nat.le_refl _) s _
      rw [hR, hN] at hst
      rw [hN] at hwd
      rw [hR, hN] at hnx
      have hd1 : Hid ((Lib.decodeGo (s.extract pos s.size)).1 = R) := by rw [hde]; exact hR
      have hd2 : Hid ((Lib.decodeGo (s.extract pos s.size)).2 = N) := by rw [hde]; exact hN
      have HS := Lib.hid hst
      clear hst hR hN hde
      have hp0 : (0 : Int) ≤ (pos : Int) := by omega
      have hp1 : (pos : Int) ≤ (s.size : Int) := by omega
      by_cases h65 : R = 65533
      · have hb : ((R : Int) == 65533) = true := by subst h65; rfl
        have H65 := Lib.hid h65
        clear h65
        go_wp2_with fail
        refine (Tryd.utf8_DecodeRuneInString (s.extract pos s.size) _ (hT.kept hK1)).mono ?_
        rw [hd1.out, hd2.out]
        rintro e w2 ⟨rfl, hB⟩
        have hK2 : Kept w w2 := hK1.trans hB
        have hk2 : w2.heap[w.heap.size]? = some (.stringIter s (pos + N)) := (hB.block w.heap.size (Array.getElem?_eq_some_iff.1 hk1).1).trans hk1
        by_cases h1 : N = 1
        · subst h1
          have h0 : stepAt s pos = 0 := by rw [HS.out, if_pos ⟨H65.out, rfl⟩]
          go_wp2_with fail
          go_ret
          exact ⟨by unfold utf; rw [HU.out, utfFrom_bad s pos hp h0]; rfl, hK2⟩
        · have h0 : stepAt s pos = N := by rw [HS.out, if_neg (fun h => h1 h.2)]
          have hc : ((N : Int) == 1) = false := beq_eq_false_iff_ne.2 (by omega)
          clear h1
          go_wp2_with fail
          refine ⟨⟨pos + N, hk2, Lib.hid (by rw [HU.out, utfFrom_on s pos hp (by omega), h0]), hK2⟩, ?_⟩
          rw [ips _ _ hk2, ips _ _ hk]
          omega
      · have hb : ((R : Int) == 65533) = false := beq_eq_false_iff_ne.2 (by omega)
        have H65 := Lib.hid h65
        clear h65
        go_wp2_with fail
        have h0 : stepAt s pos = N := by rw [HS.out, if_neg (fun h => H65.out h.1)]
        refine ⟨⟨pos + N, hk1, Lib.hid (by rw [HU.out, utfFrom_on s pos hp (by omega), h0]), hK1⟩, ?_⟩
        rw [ips _ _ hk1, ips _ _ hk]
        omega
    · have hnx : ∀ ty, (Instr.next (.pointer (some ⟨w.heap.size, 0, none⟩)) true ty).run Tryd.prog wr = _ := fun ty => Lib.run_next_end_at wr w.heap.size s pos ty hk hp
      go_wp2_with fail
      go_ret
      exact ⟨by unfold utf; rw [HU.out, utfFrom_end s pos hp]; rfl, hK⟩
end Go.Proofs.YtddmhilamoghcaaDoor
