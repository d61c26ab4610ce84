/- Merged: Shelf, Utf, UtfRef. -/
import Derived.Test.YtknpaooloambdaaDoorZ20
import Derived.Shelf.Strconv.Itoa0
import Derived.Shelf.Unicode.Decode
import Derived.Shelf.Unicode.DecodeSlow
import Derived.Shelf.Unicode.DecodeAny
import Derived.Test.YtknpaooloambdaaDoorProg
import Derived.Lib.OthersKept
import Derived.Deep.CutBlock
/-
  DERIVED: THE SHELF's CONTRACTS AT THIS DUMP, IN PLAIN WORDS (tools/lay-plain.mjs out of 'TrydShelf.lean', which tools/lay-shelf.mjs wrote): THE SAME DECLARATIONS UNDER THE SAME NAMES: 'import', 'namespace', 'open', 'def', 'theorem' AND NOTHING ELSE: no command of the shelf's: FOR A HAND-IN. Each laying: the table of numbers ('.._ren') and one theorem, a field a fact of the dump's own or the kernel's comparison; each contract: ONE APPLICATION.
-/
namespace Go.Proofs
open Go.Shelf
def Tryd.lays129_ren : Go.Shelf.Ren := ⟨fun | 129 => 103 | n => n, fun | 53 => 67 | 3 => 3 | 4 => 4 | 46 => 109 | 5 => 5 | 9 => 9 | n => n, fun | n => n⟩
theorem Tryd.lays129 : Go.Proofs.Lays.n129 Tryd.prog Tryd.lays129_ren := {
  mixed := by kernel_rfl
  f129 := Tryd.func103.trans (congrArg some (by kernel_rfl))
  t3 := Tryd.underlying3
  a3 := Tryd.isAgg3
  z3 := Tryd.sizeOf3
  v3 := Tryd.zeroValue3
  t4 := Tryd.underlying4
  a4 := Tryd.isAgg4
  z4 := Tryd.sizeOf4
  v4 := Tryd.zeroValue4
  t5 := Tryd.underlying5
  a5 := Tryd.isAgg5
  z5 := Tryd.sizeOf5
  v5 := Tryd.zeroValue5
  t9 := Tryd.underlying9
  a9 := Tryd.isAgg9
  z9 := Tryd.sizeOf9
  v9 := Tryd.zeroValue9
  t46 := Tryd.underlying109
  a46 := Tryd.isAgg109
  z46 := Tryd.sizeOf109
  v46 := Tryd.zeroValue109
  t53 := Tryd.underlying67
  a53 := Tryd.isAgg67
  z53 := Tryd.sizeOf67
  v53 := Tryd.zeroValue67 }
/-- bits.Len64: "Len64 returns the minimum number of bits required to represent x; the result is 0 for x == 0.": IT RETURNS 'Lib.bitLen x'; the world is as it was. ('h0', 'h1': x is a uint64.) (LAID: no walk: one application.) -/
theorem Tryd.bits_Len64 (x : Int) (w : World) (h0 : 0 ≤ x) (h1 : x ≤ 18446744073709551615) :
    Calls Tryd.prog 103 #[.int .u64 x] w fun e w' => e = .returned (.int .i64 (Lib.bitLen x.toNat)) ∧ w' = w := Any.bits_Len64 Tryd.lays129 x w h0 h1
def Tryd.lays197_ren : Go.Shelf.Ren := ⟨fun | 197 => 95 | 260 => 102 | n => n, fun | 9 => 9 | 21 => 21 | 3 => 3 | 4 => 4 | 5 => 5 | 105 => 106 | 119 => 111 | 0 => 0 | 46 => 109 | 139 => 114 | 138 => 113 | n => n, fun | 3 => 1 | 4 => 2 | n => n⟩
theorem Tryd.lays197 : Go.Proofs.Lays.n197 Tryd.prog Tryd.lays197_ren := {
  mixed := by kernel_rfl
  f197 := Tryd.func95.trans (congrArg some (by kernel_rfl))
  f260 := Tryd.func102.trans (congrArg some (by kernel_rfl))
  t0 := Tryd.underlying0
  a0 := Tryd.isAgg0
  z0 := Tryd.sizeOf0
  v0 := Tryd.zeroValue0
  t3 := Tryd.underlying3
  a3 := Tryd.isAgg3
  z3 := Tryd.sizeOf3
  v3 := Tryd.zeroValue3
  t4 := Tryd.underlying4
  a4 := Tryd.isAgg4
  z4 := Tryd.sizeOf4
  v4 := Tryd.zeroValue4
  t5 := Tryd.underlying5
  a5 := Tryd.isAgg5
  z5 := Tryd.sizeOf5
  v5 := Tryd.zeroValue5
  t9 := Tryd.underlying9
  a9 := Tryd.isAgg9
  z9 := Tryd.sizeOf9
  v9 := Tryd.zeroValue9
  t21 := Tryd.underlying21
  a21 := Tryd.isAgg21
  z21 := Tryd.sizeOf21
  v21 := Tryd.zeroValue21
  t46 := Tryd.underlying109
  a46 := Tryd.isAgg109
  z46 := Tryd.sizeOf109
  v46 := Tryd.zeroValue109
  t105 := Tryd.underlying106
  a105 := Tryd.isAgg106
  z105 := Tryd.sizeOf106
  v105 := Tryd.zeroValue106
  t119 := Tryd.underlying111
  a119 := Tryd.isAgg111
  z119 := Tryd.sizeOf111
  t138 := Tryd.underlying113
  a138 := Tryd.isAgg113
  z138 := Tryd.sizeOf113
  v138 := Tryd.zeroValue113
  t139 := Tryd.underlying114
  a139 := Tryd.isAgg114
  z139 := Tryd.sizeOf114
  v139 := Tryd.zeroValue114
  g3 := by kernel_rfl
  g4 := by kernel_rfl }
open Go.RowKit Go.Lib in
/-- unicode/utf8.DecodeRuneInString: "DecodeRuneInString is like DecodeRune but its input is a string.": ("DecodeRune unpacks the first UTF-8 encoding in p and returns the rune and its width in bytes."): WHERE s BEGINS WITH AN ASCII BYTE x: (x, 1). (LAID: no walk: one application.) -/
theorem Tryd.utf8_DecodeRuneInString_ascii (s : ByteArray) (x : UInt8) (w : World) (h0 : s.data.toList[0]? = some x) (hx : x.toNat < 128) :
    Calls Tryd.prog 95 #[.string s] w fun e w' => e = .returned (.tuple #[.int .i32 x.toNat, .int .i64 1]) ∧ w' = w := Any.utf8_DecodeRuneInString_ascii Tryd.lays197 s x w h0 hx
def Tryd.lays260_ren : Go.Shelf.Ren := ⟨fun | 260 => 102 | n => n, fun | 9 => 9 | 21 => 21 | 3 => 3 | 4 => 4 | 5 => 5 | 119 => 111 | 0 => 0 | 46 => 109 | 139 => 114 | 138 => 113 | n => n, fun | 3 => 1 | 4 => 2 | n => n⟩
theorem Tryd.lays260 : Go.Proofs.Lays.n260 Tryd.prog Tryd.lays260_ren := {
  mixed := by kernel_rfl
  f260 := Tryd.func102.trans (congrArg some (by kernel_rfl))
  t0 := Tryd.underlying0
  a0 := Tryd.isAgg0
  z0 := Tryd.sizeOf0
  v0 := Tryd.zeroValue0
  t3 := Tryd.underlying3
  a3 := Tryd.isAgg3
  z3 := Tryd.sizeOf3
  v3 := Tryd.zeroValue3
  t4 := Tryd.underlying4
  a4 := Tryd.isAgg4
  z4 := Tryd.sizeOf4
  v4 := Tryd.zeroValue4
  t5 := Tryd.underlying5
  a5 := Tryd.isAgg5
  z5 := Tryd.sizeOf5
  v5 := Tryd.zeroValue5
  t9 := Tryd.underlying9
  a9 := Tryd.isAgg9
  z9 := Tryd.sizeOf9
  v9 := Tryd.zeroValue9
  t21 := Tryd.underlying21
  a21 := Tryd.isAgg21
  z21 := Tryd.sizeOf21
  v21 := Tryd.zeroValue21
  t46 := Tryd.underlying109
  a46 := Tryd.isAgg109
  z46 := Tryd.sizeOf109
  v46 := Tryd.zeroValue109
  t119 := Tryd.underlying111
  a119 := Tryd.isAgg111
  z119 := Tryd.sizeOf111
  t138 := Tryd.underlying113
  a138 := Tryd.isAgg113
  z138 := Tryd.sizeOf113
  v138 := Tryd.zeroValue113
  t139 := Tryd.underlying114
  a139 := Tryd.isAgg114
  z139 := Tryd.sizeOf114
  v139 := Tryd.zeroValue114
  g3 := by kernel_rfl
  g4 := by kernel_rfl }
open Go.RowKit Go.Lib in
theorem Tryd.utf8_decodeRuneInStringSlow (s : ByteArray) (w : World) (hT : Lib.Utf8Tabs 1 2 w) :
    Calls Tryd.prog 102 #[.string s] w fun e w' => e = .returned (.tuple #[.int .i32 (Lib.decodeGo s).1, .int .i64 (Lib.decodeGo s).2]) ∧ Below w.heap.size w w' := Any.utf8_decodeRuneInStringSlow Tryd.lays260 s w hT
open Go.RowKit Go.Lib in
/-- **unicode/utf8.DecodeRuneInString AT EVERY STRING.** (LAID: no walk: one application.) -/
theorem Tryd.utf8_DecodeRuneInString (s : ByteArray) (w : World) (hT : Lib.Utf8Tabs 1 2 w) :
    Calls Tryd.prog 95 #[.string s] w fun e w' => e = .returned (.tuple #[.int .i32 (Lib.decodeGo s).1, .int .i64 (Lib.decodeGo s).2]) ∧ Below w.heap.size w w' := Any.utf8_DecodeRuneInString Tryd.lays197 s w hT
end Go.Proofs
/- value.Utf. -/
set_option linter.unusedVariables false
set_option linter.unusedSimpArgs false
namespace Go.Proofs.YtknpaooloambdaaDoor
open Go.RowKit

theorem get_extract (s : ByteArray) (i k : Nat) (h : i + k < s.size) : (s.extract i s.size).get! k = s.get! (i + k) := by
  have h1 : k < (s.extract i s.size).size := by simp [ByteArray.size_extract]; omega
  rw [Utf8W.get!_of_lt _ _ h1, Utf8W.get!_of_lt _ _ h]
  simp [ByteArray.getElem_extract]
theorem decode_extract (s : ByteArray) (i : Nat) (h : i < s.size) : Lib.decodeGo (s.extract i s.size) = Utf8.decode s i := by
  have hs : (s.extract i s.size).size = s.size - i := by simp [ByteArray.size_extract]
  unfold Lib.decodeGo
  rw [if_neg (by omega), Lib.decode_at, Lib.decode_at, hs, get_extract s i 0 (by omega)]
  simp only [Nat.zero_add, Nat.add_zero, Nat.sub_zero]
  by_cases h1 : i + 1 < s.size
  · rw [get_extract s i 1 h1]
    by_cases h2 : i + 2 < s.size
    · rw [get_extract s i 2 h2]
      by_cases h3 : i + 3 < s.size
      · rw [get_extract s i 3 h3]
      · have : ¬ 3 < s.size - i := by omega
        simp only [Lib.decodeN, this, false_and, and_false, if_false]
    · have : ¬ 3 < s.size - i := by omega
      have : ¬ 2 < s.size - i := by omega
      simp only [Lib.decodeN, *, false_and, and_false, if_false]
  · have : ¬ 3 < s.size - i := by omega
    have : ¬ 2 < s.size - i := by omega
    have : ¬ 1 < s.size - i := by omega
    simp only [Lib.decodeN, *, false_and, and_false, if_false]
theorem width_pos (s : ByteArray) (pos : Nat) (h : pos < s.size) : 1 ≤ (Utf8.decode s pos).2 := by
  by_cases ha : (s[pos]'h).toNat < 128
  · rw [decode_ascii s pos h ha]
    exact Nat.le_refl _
  · exact (decode_high s pos h (by omega)).2

set_option maxRecDepth 20000 in
set_option maxHeartbeats 1000000 in
theorem value_Utf (s : ByteArray) (w : World) (hT : Tabs w) (hs : s.size ≤ 9223372036854775807) : Calls Tryd.prog 75 #[.string s] w fun e w' => e = .returned (.bool (utf s)) ∧ Kept w w' := by
  go_enter Tryd.func75, Tryd.ntmps75
  go_wp2_with fail
  go_loopw [] (fun w' => ∃ pos : Nat, w'.heap[w.heap.size]? = some (.stringIter s pos) ∧ Hid (utfFrom s 0 = utfFrom s pos) ∧ Kept w w') (fun w' => s.size - w'.iterPos w.heap.size)
  case atStart => exact ⟨0, w.iter_heap s 0, Lib.hid rfl, (Kept.refl w).alloc _⟩
  case round =>
    obtain ⟨pos, hk, HU, hK⟩ := hrel
    have ips : ∀ (x : World) (p : Nat), x.heap[w.heap.size]? = some (.stringIter s p) → x.iterPos w.heap.size = p := fun x p h => by simp [World.iterPos, h]
    by_cases hp : pos < s.size
    · have hwd := width_pos s pos hp
      have hst := stepAt_decode s pos
      have hsl := stepAt_le s pos hp
      have hde := decode_extract s pos hp
      obtain ⟨R, hR⟩ : ∃ R, (Utf8.decode s pos).1 = R := ⟨_, rfl⟩
      obtain ⟨N, hN⟩ : ∃ N, (Utf8.decode s pos).2 = N := ⟨_, rfl⟩
      have hnx : ∀ ty, (Instr.next (.pointer (some ⟨w.heap.size, 0, none⟩)) true ty).run Tryd.prog wr = _ := fun ty => Lib.run_next_any_at wr w.heap.size s pos ty hk hp
      have hk1 := Lib.iterAt_heap wr w.heap.size s pos (pos + N) hk
      have hK1 : Kept w (wr.iterAt w.heap.size s (pos + N)) := Lib.below_iterAt hK (Nat.le_refl _) s _
      rw [hR, hN] at hst
      rw [hN] at hwd
      rw [hR, hN] at hnx
      have hd1 : Hid ((Lib.decodeGo (s.extract pos s.size)).1 = R) := by rw [hde]; exact hR
      have hd2 : Hid ((Lib.decodeGo (s.extract pos s.size)).2 = N) := by rw [hde]; exact hN
      have HS := Lib.hid hst
      clear hst hR hN hde
      have hp0 : (0 : Int) ≤ (pos : Int) := by omega
      have hp1 : (pos : Int) ≤ (s.size : Int) := by omega
      by_cases h65 : R = 65533
      · have hb : ((R : Int) == 65533) = true := by subst h65; rfl
        have H65 := Lib.hid h65
        clear h65
        go_wp2_with fail
        refine (Tryd.utf8_DecodeRuneInString (s.extract pos s.size) _ (hT.kept hK1)).mono ?_
        rw [hd1.out, hd2.out]
        rintro e w2 ⟨rfl, hB⟩
        have hK2 : Kept w w2 := hK1.trans hB
        have hk2 : w2.heap[w.heap.size]? = some (.stringIter s (pos + N)) := (hB.block w.heap.size (Array.getElem?_eq_some_iff.1 hk1).1).trans hk1
        by_cases h1 : N = 1
        · subst h1
          have h0 : stepAt s pos = 0 := by rw [HS.out, if_pos ⟨H65.out, rfl⟩]
          go_wp2_with fail
          go_ret
          exact ⟨by unfold utf; rw [HU.out, utfFrom_bad s pos hp h0]; rfl, hK2⟩
        · have h0 : stepAt s pos = N := by rw [HS.out, if_neg (fun h => h1 h.2)]
          have hc : ((N : Int) == 1) = false := beq_eq_false_iff_ne.2 (by omega)
          clear h1
          go_wp2_with fail
          refine ⟨⟨pos + N, hk2, Lib.hid (by rw [HU.out, utfFrom_on s pos hp (by omega), h0]), hK2⟩, ?_⟩
          rw [ips _ _ hk2, ips _ _ hk]
          omega
      · have hb : ((R : Int) == 65533) = false := beq_eq_false_iff_ne.2 (by omega)
        have H65 := Lib.hid h65
        clear h65
        go_wp2_with fail
        have h0 : stepAt s pos = N := by rw [HS.out, if_neg (fun h => H65.out h.1)]
        refine ⟨⟨pos + N, hk1, Lib.hid (by rw [HU.out, utfFrom_on s pos hp (by omega), h0]), hK1⟩, ?_⟩
        rw [ips _ _ hk1, ips _ _ hk]
        omega
    · have hnx : ∀ ty, (Instr.next (.pointer (some ⟨w.heap.size, 0, none⟩)) true ty).run Tryd.prog wr = _ := fun ty => Lib.run_next_end_at wr w.heap.size s pos ty hk hp
      go_wp2_with fail
      go_ret
      exact ⟨by unfold utf; rw [HU.out, utfFrom_end s pos hp]; rfl, hK⟩
end Go.Proofs.YtknpaooloambdaaDoor
/- The reference's Utf. -/
set_option linter.unusedVariables false
set_option linter.unusedSimpArgs false
namespace Go.Proofs.YtknpaooloambdaaDoor
open Go.RowKit

/-- The class of a text's first byte: how many bytes, what the first gives, what is the least. -/
def Cls (b n c l : Nat) : Prop := (b < 128 ∧ n = 1 ∧ c = b ∧ l = 0) ∨ (192 ≤ b ∧ b < 224 ∧ n = 2 ∧ c = b - 192 ∧ l = 128) ∨ (224 ≤ b ∧ b < 240 ∧ n = 3 ∧ c = b - 224 ∧ l = 2048) ∨ (240 ≤ b ∧ b < 248 ∧ n = 4 ∧ c = b - 240 ∧ l = 65536)
theorem Cls.pos {b n c l : Nat} (h : Cls b n c l) : 1 ≤ n := by unfold Cls at h; omega
theorem Cls.le4 {b n c l : Nat} (h : Cls b n c l) : n ≤ 4 := by unfold Cls at h; omega
/-- A byte that goes on. -/
def okB (s : ByteArray) (i : Nat) : Prop := i < s.size ∧ 128 ≤ (s.get! i).toNat ∧ (s.get! i).toNat < 192
/-- The number behind k more bytes. -/
def acc1 (a b : Nat) : Nat := a * 64 + (b - 128)
def acc (s : ByteArray) (pos C : Nat) : Nat → Nat
  | 0 => C
  | k + 1 => acc1 (acc s pos C k) (s.get! (pos + (k + 1))).toNat
theorem acc_zero (s : ByteArray) (pos C : Nat) : acc s pos C 0 = C := rfl
theorem acc_succ (s : ByteArray) (pos C k : Nat) : acc s pos C (k + 1) = acc s pos C k * 64 + ((s.get! (pos + (k + 1))).toNat - 128) := rfl
theorem Cls.c_le {b n c l : Nat} (h : Cls b n c l) : c < 128 := by unfold Cls at h; omega
theorem acc_lt (s : ByteArray) (pos C : Nat) : ∀ k : Nat, (∀ j, 1 ≤ j → j ≤ k → okB s (pos + j)) → acc s pos C k < (C + 1) * 64 ^ k
  | 0, _ => by rw [acc_zero, Nat.pow_zero, Nat.mul_one]; exact Nat.lt_succ_self _
  | k + 1, h => by
    have h1 := acc_lt s pos C k (fun j h1 h2 => h j h1 (by omega))
    have h2 := (h (k + 1) (by omega) (Nat.le_refl _)).2
    have e : (C + 1) * 64 ^ (k + 1) = ((C + 1) * 64 ^ k) * 64 := by rw [Nat.pow_succ, Nat.mul_assoc]
    rw [acc_succ, e]
    omega
theorem step_no {s : ByteArray} {pos N C L k : Nat} (h : Cls (s.get! pos).toNat N C L) (h1 : 1 ≤ k) (h2 : k < N) (hn : ¬ okB s (pos + k)) : stepAt s pos = 0 := by
  unfold Cls at h
  have e : ∀ j, okB s (pos + j) ↔ (j < s.size - pos ∧ (128 ≤ (s.get! (pos + j)).toNat ∧ (s.get! (pos + j)).toNat < 192)) := fun j => by
    unfold okB
    exact ⟨fun h => ⟨by omega, h.2⟩, fun h => ⟨by omega, h.2⟩⟩
  rw [e] at hn
  unfold stepAt
  rcases h with h | h | h | h
  · omega
  · obtain rfl : k = 1 := by omega
    unfold stepN
    rw [if_neg (by omega), if_pos (by omega), if_neg hn]
  · unfold stepN
    rw [if_neg (by omega), if_neg (by omega), if_pos (by omega)]
    rcases (by omega : k = 1 ∨ k = 2) with rfl | rfl
    · rw [if_neg hn]
    · split
      · first | rfl | rw [if_neg hn]
      · rfl
  · unfold stepN
    rw [if_neg (by omega), if_neg (by omega), if_neg (by omega), if_pos (by omega)]
    rcases (by omega : k = 1 ∨ k = 2 ∨ k = 3) with rfl | rfl | rfl
    · rw [if_neg hn]
    · split
      · first | rfl | rw [if_neg hn]
      · rfl
    · split
      · split
        · first | rfl | rw [if_neg hn]
        · rfl
      · rfl
theorem step_yes {s : ByteArray} {pos N C L : Nat} (h : Cls (s.get! pos).toNat N C L) (ho : ∀ j, 1 ≤ j → j < N → okB s (pos + j)) :
    stepAt s pos = if acc s pos C (N - 1) < L ∨ 1114111 < acc s pos C (N - 1) ∨ (55296 ≤ acc s pos C (N - 1) ∧ acc s pos C (N - 1) ≤ 57343) then 0 else N := by
  unfold Cls at h
  have e : ∀ j, okB s (pos + j) → (j < s.size - pos ∧ (128 ≤ (s.get! (pos + j)).toNat ∧ (s.get! (pos + j)).toNat < 192)) := fun j h => by
    unfold okB at h
    exact ⟨by omega, h.2⟩
  unfold stepAt
  rcases h with ⟨h, hN, hC, hL⟩ | ⟨h, h', hN, hC, hL⟩ | ⟨h, h', hN, hC, hL⟩ | ⟨h, h', hN, hC, hL⟩
  · rw [hN, hC, hL]
    unfold stepN
    rw [Nat.sub_self, acc_zero]
    rw [if_pos h, if_neg (by omega)]
  · rw [hN, hC, hL]
    have o1 := e 1 (ho 1 (by omega) (by omega))
    unfold stepN
    rw [if_neg (by omega), if_pos ⟨h, h'⟩, if_pos o1]
    rw [show 2 - 1 = 0 + 1 from rfl, acc_succ, acc_zero]
    generalize (s.get! pos).toNat = b0 at *
    generalize (s.get! (pos + 1)).toNat = b1 at *
    split <;> split <;> omega
  · rw [hN, hC, hL]
    have o1 := e 1 (ho 1 (by omega) (by omega))
    have o2 := e 2 (ho 2 (by omega) (by omega))
    unfold stepN
    rw [if_neg (by omega), if_neg (by omega), if_pos ⟨h, h'⟩, if_pos o1, if_pos o2]
    rw [show 3 - 1 = 0 + 1 + 1 from rfl, acc_succ, acc_succ, acc_zero]
    generalize (s.get! pos).toNat = b0 at *
    generalize (s.get! (pos + 1)).toNat = b1 at *
    generalize (s.get! (pos + 2)).toNat = b2 at *
    split <;> split <;> omega
  · rw [hN, hC, hL]
    have o1 := e 1 (ho 1 (by omega) (by omega))
    have o2 := e 2 (ho 2 (by omega) (by omega))
    have o3 := e 3 (ho 3 (by omega) (by omega))
    unfold stepN
    rw [if_neg (by omega), if_neg (by omega), if_neg (by omega), if_pos ⟨h, h'⟩, if_pos o1, if_pos o2, if_pos o3]
    rw [show 4 - 1 = 0 + 1 + 1 + 1 from rfl, acc_succ, acc_succ, acc_succ, acc_zero]
    generalize (s.get! pos).toNat = b0 at *
    generalize (s.get! (pos + 1)).toNat = b1 at *
    generalize (s.get! (pos + 2)).toNat = b2 at *
    generalize (s.get! (pos + 3)).toNat = b3 at *
    split <;> split <;> omega
theorem wrap_acc (a b : Nat) (ha : a < 33554432) (hb : 128 ≤ b) (hb' : b < 256) : wrap64 (wrap64 (wrap64 ((a : Int) * 64) + (b : Int)) - 128) = ((a * 64 + (b - 128) : Nat) : Int) := by
  have e1 : wrap64 ((a : Int) * 64) = (a : Int) * 64 := by unfold wrap64; omega
  have e2 : wrap64 ((a : Int) * 64 + (b : Int)) = (a : Int) * 64 + (b : Int) := by unfold wrap64; omega
  have e3 : wrap64 ((a : Int) * 64 + (b : Int) - 128) = (a : Int) * 64 + (b : Int) - 128 := by unfold wrap64; omega
  rw [e1, e2, e3]
  omega
theorem stepN_bad (m b0 b1 b2 b3 : Nat) (h : (128 ≤ b0 ∧ b0 < 192) ∨ 248 ≤ b0) : stepN m b0 b1 b2 b3 = 0 := by
  unfold stepN
  rw [if_neg (by omega), if_neg (by omega), if_neg (by omega), if_neg (by omega)]

set_option maxRecDepth 20000 in
set_option maxHeartbeats 1000000 in
theorem ref_Utf (s : ByteArray) (w : World) (hs : s.size ≤ 140737488355328) : Calls Tryd.prog 89 #[.string s] w fun e w' => e = .returned (.bool (utf s)) ∧ w = w' := by
  go_enter Tryd.func89, Tryd.ntmps89
  go_wp2_with fail
  go_loopw [3] (fun u w' => ∃ pos : Nat, u = .int .i64 pos ∧ Hid (utfFrom s 0 = utfFrom s pos) ∧ w = w') (fun u _ => s.size - (intOf u).toNat)
  case atStart => exact ⟨0, rfl, Lib.hid rfl, rfl⟩
  case round =>
    obtain ⟨pos, rfl, HU, rfl⟩ := hrel
    by_cases hp : pos < s.size
    · have hp0 : (0 : Int) ≤ (pos : Int) := by omega
      have hp1 : (pos : Int) < (s.size : Int) := by omega
      obtain ⟨b0, hb0⟩ : ∃ b0, s.get! pos = b0 := ⟨_, rfl⟩
      have hq0 : s[pos]'hp = b0 := by rw [← hb0]; exact (Utf8W.get!_of_lt s pos hp).symm
      have HB0 := Lib.hid hb0
      clear hb0
      have hw0 : wrap64 (b0.toNat : Int) = (b0.toNat : Int) := by unfold wrap64; have := UInt8.toNat_lt b0; omega
      go_upto_block 2 with fail
      go_cut [4, 5, 6] (fun c n l w1 => w = w1 ∧ ∃ N C L : Nat, c = .int .i64 C ∧ n = .int .i64 N ∧ l = .int .i64 L ∧ Hid (Cls b0.toNat N C L))
      case first =>
        have h256 := UInt8.toNat_lt b0
        have hcl : b0.toNat < 128 ∨ (128 ≤ b0.toNat ∧ b0.toNat < 192) ∨ (192 ≤ b0.toNat ∧ b0.toNat < 224) ∨ (224 ≤ b0.toNat ∧ b0.toNat < 240) ∨ (240 ≤ b0.toNat ∧ b0.toNat < 248) ∨ 248 ≤ b0.toNat := by omega
        rcases hcl with hc | hc | hc | hc | hc | hc
        · have a1 : (b0.toNat : Int) < 128 := by omega
          have a2 : ¬ 192 ≤ (b0.toNat : Int) := by omega
          have a3 : (b0.toNat : Int) < 224 := by omega
          have a4 : ¬ 224 ≤ (b0.toNat : Int) := by omega
          have a5 : (b0.toNat : Int) < 240 := by omega
          have a6 : ¬ 240 ≤ (b0.toNat : Int) := by omega
          have a7 : (b0.toNat : Int) < 248 := by omega
          have HC := Lib.hid hc
          clear hc
          go_wp2_with fail
          try (rw [show wrap64 ((b0.toNat : Int) - 0) = ((b0.toNat - 0 : Nat) : Int) by unfold wrap64; have := HC.out; omega])
          go_meet
          case rel => exact ⟨rfl, 1, b0.toNat - 0, 0, congrArg (Value.int .i64) (by have := HC.out; omega), rfl, rfl, Lib.hid (by have := HC.out; unfold Cls; omega)⟩
        · have a1 : ¬ (b0.toNat : Int) < 128 := by omega
          have a2 : ¬ 192 ≤ (b0.toNat : Int) := by omega
          have a3 : (b0.toNat : Int) < 224 := by omega
          have a4 : ¬ 224 ≤ (b0.toNat : Int) := by omega
          have a5 : (b0.toNat : Int) < 240 := by omega
          have a6 : ¬ 240 ≤ (b0.toNat : Int) := by omega
          have a7 : (b0.toNat : Int) < 248 := by omega
          have HC := Lib.hid hc
          clear hc
          go_wp2_with fail
          go_ret
          have h0 : stepAt s pos = 0 := by
            have hc := HC.out
            unfold stepAt
            rw [HB0.out]
            exact stepN_bad _ _ _ _ _ (by omega)
          exact ⟨by unfold utf; rw [HU.out, utfFrom_bad s pos hp h0]; rfl, rfl⟩
        · have a1 : ¬ (b0.toNat : Int) < 128 := by omega
          have a2 : 192 ≤ (b0.toNat : Int) := by omega
          have a3 : (b0.toNat : Int) < 224 := by omega
          have a4 : ¬ 224 ≤ (b0.toNat : Int) := by omega
          have a5 : (b0.toNat : Int) < 240 := by omega
          have a6 : ¬ 240 ≤ (b0.toNat : Int) := by omega
          have a7 : (b0.toNat : Int) < 248 := by omega
          have HC := Lib.hid hc
          clear hc
          go_wp2_with fail
          try (rw [show wrap64 ((b0.toNat : Int) - 192) = ((b0.toNat - 192 : Nat) : Int) by unfold wrap64; have := HC.out; omega])
          go_meet
          case rel => exact ⟨rfl, 2, b0.toNat - 192, 128, congrArg (Value.int .i64) (by have := HC.out; omega), rfl, rfl, Lib.hid (by have := HC.out; unfold Cls; omega)⟩
        · have a1 : ¬ (b0.toNat : Int) < 128 := by omega
          have a2 : 192 ≤ (b0.toNat : Int) := by omega
          have a3 : ¬ (b0.toNat : Int) < 224 := by omega
          have a4 : 224 ≤ (b0.toNat : Int) := by omega
          have a5 : (b0.toNat : Int) < 240 := by omega
          have a6 : ¬ 240 ≤ (b0.toNat : Int) := by omega
          have a7 : (b0.toNat : Int) < 248 := by omega
          have HC := Lib.hid hc
          clear hc
          go_wp2_with fail
          try (rw [show wrap64 ((b0.toNat : Int) - 224) = ((b0.toNat - 224 : Nat) : Int) by unfold wrap64; have := HC.out; omega])
          go_meet
          case rel => exact ⟨rfl, 3, b0.toNat - 224, 2048, congrArg (Value.int .i64) (by have := HC.out; omega), rfl, rfl, Lib.hid (by have := HC.out; unfold Cls; omega)⟩
        · have a1 : ¬ (b0.toNat : Int) < 128 := by omega
          have a2 : 192 ≤ (b0.toNat : Int) := by omega
          have a3 : ¬ (b0.toNat : Int) < 224 := by omega
          have a4 : 224 ≤ (b0.toNat : Int) := by omega
          have a5 : ¬ (b0.toNat : Int) < 240 := by omega
          have a6 : 240 ≤ (b0.toNat : Int) := by omega
          have a7 : (b0.toNat : Int) < 248 := by omega
          have HC := Lib.hid hc
          clear hc
          go_wp2_with fail
          try (rw [show wrap64 ((b0.toNat : Int) - 240) = ((b0.toNat - 240 : Nat) : Int) by unfold wrap64; have := HC.out; omega])
          go_meet
          case rel => exact ⟨rfl, 4, b0.toNat - 240, 65536, congrArg (Value.int .i64) (by have := HC.out; omega), rfl, rfl, Lib.hid (by have := HC.out; unfold Cls; omega)⟩
        · have a1 : ¬ (b0.toNat : Int) < 128 := by omega
          have a2 : 192 ≤ (b0.toNat : Int) := by omega
          have a3 : ¬ (b0.toNat : Int) < 224 := by omega
          have a4 : 224 ≤ (b0.toNat : Int) := by omega
          have a5 : ¬ (b0.toNat : Int) < 240 := by omega
          have a6 : 240 ≤ (b0.toNat : Int) := by omega
          have a7 : ¬ (b0.toNat : Int) < 248 := by omega
          have HC := Lib.hid hc
          clear hc
          go_wp2_with fail
          go_ret
          have h0 : stepAt s pos = 0 := by
            have hc := HC.out
            unfold stepAt
            rw [HB0.out]
            exact stepN_bad _ _ _ _ _ (by omega)
          exact ⟨by unfold utf; rw [HU.out, utfFrom_bad s pos hp h0]; rfl, rfl⟩
      case rest =>
        obtain ⟨rfl, N, C, L, rfl, rfl, rfl, HCl⟩ := hcut
        go_wp2_with fail
        go_loopw [4, 7] (fun c i w1 => w = w1 ∧ ∃ k : Nat, i = .int .i64 k ∧ c = .int .i64 (acc s pos C (k - 1)) ∧ 1 ≤ k ∧ k ≤ N ∧ Hid (∀ j, 1 ≤ j → j < k → okB s (pos + j))) (fun _ i _ => N - (intOf i).toNat)
        case atStart => exact ⟨rfl, 1, rfl, rfl, Nat.le_refl _, HCl.out.pos, Lib.hid (fun j h1 h2 => absurd h1 (by omega))⟩
        case round =>
          obtain ⟨rfl, k, rfl, rfl, hk1, hk2, HO⟩ := hrel
          have hN4 : N ≤ 4 := HCl.out.le4
          by_cases hkN : k < N
          · have hkN' : (k : Int) < (N : Int) := by omega
            have hwk : wrap64 ((pos : Int) + (k : Int)) = ((pos + k : Nat) : Int) := by unfold wrap64; omega
            by_cases hps : pos + k < s.size
            · have hps' : ¬ ((s.size : Int) ≤ ((pos + k : Nat) : Int)) := by omega
              have hpk0 : (0 : Int) ≤ ((pos + k : Nat) : Int) := by omega
              have hpk1 : ((pos + k : Nat) : Int) < (s.size : Int) := by omega
              obtain ⟨b, hb⟩ : ∃ b, s.get! (pos + k) = b := ⟨_, rfl⟩
              have hq : s[pos + k]'hps = b := by rw [← hb]; exact (Utf8W.get!_of_lt s _ hps).symm
              have HB := Lib.hid hb
              clear hb
              go_wp2_with fail
              · go_ret
                have h0 : stepAt s pos = 0 := step_no (HB0.out ▸ HCl.out) hk1 hkN (fun h => by have := h.2; rw [HB.out] at this; omega)
                exact ⟨by unfold utf; rw [HU.out, utfFrom_bad s pos hp h0]; rfl, rfl⟩
              · have hok : okB s (pos + k) := ⟨hps, by rw [HB.out]; omega, by rw [HB.out]; omega⟩
                have hal := acc_lt s pos C (k - 1) (fun j h1 h2 => HO.out j h1 (by omega))
                have hC := HCl.out.c_le
                have h64 : 64 ^ (k - 1) ≤ 64 ^ 3 := Nat.pow_le_pow_right (by omega) (by omega)
                have hal2 : acc s pos C (k - 1) < 128 * 64 ^ 3 := Nat.lt_of_lt_of_le hal (Nat.mul_le_mul (by omega) h64)
                have hbt := UInt8.toNat_lt b
                have hac : acc s pos C k = acc s pos C (k - 1) * 64 + (b.toNat - 128) := by
                  obtain ⟨m, rfl⟩ : ∃ m, k = m + 1 := ⟨k - 1, by omega⟩
                  rw [Nat.add_sub_cancel, acc_succ, HB.out]
                refine ⟨⟨by trivial, k + 1, rfl, congrArg (Value.int .i64) ?_, by omega, by omega, Lib.hid (fun j h1 h2 => ?_)⟩, by simp [intOf]; omega⟩
                · rw [Nat.add_sub_cancel, hac]
                  exact wrap_acc _ _ (Nat.lt_of_lt_of_le hal2 (by decide)) (by omega) hbt
                · rcases Nat.lt_or_ge j k with h | h
                  · exact HO.out j h1 h
                  · obtain rfl : j = k := by omega
                    exact hok
              · go_ret
                have h0 : stepAt s pos = 0 := step_no (HB0.out ▸ HCl.out) hk1 hkN (fun h => by have := h.2; rw [HB.out] at this; omega)
                exact ⟨by unfold utf; rw [HU.out, utfFrom_bad s pos hp h0]; rfl, rfl⟩
            · have hps' : (s.size : Int) ≤ ((pos + k : Nat) : Int) := by omega
              go_wp2_with fail
              go_ret
              have h0 : stepAt s pos = 0 := step_no (HB0.out ▸ HCl.out) hk1 hkN (fun h => hps h.1)
              exact ⟨by unfold utf; rw [HU.out, utfFrom_bad s pos hp h0]; rfl, rfl⟩
          · obtain rfl : k = N := by omega
            have hkN' : ¬ (k : Int) < (k : Int) := by omega
            have HS := Lib.hid (step_yes (HB0.out ▸ HCl.out : Cls (s.get! pos).toNat k C L) (fun j h1 h2 => HO.out j h1 h2))
            obtain ⟨A, hA⟩ : ∃ A, acc s pos C (k - 1) = A := ⟨_, rfl⟩
            have hsl := stepAt_le s pos hp
            rw [hA] at HS ⊢
            clear hA
            have hpk : wrap64 ((pos : Int) + (k : Int)) = ((pos + k : Nat) : Int) := by unfold wrap64; omega
            go_wp2_with fail
            all_goals first
              | (go_ret
                 have h0 : stepAt s pos = 0 := by rw [HS.out]; exact if_pos (by omega)
                 exact ⟨by unfold utf; rw [HU.out, utfFrom_bad s pos hp h0]; rfl, rfl⟩)
              | (have h0 : stepAt s pos = k := by rw [HS.out]; exact if_neg (by omega)
                 refine ⟨⟨pos + k, rfl, Lib.hid (by rw [HU.out, utfFrom_on s pos hp (by omega), h0]), by trivial⟩, by simp [intOf]; omega⟩)
              | skip
    · have hp1 : ¬ (pos : Int) < (s.size : Int) := by omega
      go_wp2_with fail
      go_ret
      exact ⟨by unfold utf; rw [HU.out, utfFrom_end s pos hp]; rfl, rfl⟩
end Go.Proofs.YtknpaooloambdaaDoor
