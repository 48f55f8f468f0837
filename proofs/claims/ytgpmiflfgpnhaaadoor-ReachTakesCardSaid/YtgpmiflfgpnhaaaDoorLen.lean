/- math/bits.Len64 (its contract off the shelf): one more than the greatest place of a word. -/
import Derived.Test.YtgpmiflfgpnhaaaDoorProg
import Derived.Test.YtgpmiflfgpnhaaaDoorWords
import Derived.Shelf.Strconv.Itoa0
set_option linter.unusedSimpArgs false
set_option linter.unusedVariables false
namespace Go.Proofs.YtgpmiflfgpnhaaaDoor
open Go.RowKit

def lenRen : Go.Shelf.Ren := ⟨fun | 129 => 67 | n => n, fun | 3 => 3 | 4 => 4 | 5 => 5 | 9 => 9 | 46 => 55 | 53 => 47 | n => n, fun n => n⟩
theorem lenLays : Lays.n129 Tryd.prog lenRen where
  mixed := by kernel_rfl
  f129 := Tryd.func67.trans (congrArg some (by kernel_rfl))
  t3 := Tryd.underlying3
  a3 := Tryd.isAgg3
  z3 := Tryd.sizeOf3
  v3 := Tryd.zeroValue3
  t4 := Tryd.underlying4
  a4 := Tryd.isAgg4
  z4 := Tryd.sizeOf4
  v4 := Tryd.zeroValue4
  t5 := Tryd.underlying5
  a5 := Tryd.isAgg5
  z5 := Tryd.sizeOf5
  v5 := Tryd.zeroValue5
  t9 := Tryd.underlying9
  a9 := Tryd.isAgg9
  z9 := Tryd.sizeOf9
  v9 := Tryd.zeroValue9
  t46 := Tryd.underlying55
  a46 := Tryd.isAgg55
  z46 := Tryd.sizeOf55
  v46 := Tryd.zeroValue55
  t53 := Tryd.underlying47
  a53 := Tryd.isAgg47
  z53 := Tryd.sizeOf47
  v53 := Tryd.zeroValue47

theorem len64_any (x : Nat) (hx : x < 18446744073709551616) (w : World) :
    Calls Tryd.prog 67 #[.int .u64 x] w fun e w' => e = .returned (.int .i64 (Lib.bitLen x)) ∧ w' = w := by
  have h := Any.bits_Len64 lenLays (x : Int) w (by omega) (by omega)
  rw [Int.toNat_natCast] at h
  exact h

/-- The greatest place of a word. -/
theorem bitLen_top (x : Nat) (hx : x < 18446744073709551616) (h0 : x ≠ 0) : ∃ k, Lib.bitLen x = k + 1 ∧ k < 64 ∧ x.testBit k = true ∧ ∀ j, x.testBit j = true → j ≤ k := by
  induction x using Nat.strongRecOn with
  | _ x ih =>
    rw [Lib.bitLen_half x h0 hx]
    by_cases h1 : x / 2 = 0
    · obtain rfl : x = 1 := by omega
      refine ⟨0, by decide +kernel, by omega, by decide, fun j hj => ?_⟩
      cases j with
      | zero => omega
      | succ j => rw [Nat.testBit_succ] at hj; simp at hj
    · obtain ⟨k, e, hk, hb, hj⟩ := ih (x / 2) (by omega) (by omega) h1
      have hk2 : k + 1 < 64 := by
        rcases Nat.lt_or_ge (k + 1) 64 with h | h
        · exact h
        · have := Nat.ge_two_pow_of_testBit hb
          have h63 : 2 ^ 63 ≤ 2 ^ k := Nat.pow_le_pow_right (by decide) (by omega)
          omega
      refine ⟨k + 1, by omega, hk2, by rw [Nat.testBit_succ]; exact hb, fun j hj2 => ?_⟩
      cases j with
      | zero => omega
      | succ j => rw [Nat.testBit_succ] at hj2; have := hj j hj2; omega
end Go.Proofs.YtgpmiflfgpnhaaaDoor
