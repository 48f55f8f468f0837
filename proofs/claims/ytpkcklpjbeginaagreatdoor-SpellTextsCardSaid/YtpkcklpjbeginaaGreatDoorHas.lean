/- octet.Has: is a byte in a set. -/
import Derived.Test.YtpkcklpjbeginaaGreatDoorProg
import Derived.Test.YtpkcklpjbeginaaGreatDoorWords
import Derived.Test.YtpkcklpjbeginaaGreatDoorMem
import Derived.Outline
set_option linter.unusedSimpArgs false
set_option linter.unusedVariables false
namespace Go.Proofs.YtpkcklpjbeginaaGreatDoor
open Go.RowKit

theorem and63n (b : Nat) (hb : b < 256) : bits .and .u8 (b : Int) 63 = ((b % 64 : Nat) : Int) := by
 have := u8_and_nat b 63 hb (by decide)
 rw [show ((63 : Nat) : Int) = 63 from rfl] at this
 rw [this, show 63 = 2 ^ 6 - 1 from rfl, Nat.and_two_pow_sub_one_eq_mod]

theorem bit_and_one (n : Nat) (hn : n < 18446744073709551616) (k : Nat) : bits .and .u64 ((n : Int) / 2 ^ k) 1 = (if n.testBit k then 1 else 0) := by
 have h1 : n / 2 ^ k ≤ n := Nat.div_le_self _ _
 have h2 : (n : Int) / 2 ^ k = ((n / 2 ^ k : Nat) : Int) := by
  rw [Int.natCast_ediv]; simp
 rw [h2, show (1 : Int) = ((1 : Nat) : Int) from rfl, bits_and_u64_nat _ 1 (by omega) (by decide), Nat.and_one_is_mod]
 rw [Nat.testBit_eq_decide_div_mod_eq]
 by_cases h : n / 2 ^ k % 2 = 1
 ·rw [h]; simp
 ·have : n / 2 ^ k % 2 = 0 := by omega
  rw [this]; simp

theorem Op_shr (n k : Nat) (hk : k < 64) : Op.shift .shr .u64 (n : Int) .u8 (k : Int) = pure (.int .u64 ((n : Int) / 2 ^ k)) := by
 rw [shift_shr_any _ _ _ _ (by omega)]
 have h1 : min (k : Int).toNat 64 = k := by omega
 simp only [IntKind.bits, h1]

set_option maxHeartbeats 1000000 in
theorem has_any (s0 s1 s2 s3 : Int) (b : Nat) (hb : b < 256) (w : World) (h0 : IsU64 s0) (h1 : IsU64 s1) (h2 : IsU64 s2) (h3 : IsU64 s3) :
  Calls Tryz.prog 122 #[.agg #[.int .u64 s0, .int .u64 s1, .int .u64 s2, .int .u64 s3], .int .u8 b] w fun e w' =>
   e = .returned (.bool (Hd.has ⟨0, s0, s1, s2, s3, 0, 0, 0, false⟩ b)) ∧ Below w.heap.size w w' := by
 have hand := and63n b hb
 have hq : b / 64 < 4 := by omega
 have hr : b % 64 < 64 := Nat.mod_lt _ (by decide)
 obtain ⟨n, hn, hnb⟩ : ∃ n : Nat, Hd.word ⟨0, s0, s1, s2, s3, 0, 0, 0, false⟩ (b / 64) = n ∧ n < 18446744073709551616 := by
  have h : IsU64 (Hd.word ⟨0, s0, s1, s2, s3, 0, 0, 0, false⟩ (b / 64)) := by
   unfold Hd.word
   split
   ·exact h0
   ·split
    ·exact h1
    ·split
     ·exact h2
     ·exact h3
  exact ⟨_, (Int.toNat_of_nonneg h.1).symm, by have := h.2; have := h.1; omega⟩
 have hcell : (w.alloc (.cells #[.int .u64 s0, .int .u64 s1, .int .u64 s2, .int .u64 s3] 24)).cell? ⟨w.heap.size, b / 64, none⟩ = some (.int .u64 n) := by
  rw [(Blk.new w _ _).cell, ← hn]
  have : b / 64 = 0 ∨ b / 64 = 1 ∨ b / 64 = 2 ∨ b / 64 = 3 := by omega
  rcases this with e | e | e | e <;> rw [e] <;> rfl
 have hhas : Hd.has ⟨0, s0, s1, s2, s3, 0, 0, 0, false⟩ b = n.testBit (b % 64) := by
  unfold Hd.has
  rw [hn]; rfl
 have hbit := bit_and_one n hnb (b % 64)
 have hx := Op_shr n (b % 64) hr
 rw [hhas]
 clear hhas hn
 cases ht : n.testBit (b % 64)
 all_goals
  rw [ht] at hbit
  have HT := hide ht
  clear ht
  go_enter Tryz.func122, Tryz.ntmps122
  go_wp2_with fail
  go_ret
  exact ⟨rfl, (Below.refl _ _).alloc (Nat.le_refl _) _⟩
end Go.Proofs.YtpkcklpjbeginaaGreatDoor
