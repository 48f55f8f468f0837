/- Sets of bytes as four words, in plain Lean. -/
import Derived.Test.YtpkcklpjbeginaaGreatDoorWords
import Derived.Test.YtpkcklpjbeginaaGreatDoorPo
set_option linter.unusedSimpArgs false
set_option linter.unusedVariables false
namespace Go.Proofs.YtpkcklpjbeginaaGreatDoor
open Go.RowKit

/-- The first n places of word k. -/
def wbits (S : Nat → Bool) (k : Nat) : Nat → Nat
 | 0 => 0
 | n + 1 => wbits S k n + if S (64 * k + n) then 2 ^ n else 0
theorem wbits_lt (S : Nat → Bool) (k : Nat) : ∀ n, wbits S k n < 2 ^ n
 | 0 => by simp [wbits]
 | n + 1 => by
  have := wbits_lt S k n
  have h2 : 2 ^ (n + 1) = 2 ^ n + 2 ^ n := by rw [Nat.pow_succ]; omega
  have hp := Nat.two_pow_pos n
  rw [wbits]
  split <;> omega
theorem wbits_bit (S : Nat → Bool) (k : Nat) : ∀ n j, (wbits S k n).testBit j = (decide (j < n) && S (64 * k + j))
 | 0, j => by simp [wbits]
 | n + 1, j => by
  have hl := wbits_lt S k n
  have ih := wbits_bit S k n
  rw [wbits]
  by_cases hb : S (64 * k + n) = true
  ·rw [if_pos hb]
   have h := Nat.testBit_two_pow_mul_add 1 hl j
   rw [Nat.mul_one, Nat.add_comm] at h
   rw [h]
   by_cases h1 : j < n
   ·rw [if_pos h1, ih, decide_eq_true h1, decide_eq_true (by omega)]
   ·rw [if_neg h1]
    by_cases h2 : j = n
    ·subst h2
     simp [hb]
    ·rw [decide_eq_false (by omega), Bool.false_and]
     show (2 ^ 0).testBit (j - n) = false
     rw [Nat.testBit_two_pow]
     simp; omega
  ·rw [if_neg hb, Nat.add_zero, ih]
   by_cases h1 : j < n
   ·rw [decide_eq_true h1, decide_eq_true (by omega)]
   ·by_cases h2 : j = n
    ·subst h2
     simp [hb]
    ·rw [decide_eq_false h1, decide_eq_false (by omega)]
def wd (S : Nat → Bool) (k : Nat) : Nat := wbits S k 64
theorem wd_lt (S : Nat → Bool) (k : Nat) : wd S k < 18446744073709551616 := wbits_lt S k 64
theorem wd_bit (S : Nat → Bool) (k j : Nat) (h : j < 64) : (wd S k).testBit j = S (64 * k + j) := by
 unfold wd
 rw [wbits_bit, decide_eq_true h, Bool.true_and]
theorem wd_eq {S : Nat → Bool} {k u : Nat} (hu : u < 18446744073709551616) (h : ∀ j, j < 64 → u.testBit j = S (64 * k + j)) : u = wd S k := by
 apply Nat.eq_of_testBit_eq
 intro j
 by_cases hj : j < 64
 ·rw [h j hj, wd_bit _ _ _ hj]
 ·have h1 : u.testBit j = false := Nat.testBit_lt_two_pow (Nat.lt_of_lt_of_le hu (by rw [show (18446744073709551616 : Nat) = 2 ^ 64 from rfl]; exact Nat.pow_le_pow_right (by decide) (by omega)))
  have h2 : (wd S k).testBit j = false := Nat.testBit_lt_two_pow (Nat.lt_of_lt_of_le (wd_lt S k) (by rw [show (18446744073709551616 : Nat) = 2 ^ 64 from rfl]; exact Nat.pow_le_pow_right (by decide) (by omega)))
  rw [h1, h2]
theorem wd_congr {S T : Nat → Bool} {k : Nat} (h : ∀ j, j < 64 → S (64 * k + j) = T (64 * k + j)) : wd S k = wd T k := wd_eq (wd_lt S k) fun j hj => by rw [wd_bit _ _ _ hj, h j hj]
theorem wd_none (k : Nat) : wd (fun _ => false) k = 0 := (wd_eq (by decide) fun j _ => by simp).symm
theorem wd_less (S T : Nat → Bool) (k : Nat) : wd S k &&& (18446744073709551615 - wd T k) = wd (fun x => S x && !T x) k :=
 wd_eq (Nat.lt_of_le_of_lt Nat.and_le_left (wd_lt S k)) fun j hj => by rw [less_bit (wd_lt S k) (wd_lt T k), wd_bit _ _ _ hj, wd_bit _ _ _ hj]
theorem wd_not (S : Nat → Bool) (k : Nat) : 18446744073709551615 - wd S k = wd (fun x => !S x) k :=
 wd_eq (by omega) fun j hj => by
  have h := Nat.testBit_two_pow_sub_succ (n := 64) (x := wd S k) (by simpa using wd_lt S k) j
  rw [show (2 : Nat) ^ 64 - (wd S k + 1) = 18446744073709551615 - wd S k by omega] at h
  rw [h, wd_bit _ _ _ hj, decide_eq_true hj, Bool.true_and]
/-- A set with a byte more. -/
def put5 (S : Nat → Bool) (b : Nat) : Nat → Bool := fun x => S x || decide (x = b)
theorem wd_put (S : Nat → Bool) (b : Nat) : wd S (b / 64) ||| 2 ^ (b % 64) = wd (put5 S b) (b / 64) :=
 wd_eq (Nat.or_lt_two_pow (n := 64) (wd_lt S _) (two_pow_lt (Nat.mod_lt _ (by decide)))) fun j hj => by
  rw [set_bit, wd_bit _ _ _ hj]
  unfold put5
  congr 1
  by_cases h : j = b % 64
  ·rw [decide_eq_true h, decide_eq_true (by omega)]
  ·rw [decide_eq_false h, decide_eq_false (by omega)]
theorem wd_put_add (S : Nat → Bool) (b : Nat) (h : S b = false) : wd S (b / 64) + 2 ^ (b % 64) = wd (put5 S b) (b / 64) := by
 rw [← wd_put]
 have hb : (wd S (b / 64)).testBit (b % 64) = false := by
  rw [wd_bit _ _ _ (Nat.mod_lt _ (by decide))]
  rw [show 64 * (b / 64) + b % 64 = b by omega]
  exact h
 apply Nat.eq_of_testBit_eq
 intro j
 rw [set_bit]
 generalize wd S (b / 64) = u at *
 generalize b % 64 = i at *
 have e : u = u / 2 ^ (i + 1) * 2 ^ (i + 1) + u % 2 ^ i := by
  have h1 := Nat.div_add_mod u (2 ^ (i + 1))
  have h2 : u % 2 ^ (i + 1) = u % 2 ^ i := by
   rw [Nat.testBit_eq_decide_div_mod_eq] at hb
   have h0 : u / 2 ^ i % 2 = 0 := by
    have := of_decide_eq_false hb
    omega
   rw [Nat.mod_pow_succ, h0]
   simp
  rw [h2] at h1
  rw [Nat.mul_comm] at h1
  exact h1.symm
 have hm := Nat.mod_lt u (Nat.two_pow_pos i)
 have e2 : u + 2 ^ i = 2 ^ i * (2 * (u / 2 ^ (i + 1)) + 1) + u % 2 ^ i := by
  have h3 : u / 2 ^ (i + 1) * 2 ^ (i + 1) = 2 ^ i * (2 * (u / 2 ^ (i + 1))) := by
   rw [Nat.pow_succ, ← Nat.mul_assoc, Nat.mul_comm _ 2, ← Nat.mul_assoc, Nat.mul_comm]
  rw [h3] at e
  rw [Nat.mul_add, Nat.mul_one]
  omega
 have e3 : u = 2 ^ i * (2 * (u / 2 ^ (i + 1))) + u % 2 ^ i := by
  have h3 : u / 2 ^ (i + 1) * 2 ^ (i + 1) = 2 ^ i * (2 * (u / 2 ^ (i + 1))) := by
   rw [Nat.pow_succ, ← Nat.mul_assoc, Nat.mul_comm _ 2, ← Nat.mul_assoc, Nat.mul_comm]
  rw [h3] at e
  exact e
 have t1 := Nat.testBit_two_pow_mul_add (2 * (u / 2 ^ (i + 1)) + 1) hm j
 have t2 := Nat.testBit_two_pow_mul_add (2 * (u / 2 ^ (i + 1))) hm j
 rw [← e2] at t1
 rw [← e3] at t2
 rw [t1, t2]
 by_cases hj : j < i
 ·simp [hj, show ¬ j = i by omega]
 ·rw [if_neg hj, if_neg hj]
  by_cases h0 : j = i
  ·subst h0; simp
  ·obtain ⟨d, rfl⟩ : ∃ d, j = i + (d + 1) := ⟨j - i - 1, by omega⟩
   rw [show i + (d + 1) - i = d + 1 by omega, Nat.testBit_succ, Nat.testBit_succ, show (2 * (u / 2 ^ (i + 1)) + 1) / 2 = 2 * (u / 2 ^ (i + 1)) / 2 by omega]
   simp [show ¬ i + (d + 1) = i by omega]
theorem wd_put_other (S : Nat → Bool) (b k : Nat) (h : k ≠ b / 64) : wd (put5 S b) k = wd S k := wd_congr fun j hj => by
 unfold put5
 rw [decide_eq_false (by omega), Bool.or_false]
/-- A below word i, B from there on. -/
def mix5 (i : Nat) (A B : Nat → Bool) : Nat → Bool := fun x => if x / 64 < i then A x else B x
theorem wd_mix (i : Nat) (A B : Nat → Bool) (k : Nat) : wd (mix5 i A B) k = if k < i then wd A k else wd B k := by
 split
 ·exact wd_congr fun j hj => by unfold mix5; rw [if_pos (by omega)]
 ·exact wd_congr fun j hj => by unfold mix5; rw [if_neg (by omega)]

/-- The cells of a set. -/
def setC (S : Nat → Bool) : List Value := [.int .u64 ((wd S 0 : Nat) : Int), .int .u64 ((wd S 1 : Nat) : Int), .int .u64 ((wd S 2 : Nat) : Int), .int .u64 ((wd S 3 : Nat) : Int)]
def setV (S : Nat → Bool) : Value := .agg (setC S).toArray
theorem setC_at (S : Nat → Bool) (k : Nat) (h : k < 4) : (setC S)[k]? = some (.int .u64 ((wd S k : Nat) : Int)) := by
 have : k = 0 ∨ k = 1 ∨ k = 2 ∨ k = 3 := by omega
 rcases this with e | e | e | e <;> subst e <;> rfl
theorem setC_set {S T : Nat → Bool} {k v : Nat} (hk : k < 4) (hv : v = wd T k) (ho : ∀ j, j < 4 → j ≠ k → wd S j = wd T j) : (setC S).toArray.setIfInBounds k (.int .u64 ((v : Nat) : Int)) = (setC T).toArray := by
 subst hv
 have : k = 0 ∨ k = 1 ∨ k = 2 ∨ k = 3 := by omega
 rcases this with e | e | e | e <;> subst e
 ·simp only [setC, ho 1 (by decide) (by decide), ho 2 (by decide) (by decide), ho 3 (by decide) (by decide)]; rfl
 ·simp only [setC, ho 0 (by decide) (by decide), ho 2 (by decide) (by decide), ho 3 (by decide) (by decide)]; rfl
 ·simp only [setC, ho 0 (by decide) (by decide), ho 1 (by decide) (by decide), ho 3 (by decide) (by decide)]; rfl
 ·simp only [setC, ho 0 (by decide) (by decide), ho 1 (by decide) (by decide), ho 2 (by decide) (by decide)]; rfl
theorem setC_congr {S T : Nat → Bool} (h : ∀ x, x < 256 → S x = T x) : setC S = setC T := by
 have key : ∀ k, k < 4 → wd S k = wd T k := fun k hk => wd_congr fun j hj => h _ (by omega)
 simp only [setC, key 0 (by decide), key 1 (by decide), key 2 (by decide), key 3 (by decide)]
end Go.Proofs.YtpkcklpjbeginaaGreatDoor
