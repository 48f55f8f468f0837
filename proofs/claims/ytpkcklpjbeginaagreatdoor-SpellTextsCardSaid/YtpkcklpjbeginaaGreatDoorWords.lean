/- Words of 64 bits as sets of places: the lowest place, the word without it, the list of all places. -/
import Derived.Test.YtpkcklpjbeginaaGreatDoorPlaces
import Derived.Lib.TrailingZeros
import Derived.Laws.Bits64b
import Derived.Laws.BitsAllLaws
set_option linter.unusedSimpArgs false
set_option linter.unusedVariables false
namespace Go.Proofs.YtpkcklpjbeginaaGreatDoor

theorem low_form {x : Nat} (h0 : x ≠ 0) (hx : x < 18446744073709551616) : ∃ m, x = 2 ^ Lib.ctz 64 x * (2 * m + 1) ∧ Lib.ctz 64 x < 64 := by
 have := Lib.ctzFrom_spec 64 x (by omega) hx
 unfold Lib.ctz
 rw [if_neg h0]
 exact this

theorem bit_form (k m j : Nat) : (2 ^ k * (2 * m + 1)).testBit j = (decide (j = k) || (decide (k < j) && m.testBit (j - k - 1))) := by
 have h := Nat.testBit_two_pow_mul_add (2 * m + 1) (b := 0) (i := k) (Nat.two_pow_pos k) j
 rw [Nat.add_zero] at h
 rw [h]
 by_cases h1 : j < k
 ·simp [h1, show ¬ j = k by omega, show ¬ k < j by omega]
 ·rw [if_neg h1]
  by_cases h2 : j = k
  ·subst h2; simp [Nat.testBit_zero]
  ·obtain ⟨d, rfl⟩ : ∃ d, j = k + (d + 1) := ⟨j - k - 1, by omega⟩
   rw [show k + (d + 1) - k = d + 1 by omega, Nat.testBit_succ, show (2 * m + 1) / 2 = m by omega]
   simp [show k < k + (d + 1) by omega]
theorem bit_form' (k m j : Nat) : (2 ^ k * (2 * m + 1) - 1).testBit j = (decide (j < k) || (decide (k < j) && m.testBit (j - k - 1))) := by
 have hp := Nat.two_pow_pos k
 have e : 2 ^ k * (2 * m + 1) - 1 = 2 ^ k * (2 * m) + (2 ^ k - 1) := by
  rw [Nat.mul_add, Nat.mul_one]; omega
 have h := Nat.testBit_two_pow_mul_add (2 * m) (b := 2 ^ k - 1) (i := k) (by omega) j
 rw [e, h]
 by_cases h1 : j < k
 ·simp [h1, Nat.testBit_two_pow_sub_one]
 ·rw [if_neg h1]
  by_cases h2 : j = k
  ·subst h2; simp [Nat.testBit_zero]
  ·obtain ⟨d, rfl⟩ : ∃ d, j = k + (d + 1) := ⟨j - k - 1, by omega⟩
   rw [show k + (d + 1) - k = d + 1 by omega, Nat.testBit_succ, show 2 * m / 2 = m by omega]
   simp [show k < k + (d + 1) by omega, show ¬ k + (d + 1) < k by omega]

theorem low_bit {x : Nat} (h0 : x ≠ 0) (hx : x < 18446744073709551616) : x.testBit (Lib.ctz 64 x) = true ∧ Lib.ctz 64 x < 64 ∧ ∀ i, i < Lib.ctz 64 x → x.testBit i = false := by
 obtain ⟨m, e, hk⟩ := low_form h0 hx
 generalize Lib.ctz 64 x = k at *
 subst e
 refine ⟨by rw [bit_form]; simp, hk, fun i hi => ?_⟩
 rw [bit_form]
 simp [show ¬ i = k by omega, show ¬ k < i by omega]
theorem clear_low {x : Nat} (h0 : x ≠ 0) (hx : x < 18446744073709551616) (j : Nat) : (x &&& (x - 1)).testBit j = (x.testBit j && !decide (j = Lib.ctz 64 x)) := by
 obtain ⟨m, e, hk⟩ := low_form h0 hx
 generalize Lib.ctz 64 x = k at *
 subst e
 rw [Nat.testBit_and, bit_form, bit_form']
 by_cases h1 : j = k
 ·subst h1; simp
 ·by_cases h2 : k < j
  ·simp [h1, h2, show ¬ j < k by omega]
  ·simp [h1, h2]
/-- The places of a word, rising. -/
def places (f : Nat) : List Nat := (List.range 64).filter fun i => f.testBit i

theorem word_or {a b : Nat} (ha : a < 18446744073709551616) (hb : b < 18446744073709551616) : bits .or .u64 (a : Int) (b : Int) = ((a ||| b : Nat) : Int) := bits_or_u64_nat a b ha hb
theorem word_less {a b : Nat} (ha : a < 18446744073709551616) (hb : b < 18446744073709551616) : bits .andNot .u64 (a : Int) (b : Int) = ((a &&& (18446744073709551615 - b) : Nat) : Int) := u64_andNot_nat a b ha hb
theorem less_bit {a b : Nat} (ha : a < 18446744073709551616) (hb : b < 18446744073709551616) (j : Nat) : (a &&& (18446744073709551615 - b)).testBit j = (a.testBit j && !b.testBit j) := by
 rw [Nat.testBit_and]
 by_cases hj : j < 64
 ·have := Nat.testBit_two_pow_sub_succ (n := 64) (x := b) (by simpa using hb) j
  rw [show (2 : Nat) ^ 64 - (b + 1) = 18446744073709551615 - b by omega] at this
  rw [this]
  simp [hj]
 ·have : a.testBit j = false := Nat.testBit_lt_two_pow (Nat.lt_of_lt_of_le ha (by rw [show (18446744073709551616 : Nat) = 2 ^ 64 from rfl]; exact Nat.pow_le_pow_right (by decide) (by omega)))
  simp [this]
theorem two_pow_lt {i : Nat} (h : i < 64) : 2 ^ i < 18446744073709551616 := by
 rw [show (18446744073709551616 : Nat) = 2 ^ 64 from rfl]
 exact Nat.pow_lt_pow_right (by decide) h
theorem set_bit (a i j : Nat) : (a ||| 2 ^ i).testBit j = (a.testBit j || decide (j = i)) := by
 rw [Nat.testBit_or, Nat.testBit_two_pow]
 by_cases h : i = j
 ·subst h; simp
 ·simp [h, show ¬ j = i by omega]

/-- Places gone over one by one, lowest first: to holds what those that are done lead to. -/
structure Gone (R : Nat → Nat → Prop) (f w to : Nat) : Prop where
 sub : ∀ i, w.testBit i = true → f.testBit i = true
 img : ∀ j, to.testBit j = true ↔ ∃ i, f.testBit i = true ∧ w.testBit i = false ∧ R i j
theorem Gone.start (R : Nat → Nat → Prop) (f : Nat) : Gone R f f 0 := ⟨fun _ h => h, fun j => by
 simp only [Nat.zero_testBit, Bool.false_eq_true, false_iff]
 rintro ⟨i, h1, h2, _⟩
 rw [h1] at h2; cases h2⟩
theorem Gone.done {R : Nat → Nat → Prop} {f to : Nat} (h : Gone R f 0 to) : Img R f to := fun j => by
 rw [h.img j]
 simp
theorem Gone.skip {R : Nat → Nat → Prop} {f w to : Nat} (h : Gone R f w to) (h0 : w ≠ 0) (hx : w < 18446744073709551616) (hR : ∀ j, ¬ R (Lib.ctz 64 w) j) : Gone R f (w &&& (w - 1)) to := by
 refine ⟨fun i hi => ?_, fun j => ?_⟩
 ·rw [clear_low h0 hx] at hi
  simp only [Bool.and_eq_true] at hi
  exact h.sub i hi.1
 ·rw [h.img j]
  constructor
  ·rintro ⟨i, h1, h2, h3⟩
   exact ⟨i, h1, by rw [clear_low h0 hx, h2]; rfl, h3⟩
  ·rintro ⟨i, h1, h2, h3⟩
   rw [clear_low h0 hx] at h2
   by_cases hi : i = Lib.ctz 64 w
   ·subst hi; exact absurd h3 (hR j)
   ·simp only [hi, decide_false, Bool.not_false, Bool.and_true] at h2
    exact ⟨i, h1, h2, h3⟩
theorem Gone.take {R : Nat → Nat → Prop} {f w to k : Nat} (h : Gone R f w to) (h0 : w ≠ 0) (hx : w < 18446744073709551616) (hR : ∀ j, R (Lib.ctz 64 w) j ↔ j = k) : Gone R f (w &&& (w - 1)) (to ||| 2 ^ k) := by
 refine ⟨fun i hi => ?_, fun j => ?_⟩
 ·rw [clear_low h0 hx] at hi
  simp only [Bool.and_eq_true] at hi
  exact h.sub i hi.1
 ·rw [set_bit, Bool.or_eq_true, h.img j, decide_eq_true_eq]
  constructor
  ·rintro (⟨i, h1, h2, h3⟩ | hj)
   ·exact ⟨i, h1, by rw [clear_low h0 hx, h2]; rfl, h3⟩
   ·exact ⟨Lib.ctz 64 w, h.sub _ (low_bit h0 hx).1, by rw [clear_low h0 hx]; simp, (hR j).2 hj⟩
  ·rintro ⟨i, h1, h2, h3⟩
   rw [clear_low h0 hx] at h2
   by_cases hi : i = Lib.ctz 64 w
   ·subst hi; exact .inr ((hR j).1 h3)
   ·simp only [hi, decide_false, Bool.not_false, Bool.and_true] at h2
    exact .inl ⟨i, h1, h2, h3⟩

/-! ### How many places -/
def count (f : Nat) : Nat := (places f).length
end Go.Proofs.YtpkcklpjbeginaaGreatDoor
