/- trawlref02.Named, Other, Fold. (Printed by gen_classes2.py.) -/
import Derived.Test.YtfehmfifjidjjaaDoorClasses
set_option linter.unusedSimpArgs false
set_option linter.unusedVariables false
namespace Go.Proofs.YtfehmfifjidjjaaDoor
open Go.RowKit

/-- The other case of a letter. -/
def oth5 (b : Nat) : Nat := if up5 b then b + 32 else if low5 b then b - 32 else b
theorem oth5_lt {b : Nat} (h : b < 256) : oth5 b < 256 := by
  unfold oth5 up5 low5 bt5
  by_cases h1 : 65 ≤ b ∧ b ≤ 90
  · rw [decide_eq_true h1, if_pos rfl]; omega
  · rw [decide_eq_false h1, if_neg (by simp)]
    by_cases h2 : 97 ≤ b ∧ b ≤ 122
    · rw [decide_eq_true h2, if_pos rfl]; omega
    · rw [decide_eq_false h2, if_neg (by simp)]; omega
theorem oth5_oth (b : Nat) : oth5 (oth5 b) = b := by
  unfold oth5 up5 low5 bt5
  simp only [decide_eq_true_eq]
  repeat' split
  all_goals omega
/-- With the other case of each letter. -/
def fold5 (S : Nat → Bool) : Nat → Bool := fun x => S x || S (oth5 x)
end Go.Proofs.YtfehmfifjidjjaaDoor
