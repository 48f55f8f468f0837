/- trawlref05: closing. -/
import Derived.Test.YtfehmfifjidjjaaDoorRefBr
set_option linter.unusedSimpArgs false
set_option linter.unusedVariables false
namespace Go.Proofs.YtfehmfifjidjjaaDoor
open Go.RowKit

/-- The place of the next pair of bytes that closes a name; -1: there is none. -/
def clo (p : ByteArray) (k : Nat) : Int := if Lib.index (p.data.toList.drop k) [58, 93] = -1 then -1 else k + Lib.index (p.data.toList.drop k) [58, 93]
theorem clo_in {p : ByteArray} {k : Nat} (h : 0 ≤ clo p k) : (k : Int) ≤ clo p k ∧ clo p k + 2 ≤ p.size := by
  unfold clo at h ⊢
  by_cases e : Lib.index (p.data.toList.drop k) [58, 93] = -1
  · rw [if_pos e] at h; omega
  · rw [if_neg e] at h ⊢
    have hg := Lib.index_ge (p.data.toList.drop k) [58, 93]
    have hr := Lib.index_room (p.data.toList.drop k) [58, 93] (by omega)
    simp at hr
    have : p.data.size = p.size := rfl
    omega
end Go.Proofs.YtfehmfifjidjjaaDoor
