/- The law BracketReads, walked. -/
import Derived.Test.YtdkonfdhedcajaaDoorLives5
import Derived.Test.YtdkonfdhedcajaaDoorRefRead5
import Derived.Test.YtdkonfdhedcajaaDoorCheck
set_option linter.unusedSimpArgs false
set_option linter.unusedVariables false
namespace Go.Proofs.YtdkonfdhedcajaaDoor
open Go.RowKit

theorem namedP_code {p : ByteArray} {i : Nat} {pl y : Int} {g : Nat} (h : namedP p i pl = .bad g y) : g < 21 := by
  unfold namedP at h
  split at h
  · injection h with h _; omega
  · split at h
    · cases h
    · injection h with h _; omega
theorem itemP_code {p : ByteArray} {i : Nat} {pl y : Int} {g : Nat} (h : itemP p i pl = .bad g y) : g < 21 := by
  unfold itemP at h
  split at h
  · injection h with h _; omega
  · split at h
    · exact namedP_code h
    · split at h
      · split at h
        · injection h with h _; omega
        · split at h
          · injection h with h _; omega
          · cases h
      · cases h
theorem loopP_code {p : ByteArray} {z f : Nat} {y : Int} {g : Nat} : ∀ (n i : Nat) (S : Nat → Bool), loopP p z f n i S = .bad g y → g < 21
  | 0, i, S, h => by rw [loopP] at h; injection h with h _; omega
  | n + 1, i, S, h => by
    rw [loopP] at h
    split at h
    · injection h with h _; omega
    · split at h
      · cases h
      · split at h
        · rename_i g2 y2 h2
          injection h with h3 _
          rw [← h3]
          exact itemP_code h2
        · exact loopP_code n _ _ h
theorem readP_code {p : ByteArray} {z : Nat} {ic nl : Bool} {y : Int} {g : Nat} (h : readP p z ic nl = .bad g y) : g < 21 := by
  unfold readP at h
  split at h
  all_goals
    generalize hq : loopP p z _ _ _ _ = q at h
    cases q with
    | good S n => cases h
    | bad g2 y2 =>
      injection h with h1 _
      rw [← h1]
      exact loopP_code _ _ _ hq

end Go.Proofs.YtdkonfdhedcajaaDoor
