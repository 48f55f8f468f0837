/- What reading yields at a backslash, in plain Lean. -/
import Derived.Test.YtdkonfdhedcajaaDoorEreP
set_option linter.unusedSimpArgs false
set_option linter.unusedVariables false
namespace Go.Proofs.YtdkonfdhedcajaaDoor
open Go.RowKit

theorem bytT_full (S : Nat → Bool) : (bytT S).fullSize = 1 := by rfl
theorem parse_esc {p : ByteArray} (h2 : p.size = 2) (h0 : pb p 0 = 92) : parseE p false false = if punct5 (pb p 1) = true then .ok (bytT (fun x => decide (x = pb p 1))) 2 0 else .bad 7 0 := by
  have h256 : pb p 2 = 256 := pb_none (by omega)
  have hat : atomE p false false (some (deepE p false false 31 true)) 0 0 = if punct5 (pb p 1) = true then .ok (bytT (fun x => decide (x = pb p 1))) 2 0 else .bad 7 0 := by
    unfold atomE
    rw [h0, if_neg (by decide), if_neg (by decide), if_neg (by decide), if_pos rfl]
    by_cases hp : punct5 (pb p 1) = true
    · rw [if_pos ⟨by omega, hp⟩, if_pos hp]; rfl
    · rw [if_neg (fun h => hp h.2), if_neg hp]; rfl
  have hpc : pieceE p false false (some (deepE p false false 31 true)) 0 0 = if punct5 (pb p 1) = true then .ok (bytT (fun x => decide (x = pb p 1))) 2 0 else .bad 7 0 := by
    unfold pieceE
    rw [h0, if_neg (by decide), if_neg (by decide), if_neg (by decide), hat]
    by_cases hp : punct5 (pb p 1) = true
    · rw [if_pos hp]
      simp only [withRep, repE, h256]
      rfl
    · rw [if_neg hp]
  have hbr : branchE p false false (some (deepE p false false 31 true)) false (p.size + 1) 0 0 [] = if punct5 (pb p 1) = true then .ok (bytT (fun x => decide (x = pb p 1))) 2 0 else .bad 7 0 := by
    rw [branchE, h0, if_neg (by omega), if_neg (by decide), hpc]
    by_cases hp : punct5 (pb p 1) = true
    · rw [if_pos hp, h2]
      simp only
      rw [branchE, if_pos (.inl (by omega))]
      rfl
    · rw [if_neg hp]
  have hpt : deepE p false false 32 false 0 0 = if punct5 (pb p 1) = true then .ok (bytT (fun x => decide (x = pb p 1))) 2 0 else .bad 7 0 := by
    show pattE p false false (some (deepE p false false 31 true)) false (p.size + 1) 0 0 [] = _
    rw [pattE, hbr]
    by_cases hp : punct5 (pb p 1) = true
    · rw [if_pos hp]
      simp only [h256]
      rw [if_neg (by decide)]
      rfl
    · rw [if_neg hp]
  unfold parseE
  rw [if_neg (by omega), hpt]
  by_cases hp : punct5 (pb p 1) = true
  · rw [if_pos hp]
    simp only [wholeP, bytT_full]
    rw [if_neg (by decide)]
  · rw [if_neg hp]; rfl
/-- A letter. -/
def lett (b : Nat) : Prop := 97 ≤ b ∧ b ≤ 122
theorem branch_letters {p : ByteArray} {n : Nat} (hs : p.size = n + 1) (hl : ∀ i, i < n → lett (pb p i)) (h92 : pb p n = 92) (dp : Option (Nat → Nat → PR)) (deep : Bool) : ∀ (k j f : Nat) (acc : List T), j + k = n → k < f → branchE p false false dp deep f j 0 acc = .bad 7 n
  | 0, j, f + 1, acc, hj, hf => by
    have hjn : j = n := by omega
    subst hjn
    have hat : atomE p false false dp j 0 = .bad 7 j := by
      unfold atomE
      rw [h92, if_neg (by decide), if_neg (by decide), if_neg (by decide), if_pos rfl, if_neg (fun h => by omega)]
    rw [branchE, h92, if_neg (by omega), if_neg (by decide)]
    unfold pieceE
    rw [h92, if_neg (by decide), if_neg (by decide), if_neg (by decide), hat]
  | k + 1, j, f + 1, acc, hj, hf => by
    have hb := hl j (by omega)
    unfold lett at hb
    obtain ⟨b, hbb⟩ : ∃ b, b = pb p j := ⟨_, rfl⟩
    rw [← hbb] at hb
    have hnx : ¬ (pb p (j + 1) = 42 ∨ pb p (j + 1) = 43 ∨ pb p (j + 1) = 63 ∨ pb p (j + 1) = 123) := by
      by_cases hj1 : j + 1 < n
      · have := hl (j + 1) hj1; unfold lett at this; omega
      · rw [show j + 1 = n by omega, h92]; decide
    have hat : atomE p false false dp j 0 = .ok (bytT (oneS false b)) (j + 1) 0 := by
      unfold atomE
      rw [← hbb, if_neg (by omega), if_neg (by omega), if_neg (by omega), if_neg (by omega)]
    have hre : repE p (j + 1) = .no := by
      unfold repE
      rw [if_neg (fun h => hnx (.inl h)), if_neg (fun h => hnx (.inr (.inl h))), if_neg (fun h => hnx (.inr (.inr (.inl h)))), if_neg (fun h => hnx (.inr (.inr (.inr h))))]
    rw [branchE, ← hbb, if_neg (by omega), if_neg (by omega)]
    unfold pieceE
    rw [← hbb, if_neg (by omega), if_neg (by omega), if_neg (by omega), hat]
    simp only [hre, withRep]
    exact branch_letters hs hl h92 dp deep k (j + 1) f _ (by omega) (by omega)
theorem parse_tail {p : ByteArray} {n : Nat} (hs : p.size = n + 1) (hn : n ≤ 1000) (hl : ∀ i, i < n → lett (pb p i)) (h92 : pb p n = 92) : parseE p false false = .bad 7 n := by
  unfold parseE
  rw [if_neg (by omega)]
  show wholeP p (pattE p false false (some (deepE p false false 31 true)) false (p.size + 1) 0 0 []) = _
  rw [pattE, branch_letters hs hl h92 _ _ n 0 _ _ (by omega) (by omega)]
  rfl
/-- Which bytes are punct. -/
theorem punct_is : ∀ b : Fin 256, punct5 b.val = (decide (32 < b.val) && decide (b.val < 127) && !(decide (48 ≤ b.val) && decide (b.val ≤ 57)) && !(decide (65 ≤ b.val) && decide (b.val ≤ 90)) && !(decide (97 ≤ b.val) && decide (b.val ≤ 122))) := by
  unfold punct5 memb5
  rw [ByteArray.toList_eq]
  decide +kernel
end Go.Proofs.YtdkonfdhedcajaaDoor
