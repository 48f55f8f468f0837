/- Letters and digits are one tree in both kinds of patterns; marks of the extended ones are bytes of the basic ones, in plain Lean. -/
import Derived.Test.YtpkcklpjbeginaaDoorEreP
import Derived.Test.YtpkcklpjbeginaaDoorEscP6
set_option linter.unusedSimpArgs false
set_option linter.unusedVariables false
namespace Go.Proofs.YtpkcklpjbeginaaDoor
open Go.RowKit

/-- A letter or a digit. -/
def ltr (b : Nat) : Prop := (48 ≤ b ∧ b ≤ 57) ∨ (65 ≤ b ∧ b ≤ 90) ∨ (97 ≤ b ∧ b ≤ 122)
/-- The bytes from a place on, each a tree. -/
def runL (ic : Bool) (p : ByteArray) : Nat → Nat → List T
  | _, 0 => []
  | i, k + 1 => bytT (oneS ic (pb p i)) :: runL ic p (i + 1) k
theorem runL_len (ic : Bool) (p : ByteArray) : ∀ (k i : Nat), (runL ic p i k).length = k
  | 0, i => rfl
  | k + 1, i => by simp [runL, runL_len ic p k (i + 1)]
theorem runL_shift {ic : Bool} {x p : ByteArray} {o : Nat} (h : ∀ j, j < p.size → pb x (o + j) = pb p j) : ∀ (k i : Nat), i + k ≤ p.size → runL ic x (o + i) k = runL ic p i k
  | 0, i, hi => rfl
  | k + 1, i, hi => by
    rw [runL, runL, h i (by omega), Nat.add_assoc, runL_shift h k (i + 1) (by omega)]
theorem runL_lf {ic : Bool} {p : ByteArray} : ∀ (k i : Nat), ∀ t ∈ runL ic p i k, ∃ S, t = bytT S
  | 0, i, t, ht => by simp [runL] at ht
  | k + 1, i, t, ht => by
    rw [runL] at ht
    rcases List.mem_cons.1 ht with rfl | ht
    · exact ⟨_, rfl⟩
    · exact runL_lf k (i + 1) t ht
theorem bytT_size (S : Nat → Bool) : (bytT S).size = 1 := by rfl
theorem lf_size : ∀ (l : List T) (n : Int), (∀ t ∈ l, ∃ S, t = bytT S) → 0 ≤ n → n + l.length ≤ 2001 → TL.size l n = n + l.length
  | [], n, h, h0, hn => by simp [TL.size]
  | t :: l, n, h, h0, hn => by
    obtain ⟨S, hS⟩ := h t (by simp)
    rw [List.length_cons] at hn ⊢
    have e : mn2 (n + t.size) 2001 = n + 1 := by
      rw [hS, bytT_size]
      unfold mn2
      split <;> omega
    rw [TL.size, e, lf_size l (n + 1) (fun u hu => h u (by simp [hu])) (by omega) (by omega)]
    omega
theorem seq_full {l : List T} (h : ∀ t ∈ l, ∃ S, t = bytT S) (hn : l.length ≤ 1500) : ¬ 2000 < (T.seq l).fullSize := by
  have h1 : (T.seq l).size ≤ 2000 := by
    match l, h, hn with
    | [], _, _ => exact (by decide : (T.seq ([] : List T)).size ≤ 2000)
    | [t], h, _ =>
      obtain ⟨S, hS⟩ := h t (by simp)
      rw [hS]
      show (bytT S).size ≤ 2000
      rw [bytT_size]
      omega
    | a :: b :: r, h, hn =>
      show T.size (.mk ⟨5, 0, 0, 0, 0, 0, 0, 0, false⟩ (a :: b :: r)) ≤ 2000
      rw [T.size, if_neg (by rintro ⟨e, _⟩; cases e), lf_size _ 0 h (by omega) (by omega)]
      have hg : Hd.grow ⟨5, 0, 0, 0, 0, 0, 0, 0, false⟩ (0 + ((a :: b :: r).length : Int)) = 0 + ((a :: b :: r).length : Int) + 1 := rfl
      rw [hg]
      unfold mn2
      split <;> omega
  unfold T.fullSize
  split <;> omega
section
variable {p : ByteArray} {ic nl : Bool}
theorem repE_run {j : Nat} (h : ¬ (pb p j = 42 ∨ pb p j = 43 ∨ pb p j = 63 ∨ pb p j = 123)) : repE p j = .no := by
  unfold repE
  rw [if_neg (fun e => h (.inl e)), if_neg (fun e => h (.inr (.inl e))), if_neg (fun e => h (.inr (.inr (.inl e)))), if_neg (fun e => h (.inr (.inr (.inr e))))]
theorem repB_run {j : Nat} (h : ¬ (pb p j = 42 ∨ pb p j = 92)) : repB p j = .no := by
  unfold repB
  rw [if_neg (fun e => h (.inl e)), if_neg (fun e => h (.inr e.1))]
theorem next_run {i0 : Nat} (hl : ∀ j, i0 ≤ j → j < p.size → ltr (pb p j)) {j : Nat} (hj : i0 ≤ j) : ltr (pb p j) ∨ pb p j = 256 := by
  by_cases h : j < p.size
  · exact .inl (hl j hj h)
  · exact .inr (pb_none h)
theorem branch_run {i0 : Nat} (hl : ∀ j, i0 ≤ j → j < p.size → ltr (pb p j)) (dp : Option (Nat → Nat → PR)) (deep : Bool) (g : Nat) : ∀ (k j f : Nat) (acc : List T), i0 ≤ j → j + k = p.size → k < f → branchE p ic nl dp deep f j g acc = .ok (T.seq (acc ++ runL ic p j k)) p.size g
  | 0, j, f + 1, acc, h0, hj, hf => by
    have hjn : j = p.size := by omega
    rw [branchE, if_pos (.inl (by omega)), hjn]
    simp [runL]
  | k + 1, j, f + 1, acc, h0, hj, hf => by
    have hb := hl j h0 (by omega)
    have hn := next_run hl (j := j + 1) (by omega)
    unfold ltr at hb hn
    obtain ⟨b, hbb⟩ : ∃ b, b = pb p j := ⟨_, rfl⟩
    rw [← hbb] at hb
    have hat : atomE p ic nl dp j g = .ok (bytT (oneS ic b)) (j + 1) g := by
      unfold atomE
      rw [← hbb, if_neg (by omega), if_neg (by omega), if_neg (by omega), if_neg (by omega)]
    have hre : repE p (j + 1) = .no := repE_run (by omega)
    rw [branchE, ← hbb, if_neg (by omega), if_neg (by omega)]
    unfold pieceE
    rw [← hbb, if_neg (by omega), if_neg (by omega), if_neg (by omega), hat]
    simp only [hre, withRep]
    rw [branch_run hl dp deep g k (j + 1) f _ (by omega) (by omega) (by omega), runL, ← hbb, List.append_assoc, List.singleton_append]
theorem pattB_run {i0 : Nat} (hl : ∀ j, i0 ≤ j → j < p.size → ltr (pb p j)) (dp : Option (Nat → Nat → PR)) (deep : Bool) (g : Nat) : ∀ (k j f : Nat) (front star : Bool) (acc : List T), i0 ≤ j → j + k = p.size → k < f → pattB p ic nl dp deep f front star j g acc = .ok (T.seq (acc ++ runL ic p j k)) p.size g
  | 0, j, f + 1, front, star, acc, h0, hj, hf => by
    have hjn : j = p.size := by omega
    rw [pattB, if_pos (.inl (by omega)), hjn]
    simp [runL]
  | k + 1, j, f + 1, front, star, acc, h0, hj, hf => by
    have hb := hl j h0 (by omega)
    have hn := next_run hl (j := j + 1) (by omega)
    unfold ltr at hb hn
    obtain ⟨b, hbb⟩ : ∃ b, b = pb p j := ⟨_, rfl⟩
    rw [← hbb] at hb
    have hat : atomB p ic nl dp star j g = .ok (bytT (oneS ic b)) (j + 1) g := by
      unfold atomB
      rw [← hbb, if_neg (by omega), if_neg (by omega), if_neg (by omega), if_neg (by omega)]
    have hre : repB p (j + 1) = .no := repB_run (by omega)
    rw [pattB, ← hbb, if_neg (by omega), if_neg (by omega), if_neg (by omega)]
    unfold pieceB
    rw [hat]
    simp only [hre, withRep]
    rw [pattB_run hl dp deep g k (j + 1) f false false _ (by omega) (by omega) (by omega), runL, ← hbb, List.append_assoc, List.singleton_append]
theorem whole_run {l : List T} (h : ∀ t ∈ l, ∃ S, t = bytT S) (hn : l.length ≤ 1500) : wholeP p (.ok (T.seq l) p.size 0) = .ok (T.seq l) p.size 0 := by
  simp only [wholeP]
  rw [if_neg (seq_full h hn)]
theorem parseE_run (hl : ∀ j, j < p.size → ltr (pb p j)) (hp : p.size ≤ 1000) : parseE p ic nl = .ok (T.seq (runL ic p 0 p.size)) p.size 0 := by
  have hlf := runL_lf (ic := ic) (p := p) p.size 0
  have hn := runL_len ic p p.size 0
  unfold parseE
  rw [if_neg (by omega), deepE, pattE, branch_run (i0 := 0) (fun j _ hj => hl j hj) _ _ _ p.size 0 _ _ (Nat.le_refl _) (Nat.zero_add _) (by omega)]
  simp only [List.nil_append]
  rw [pb_none (by omega), if_neg (by decide), show ∀ t : T, T.alt [t] = t from fun _ => rfl]
  exact whole_run hlf (by omega)
theorem parseB_run (hl : ∀ j, j < p.size → ltr (pb p j)) (hp : p.size ≤ 1000) : parseB p ic nl = .ok (T.seq (runL ic p 0 p.size)) p.size 0 := by
  have hlf := runL_lf (ic := ic) (p := p) p.size 0
  have hn := runL_len ic p p.size 0
  unfold parseB
  rw [if_neg (by omega), deepB, pattB_run (i0 := 0) (fun j _ hj => hl j hj) _ _ _ p.size 0 _ _ _ _ (Nat.le_refl _) (Nat.zero_add _) (by omega)]
  rw [List.nil_append]
  exact whole_run hlf (by omega)
/-- A mark of the extended patterns that the basic ones have not. -/
def mark (c : Nat) : Prop := c = 43 ∨ c = 63 ∨ c = 124 ∨ c = 40 ∨ c = 41 ∨ c = 123 ∨ c = 125
theorem mark_punct {c : Nat} (h : mark c) : punct5 c = true := by
  rcases h with rfl | rfl | rfl | rfl | rfl | rfl | rfl <;> kernel_rfl
variable {x : ByteArray} {c : Nat}
theorem parseB_mark (hl : ∀ j, j < p.size → ltr (pb p j)) (hp : p.size ≤ 1000) (hc : mark c) (hs : x.size = p.size + 1) (h0 : pb x 0 = c) (ht : ∀ j, j < p.size → pb x (1 + j) = pb p j) : parseB x ic nl = .ok (T.seq (bytT (oneS ic c) :: runL ic p 0 p.size)) x.size 0 := by
  have hlx : ∀ j, 1 ≤ j → j < x.size → ltr (pb x j) := fun j h1 h2 => by
    have := ht (j - 1) (by omega)
    rw [show 1 + (j - 1) = j by omega] at this
    rw [this]
    exact hl _ (by omega)
  have hsh : runL ic x 1 p.size = runL ic p 0 p.size := runL_shift (o := 1) ht p.size 0 (by omega)
  have hn := next_run hlx (j := 1) (Nat.le_refl _)
  unfold ltr at hn
  unfold mark at hc
  have hat : ∀ dp, atomB x ic nl dp true 0 0 = .ok (bytT (oneS ic c)) 1 0 := fun dp => by
    unfold atomB
    rw [h0, if_neg (by omega), if_neg (by omega), if_neg (by omega), if_neg (by omega)]
  have hre : repB x 1 = .no := repB_run (by omega)
  have hlf : ∀ t ∈ bytT (oneS ic c) :: runL ic p 0 p.size, ∃ S, t = bytT S := fun t h => by
    rcases List.mem_cons.1 h with rfl | h
    · exact ⟨_, rfl⟩
    · exact runL_lf _ _ t h
  have hln : (bytT (oneS ic c) :: runL ic p 0 p.size).length ≤ 1500 := by rw [List.length_cons, runL_len]; omega
  unfold parseB
  rw [if_neg (by omega), deepB, pattB, h0, if_neg (by omega), if_neg (by omega), if_neg (by omega)]
  unfold pieceB
  rw [hat]
  simp only [hre, withRep]
  rw [pattB_run (i0 := 1) hlx _ _ _ p.size 1 _ _ _ _ (Nat.le_refl _) (by omega) (by omega), hsh, List.nil_append, List.singleton_append]
  exact whole_run hlf hln
theorem parseE_mark (hl : ∀ j, j < p.size → ltr (pb p j)) (hp : p.size ≤ 1000) (hc : mark c) (hs : x.size = p.size + 2) (h0 : pb x 0 = 92) (h1 : pb x 1 = c) (ht : ∀ j, j < p.size → pb x (2 + j) = pb p j) : parseE x ic nl = .ok (T.seq (bytT (oneS ic c) :: runL ic p 0 p.size)) x.size 0 := by
  have hlx : ∀ j, 2 ≤ j → j < x.size → ltr (pb x j) := fun j h1 h2 => by
    have := ht (j - 2) (by omega)
    rw [show 2 + (j - 2) = j by omega] at this
    rw [this]
    exact hl _ (by omega)
  have hsh : runL ic x 2 p.size = runL ic p 0 p.size := runL_shift (o := 2) ht p.size 0 (by omega)
  have hn := next_run hlx (j := 2) (Nat.le_refl _)
  have hpu := mark_punct hc
  unfold ltr at hn
  have hat : ∀ dp, atomE x ic nl dp 0 0 = .ok (bytT (oneS ic c)) 2 0 := fun dp => by
    unfold atomE
    rw [h0, show pb x (0 + 1) = c from h1, if_neg (by omega), if_neg (by omega), if_neg (by omega), if_pos rfl, if_pos ⟨by omega, hpu⟩]
  have hre : repE x 2 = .no := repE_run (by omega)
  have hlf : ∀ t ∈ bytT (oneS ic c) :: runL ic p 0 p.size, ∃ S, t = bytT S := fun t h => by
    rcases List.mem_cons.1 h with rfl | h
    · exact ⟨_, rfl⟩
    · exact runL_lf _ _ t h
  have hln : (bytT (oneS ic c) :: runL ic p 0 p.size).length ≤ 1500 := by rw [List.length_cons, runL_len]; omega
  have hbr : ∀ dp deep, branchE x ic nl dp deep (x.size + 1) 0 0 [] = .ok (T.seq (bytT (oneS ic c) :: runL ic p 0 p.size)) x.size 0 := fun dp deep => by
    rw [branchE, h0, if_neg (by omega), if_neg (by decide)]
    unfold pieceE
    rw [h0, if_neg (by decide), if_neg (by decide), if_neg (by decide), hat]
    simp only [hre, withRep]
    rw [branch_run (i0 := 2) hlx _ _ _ p.size 2 _ _ (Nat.le_refl _) (by omega) (by omega), hsh, List.nil_append, List.singleton_append]
  unfold parseE
  rw [if_neg (by omega), deepE, pattE, hbr]
  simp only
  rw [pb_none (by omega), if_neg (by decide), List.nil_append, show ∀ t : T, T.alt [t] = t from fun _ => rfl]
  exact whole_run hlf hln
end
end Go.Proofs.YtpkcklpjbeginaaDoor
