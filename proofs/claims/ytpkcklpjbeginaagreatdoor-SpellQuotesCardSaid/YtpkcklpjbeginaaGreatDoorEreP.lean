/- EreP: Patterns read into trees, in plain Lean: what reading from a place on yields.
CutP: Where a byte, or two bytes, first stand in a text, in plain Lean: what the library's index and cut answer.
Rd6: The readers of patterns as they lie in memory: what a call of theirs keeps; lists of trees that are built beside a reader. -/
import Derived.Test.YtpkcklpjbeginaaGreatDoorRead5
import Derived.Test.YtpkcklpjbeginaaGreatDoorMake2
import Derived.Test.YtpkcklpjbeginaaGreatDoorCheck
import Derived.Lib.IndexMore
import Derived.Test.YtpkcklpjbeginaaGreatDoorInts
import Derived.Test.YtpkcklpjbeginaaGreatDoorAsFault
set_option linter.unusedSimpArgs false
set_option linter.unusedVariables false
set_option linter.unnecessarySimpa false

/-! ## EreP -/
namespace Go.Proofs.YtpkcklpjbeginaaGreatDoor
open Go.RowKit

/-- What reading yields: a tree and where it goes on (the place, the groups met so far), or the first fault and its place. -/
inductive PR where
  | ok (t : T) (i g : Nat)
  | bad (c : Nat) (pl : Int)
def bytT (S : Nat → Bool) : T := .mk ⟨2, ((wd S 0 : Nat) : Int), ((wd S 1 : Nat) : Int), ((wd S 2 : Nat) : Int), ((wd S 3 : Nat) : Int), 0, 0, 0, false⟩ []
def begT : T := .mk ⟨3, 0, 0, 0, 0, 0, 0, 0, false⟩ []
def endT : T := .mk ⟨4, 0, 0, 0, 0, 0, 0, 0, false⟩ []
def grpT (n : Int) (t : T) : T := .mk ⟨7, 0, 0, 0, 0, n, 0, 0, false⟩ [t]
def repT (a b : Int) (t : T) : T := .mk ⟨8, 0, 0, 0, 0, 0, a, b, false⟩ [t]
def oneS (ic : Bool) (c : Nat) : Nat → Bool := if ic then fold5 (fun x => decide (x = c)) else fun x => decide (x = c)
def dotS (nl : Bool) : Nat → Bool := if nl then fun x => !decide (x = 10) else fun _ => true
/-- Is a byte one of punct? -/
def punct5 (c : Nat) : Bool := memb5 ⟨#[112, 117, 110, 99, 116]⟩ c
/-- The number that the bytes of a text write from a place on. -/
def numF (s : ByteArray) : Nat → Nat → Nat → Option Nat
  | 0, _, n => some n
  | k + 1, i, n => if 48 ≤ pb s i ∧ pb s i ≤ 57 then numF s k (i + 1) (10 * n + (pb s i - 48)) else none
def numP (s : ByteArray) : Option Nat :=
  if s.size < 1 ∨ 3 < s.size then none else match numF s s.size 0 0 with
    | none => none
    | some n => if n ≤ 255 then some n else none
/-- The first place of a byte from a place on; the text's end: there is none. -/
def findF (s : ByteArray) (c : Nat) : Nat → Nat → Nat
  | 0, i => i
  | k + 1, i => if pb s i = c then i else findF s c k (i + 1)
def findB (s : ByteArray) (c i : Nat) : Nat := findF s c (s.size - i) i
/-- The first place of two bytes from a place on; the text's end: there is none. -/
def find2F (s : ByteArray) (c d : Nat) : Nat → Nat → Nat
  | 0, i => i
  | k + 1, i => if pb s i = c ∧ pb s (i + 1) = d then i else find2F s c d k (i + 1)
def find2 (s : ByteArray) (c d i : Nat) : Nat := find2F s c d (s.size - i) i
/-- What stands in braces. -/
def countsP (s : ByteArray) : Option (Nat × Int) :=
  if findB s 44 0 = s.size then (match numP s with
    | none => none
    | some n => some (n, (n : Int)))
  else match numP (s.extract 0 (findB s 44 0)) with
    | none => none
    | some a => if findB s 44 0 + 1 = s.size then some (a, -1) else match numP (s.extract (findB s 44 0 + 1) s.size) with
      | none => none
      | some b => if a ≤ b then some (a, (b : Int)) else none
/-- The repeat at a place. -/
inductive RR where
  | no
  | yes (a : Nat) (b : Int) (n : Nat)
  | bad (c : Nat)
def repE (p : ByteArray) (i : Nat) : RR :=
  if pb p i = 42 then .yes 0 (-1) (i + 1)
  else if pb p i = 43 then .yes 1 (-1) (i + 1)
  else if pb p i = 63 then .yes 0 1 (i + 1)
  else if pb p i = 123 then (if findB p 125 i = p.size then .bad 2 else match countsP (p.extract (i + 1) (findB p 125 i)) with
    | none => .bad 3
    | some (a, b) => .yes a b (findB p 125 i + 1))
  else .no
def repB (p : ByteArray) (i : Nat) : RR :=
  if pb p i = 42 then .yes 0 (-1) (i + 1)
  else if pb p i = 92 ∧ pb p (i + 1) = 123 then (if find2 p 92 125 (i + 2) = p.size then .bad 2 else match countsP (p.extract (i + 2) (find2 p 92 125 (i + 2))) with
    | none => .bad 3
    | some (a, b) => .yes a b (find2 p 92 125 (i + 2) + 2))
  else .no
/-- A repeat behind an atom. -/
def withRep (r : RR) (t : T) (j h : Nat) : PR := match r with
  | .no => .ok t j h
  | .bad c => .bad c j
  | .yes a b n => if 2000 < (repT a b t).fullSize then .bad 9 j else .ok (repT a b t) n h
def setAt (p : ByteArray) (ic nl : Bool) (i g : Nat) : PR := match readP p i ic nl with
  | .good S n => .ok (bytT S) n g
  | .bad c pl => .bad c pl
/-- A group whose bracket of so many bytes stands at a place; deeper: what reads the pattern in it. -/
def groupP (p : ByteArray) (m : Nat) (deeper : Option (Nat → Nat → PR)) (i g : Nat) : PR := match deeper with
  | none => .bad 10 i
  | some f => match f (i + m) (g + 1) with
    | .bad c pl => .bad c pl
    | .ok t j h => if j < p.size then .ok (grpT ((g + 1 : Nat) : Int) t) (j + m) h else .bad 1 i

/-! ### Extended patterns -/
def atomE (p : ByteArray) (ic nl : Bool) (deeper : Option (Nat → Nat → PR)) (i g : Nat) : PR :=
  if pb p i = 46 then .ok (bytT (dotS nl)) (i + 1) g
  else if pb p i = 91 then setAt p ic nl i g
  else if pb p i = 40 then groupP p 1 deeper i g
  else if pb p i = 92 then (if i + 1 < p.size ∧ punct5 (pb p (i + 1)) = true then .ok (bytT (oneS ic (pb p (i + 1)))) (i + 2) g else .bad 7 i)
  else .ok (bytT (oneS ic (pb p i))) (i + 1) g
def pieceE (p : ByteArray) (ic nl : Bool) (deeper : Option (Nat → Nat → PR)) (i g : Nat) : PR :=
  if pb p i = 94 then .ok begT (i + 1) g
  else if pb p i = 36 then .ok endT (i + 1) g
  else if pb p i = 42 ∨ pb p i = 43 ∨ pb p i = 63 ∨ pb p i = 123 then .bad 8 i
  else match atomE p ic nl deeper i g with
    | .bad c pl => .bad c pl
    | .ok t j h => withRep (repE p j) t j h
def branchE (p : ByteArray) (ic nl : Bool) (deeper : Option (Nat → Nat → PR)) (deep : Bool) : Nat → Nat → Nat → List T → PR
  | 0, _, _, _ => .bad 0 0
  | n + 1, i, g, acc =>
    if ¬ i < p.size ∨ pb p i = 124 then .ok (T.seq acc) i g
    else if pb p i = 41 then (if deep then .ok (T.seq acc) i g else .bad 1 i)
    else match pieceE p ic nl deeper i g with
      | .bad c pl => .bad c pl
      | .ok t j h => branchE p ic nl deeper deep n j h (acc ++ [t])
def pattE (p : ByteArray) (ic nl : Bool) (deeper : Option (Nat → Nat → PR)) (deep : Bool) : Nat → Nat → Nat → List T → PR
  | 0, _, _, _ => .bad 0 0
  | n + 1, i, g, acc => match branchE p ic nl deeper deep (p.size + 1) i g [] with
    | .bad c pl => .bad c pl
    | .ok t j h => if pb p j = 124 then pattE p ic nl deeper deep n (j + 1) h (acc ++ [t]) else .ok (T.alt (acc ++ [t])) j h
/-- A pattern in which groups may stand k deep. -/
def deepE (p : ByteArray) (ic nl : Bool) : Nat → Bool → Nat → Nat → PR
  | 0, d, i, g => pattE p ic nl none d (p.size + 1) i g []
  | k + 1, d, i, g => pattE p ic nl (some (deepE p ic nl k true)) d (p.size + 1) i g []
/-- Behind the whole pattern. -/
def wholeP (p : ByteArray) : PR → PR
  | .bad c pl => .bad c pl
  | .ok t i g => if 2000 < t.fullSize then .bad 9 p.size else .ok t i g
def parseE (p : ByteArray) (ic nl : Bool) : PR := if 1024 < p.size then .bad 11 1024 else wholeP p (deepE p ic nl 32 false 0 0)

/-! ### Basic patterns -/
def atomB (p : ByteArray) (ic nl : Bool) (deeper : Option (Nat → Nat → PR)) (star : Bool) (i g : Nat) : PR :=
  if pb p i = 46 then .ok (bytT (dotS nl)) (i + 1) g
  else if pb p i = 91 then setAt p ic nl i g
  else if pb p i = 92 then (if i + 1 < p.size ∧ punct5 (pb p (i + 1)) = true then
      (if pb p (i + 1) = 40 then groupP p 2 deeper i g
       else if pb p (i + 1) = 41 then .bad 1 i
       else if pb p (i + 1) = 123 then .bad 8 i
       else if pb p (i + 1) = 125 then .bad 2 i
       else .ok (bytT (oneS ic (pb p (i + 1)))) (i + 2) g)
    else .bad 7 i)
  else if pb p i = 42 ∧ star = false then .bad 8 i
  else .ok (bytT (oneS ic (pb p i))) (i + 1) g
def pieceB (p : ByteArray) (ic nl : Bool) (deeper : Option (Nat → Nat → PR)) (star : Bool) (i g : Nat) : PR :=
  match atomB p ic nl deeper star i g with
    | .bad c pl => .bad c pl
    | .ok t j h => withRep (repB p j) t j h
def pattB (p : ByteArray) (ic nl : Bool) (deeper : Option (Nat → Nat → PR)) (deep : Bool) : Nat → Bool → Bool → Nat → Nat → List T → PR
  | 0, _, _, _, _, _ => .bad 0 0
  | n + 1, front, star, i, g, acc =>
    if ¬ i < p.size ∨ (deep = true ∧ pb p i = 92 ∧ pb p (i + 1) = 41) then .ok (T.seq acc) i g
    else if front = true ∧ pb p i = 94 then pattB p ic nl deeper deep n false star (i + 1) g (acc ++ [begT])
    else if pb p i = 36 ∧ (i + 1 = p.size ∨ (pb p (i + 1) = 92 ∧ pb p (i + 2) = 41)) then pattB p ic nl deeper deep n false false (i + 1) g (acc ++ [endT])
    else match pieceB p ic nl deeper star i g with
      | .bad c pl => .bad c pl
      | .ok t j h => pattB p ic nl deeper deep n false false j h (acc ++ [t])
def deepB (p : ByteArray) (ic nl : Bool) : Nat → Bool → Nat → Nat → PR
  | 0, d, i, g => pattB p ic nl none d (p.size + 1) true true i g []
  | k + 1, d, i, g => pattB p ic nl (some (deepB p ic nl k true)) d (p.size + 1) true true i g []
def parseB (p : ByteArray) (ic nl : Bool) : PR := if 1024 < p.size then .bad 11 1024 else wholeP p (deepB p ic nl 32 false 0 0)

/-! ### Places and sizes -/
/-- What an answer of reading from a place on keeps: it goes on behind that place, in the pattern, and its tree has few nodes. -/
def PR.Fine (r : PR) (p : ByteArray) (i g m : Nat) : Prop := match r with
  | .ok t j h => i + m ≤ j ∧ j ≤ p.size ∧ g ≤ h ∧ h ≤ g + (j - i) ∧ t.nodes + 1 ≤ 4 * (j - i) + 3 * (1 - m)
  | .bad _ _ => True
theorem findF_le (s : ByteArray) (c : Nat) : ∀ k i, i ≤ findF s c k i ∧ findF s c k i ≤ i + k
  | 0, i => by rw [findF]; omega
  | k + 1, i => by
    rw [findF]
    split
    · omega
    · have := findF_le s c k (i + 1); omega
theorem findB_le (s : ByteArray) (c i : Nat) (h : i ≤ s.size) : i ≤ findB s c i ∧ findB s c i ≤ s.size := by
  have := findF_le s c (s.size - i) i
  unfold findB
  omega
theorem find2F_le (s : ByteArray) (c d : Nat) : ∀ k i, i ≤ find2F s c d k i ∧ find2F s c d k i ≤ i + k
  | 0, i => by rw [find2F]; omega
  | k + 1, i => by
    rw [find2F]
    split
    · omega
    · have := find2F_le s c d k (i + 1); omega
theorem find2_le (s : ByteArray) (c d i : Nat) (h : i ≤ s.size) : i ≤ find2 s c d i ∧ find2 s c d i ≤ s.size := by
  have := find2F_le s c d (s.size - i) i
  unfold find2
  omega
theorem find2F_hit {s : ByteArray} {c d : Nat} : ∀ {k i : Nat}, find2F s c d k i < i + k → pb s (find2F s c d k i) = c ∧ pb s (find2F s c d k i + 1) = d
  | 0, i, h => by rw [find2F] at h; omega
  | k + 1, i, h => by
    rw [find2F] at h ⊢
    split
    · assumption
    · rename_i hc
      rw [if_neg hc] at h
      exact find2F_hit (by omega)
theorem find2_hit {s : ByteArray} {c d i : Nat} (h : ¬ find2 s c d i = s.size) : pb s (find2 s c d i) = c ∧ pb s (find2 s c d i + 1) = d ∨ s.size ≤ i := by
  unfold find2 at h ⊢
  have := find2F_le s c d (s.size - i) i
  by_cases hi : s.size ≤ i
  · exact .inr hi
  · exact .inl (find2F_hit (by omega))
theorem findF_hit {s : ByteArray} {c : Nat} : ∀ {k i : Nat}, findF s c k i < i + k → pb s (findF s c k i) = c
  | 0, i, h => by rw [findF] at h; omega
  | k + 1, i, h => by
    rw [findF] at h ⊢
    split
    · assumption
    · rename_i hc
      rw [if_neg hc] at h
      exact findF_hit (by omega)
theorem pb_ins {p : ByteArray} {i c : Nat} (h : pb p i = c) (hc : c < 256) : i < p.size := by
  by_cases hi : i < p.size
  · exact hi
  · rw [pb_none hi] at h; omega
theorem loopP_next {p : ByteArray} {z f : Nat} : ∀ (n i : Nat) (S S' : Nat → Bool) (m : Nat), loopP p z f n i S = .good S' m → i ≤ m ∧ m < p.size
  | 0, i, S, S', m, h => by cases h
  | n + 1, i, S, S', m, h => by
    rw [loopP] at h
    split at h
    · cases h
    · split at h
      · injection h with _ h2; omega
      · split at h
        · cases h
        · rename_i T' j hj
          have h1 := itemP_next (by omega) hj
          have h2 := loopP_next n j _ S' m h
          omega
theorem readP_next {p : ByteArray} {z : Nat} {ic nl : Bool} {S : Nat → Bool} {n : Nat} (h : readP p z ic nl = .good S n) : z + 1 < n ∧ n ≤ p.size := by
  unfold readP at h
  obtain ⟨st, hst⟩ : ∃ st, st = (if pb p (z + 1) = 94 then z + 2 else z + 1) := ⟨_, rfl⟩
  rw [← hst] at h
  have hge : z + 1 ≤ st := by rw [hst]; split <;> omega
  clear hst
  cases hl : loopP p z st (p.size + 1) st (fun _ => false) with
  | bad c pl => rw [hl] at h; cases h
  | good S' m =>
    rw [hl] at h
    simp only [outP, R5.good.injEq] at h
    have := loopP_next _ _ _ _ _ hl
    omega
theorem setAt_fine (p : ByteArray) (ic nl : Bool) (i g : Nat) : (setAt p ic nl i g).Fine p i g 1 := by
  unfold setAt
  cases h : readP p i ic nl with
  | bad c pl => trivial
  | good S n =>
    have := readP_next h
    refine ⟨by omega, by omega, Nat.le_refl _, by omega, ?_⟩
    simp only [bytT, T.nodes, TL.nodes]
    omega
theorem groupP_fine {p : ByteArray} {m : Nat} (hm : 1 ≤ m) {deeper : Option (Nat → Nat → PR)} (hd : ∀ f, deeper = some f → ∀ i g, i ≤ p.size → (f i g).Fine p i g 0) {i g : Nat} (hi : i + m ≤ p.size) (hin : ∀ f j h t, deeper = some f → f (i + m) (g + 1) = .ok t j h → j < p.size → j + m ≤ p.size) : (groupP p m deeper i g).Fine p i g 1 := by
  unfold groupP
  split
  · trivial
  · rename_i f
    have h1 := hd f rfl (i + m) (g + 1) hi
    have h2 := hin f
    cases hf : f (i + m) (g + 1) with
    | bad c pl => trivial
    | ok t j h =>
      rw [hf] at h1
      simp only
      split
      · rename_i hj
        have h3 := h2 j h t rfl hf hj
        simp only [PR.Fine] at h1 ⊢
        simp only [grpT, T.nodes, TL.nodes]
        omega
      · trivial
theorem atomE_fine {p : ByteArray} {ic nl : Bool} {deeper : Option (Nat → Nat → PR)} (hd : ∀ f, deeper = some f → ∀ i g, i ≤ p.size → (f i g).Fine p i g 0) {i g : Nat} (hi : i < p.size) : (atomE p ic nl deeper i g).Fine p i g 1 := by
  have h1 : ∀ S : Nat → Bool, (PR.ok (bytT S) (i + 1) g).Fine p i g 1 := fun S => by
    simp only [PR.Fine, bytT, T.nodes, TL.nodes]; omega
  unfold atomE
  split
  · exact h1 _
  · split
    · exact setAt_fine p ic nl i g
    · split
      · exact groupP_fine (Nat.le_refl _) hd (by omega) (fun f j h t e hf hj => by omega)
      · split
        · split
          · rename_i hc
            simp only [PR.Fine, bytT, T.nodes, TL.nodes]; omega
          · trivial
        · exact h1 _
theorem repE_next {p : ByteArray} {i a n : Nat} {b : Int} (h : repE p i = .yes a b n) : i < n ∧ n ≤ p.size := by
  unfold repE at h
  split at h
  · rename_i h1; have := pb_ins h1 (by decide); injection h with _ _ h2; omega
  split at h
  · rename_i h1; have := pb_ins h1 (by decide); injection h with _ _ h2; omega
  split at h
  · rename_i h1; have := pb_ins h1 (by decide); injection h with _ _ h2; omega
  split at h
  · rename_i h1
    have h3 := pb_ins h1 (by decide)
    have h4 := findB_le p 125 i (by omega)
    split at h
    · cases h
    · split at h
      · cases h
      · injection h with _ _ h2; omega
  · cases h
theorem repB_next {p : ByteArray} {i a n : Nat} {b : Int} (h : repB p i = .yes a b n) : i < n ∧ n ≤ p.size := by
  unfold repB at h
  split at h
  · rename_i h1; have := pb_ins h1 (by decide); injection h with _ _ h2; omega
  split at h
  · rename_i h1
    have h3 := pb_ins h1.2 (by decide)
    have h4 := find2_le p 92 125 (i + 2) (by omega)
    split at h
    · cases h
    · rename_i h5
      split at h
      · cases h
      · injection h with _ _ h2
        rcases find2_hit h5 with h6 | h6
        · have := pb_ins h6.2 (by decide)
          omega
        · omega
  · cases h
theorem withRep_fine {p : ByteArray} {r : RR} {t : T} {i g j h : Nat} (hr : ∀ a b n, r = .yes a b n → j < n ∧ n ≤ p.size) (ht : (PR.ok t j h).Fine p i g 1) : (withRep r t j h).Fine p i g 1 := by
  unfold withRep
  split
  · exact ht
  · trivial
  · rename_i a b n
    have := hr a b n rfl
    split
    · trivial
    · simp only [PR.Fine, repT, T.nodes, TL.nodes] at ht ⊢; omega
theorem pieceE_fine {p : ByteArray} {ic nl : Bool} {deeper : Option (Nat → Nat → PR)} (hd : ∀ f, deeper = some f → ∀ i g, i ≤ p.size → (f i g).Fine p i g 0) {i g : Nat} (hi : i < p.size) : (pieceE p ic nl deeper i g).Fine p i g 1 := by
  unfold pieceE
  split
  · simp only [PR.Fine, begT, T.nodes, TL.nodes]; omega
  · split
    · simp only [PR.Fine, endT, T.nodes, TL.nodes]; omega
    · split
      · trivial
      · have h := atomE_fine (ic := ic) (nl := nl) hd (g := g) hi
        cases ha : atomE p ic nl deeper i g with
        | bad c pl => trivial
        | ok t j h2 =>
          rw [ha] at h
          exact withRep_fine (fun a b n e => repE_next e) h
theorem TL.nodes_snoc (l : List T) (t : T) : TL.nodes (l ++ [t]) = TL.nodes l + t.nodes := by
  induction l with
  | nil => simp [TL.nodes]
  | cons x l ih => simp only [List.cons_append, TL.nodes, ih]; omega
theorem seq_nodes (l : List T) : (T.seq l).nodes ≤ 1 + TL.nodes l := by
  match l with
  | [] => simp [T.seq, T.nodes, TL.nodes]
  | [t] => simp only [T.seq, TL.nodes]; omega
  | a :: b :: r => simp only [T.seq, T.nodes]; omega
theorem alt_nodes (l : List T) : (T.alt l).nodes ≤ 1 + TL.nodes l := by
  match l with
  | [] => simp [T.alt, T.nodes, TL.nodes]
  | [t] => simp only [T.alt, TL.nodes]; omega
  | a :: b :: r => simp only [T.alt, T.nodes]; omega
theorem branchE_fine {p : ByteArray} {ic nl : Bool} {deeper : Option (Nat → Nat → PR)} {deep : Bool} (hd : ∀ f, deeper = some f → ∀ i g, i ≤ p.size → (f i g).Fine p i g 0) : ∀ (n i g : Nat) (acc : List T) (t : T) (j h : Nat), i ≤ p.size → branchE p ic nl deeper deep n i g acc = .ok t j h → i ≤ j ∧ j ≤ p.size ∧ g ≤ h ∧ h ≤ g + (j - i) ∧ t.nodes ≤ 1 + TL.nodes acc + 4 * (j - i)
  | 0, i, g, acc, t, j, h, _, e => by cases e
  | n + 1, i, g, acc, t, j, h, hi, e => by
    have hs := seq_nodes acc
    rw [branchE] at e
    split at e
    · injection e with e1 e2 e3
      subst e1 e2 e3
      omega
    · split at e
      · split at e
        · injection e with e1 e2 e3
          subst e1 e2 e3
          omega
        · cases e
      · have hp := pieceE_fine (ic := ic) (nl := nl) hd (i := i) (g := g) (by omega)
        cases ha : pieceE p ic nl deeper i g with
        | bad c pl => rw [ha] at e; cases e
        | ok u k q =>
          rw [ha] at e hp
          have h2 := branchE_fine hd n k q (acc ++ [u]) t j h (by simp only [PR.Fine] at hp; omega) e
          rw [TL.nodes_snoc] at h2
          simp only [PR.Fine] at hp
          omega
theorem pattE_fine {p : ByteArray} {ic nl : Bool} {deeper : Option (Nat → Nat → PR)} {deep : Bool} (hd : ∀ f, deeper = some f → ∀ i g, i ≤ p.size → (f i g).Fine p i g 0) : ∀ (n i g : Nat) (acc : List T) (t : T) (j h : Nat), i ≤ p.size → pattE p ic nl deeper deep n i g acc = .ok t j h → i ≤ j ∧ j ≤ p.size ∧ g ≤ h ∧ h ≤ g + (j - i) ∧ t.nodes ≤ 2 + TL.nodes acc + 4 * (j - i)
  | 0, i, g, acc, t, j, h, _, e => by cases e
  | n + 1, i, g, acc, t, j, h, hi, e => by
    rw [pattE] at e
    cases hb : branchE p ic nl deeper deep (p.size + 1) i g [] with
    | bad c pl => rw [hb] at e; cases e
    | ok u k q =>
      rw [hb] at e
      have h1 := branchE_fine hd _ _ _ _ _ _ _ hi hb
      simp only [TL.nodes] at h1
      simp only at e
      split at e
      · rename_i hc
        have := pb_ins hc (by decide)
        have h2 := pattE_fine hd n (k + 1) q (acc ++ [u]) t j h (by omega) e
        rw [TL.nodes_snoc] at h2
        omega
      · injection e with e1 e2 e3
        subst e1 e2 e3
        have := alt_nodes (acc ++ [u])
        rw [TL.nodes_snoc] at this
        omega
theorem deepE_fine {p : ByteArray} {ic nl : Bool} : ∀ (k : Nat) (d : Bool) (i g : Nat), i ≤ p.size → (deepE p ic nl k d i g).Fine p i g 0
  | 0, d, i, g, hi => by
    cases h : deepE p ic nl 0 d i g with
    | bad c pl => trivial
    | ok t j q =>
      have := pattE_fine (fun f e => by cases e) _ _ _ _ _ _ _ hi h
      simp only [TL.nodes] at this
      simp only [PR.Fine]
      omega
  | k + 1, d, i, g, hi => by
    cases h : deepE p ic nl (k + 1) d i g with
    | bad c pl => trivial
    | ok t j q =>
      have := pattE_fine (fun f e i g hi => by injection e with e; subst e; exact deepE_fine k true i g hi) _ _ _ _ _ _ _ hi h
      simp only [TL.nodes] at this
      simp only [PR.Fine]
      omega
end Go.Proofs.YtpkcklpjbeginaaGreatDoor

/-! ## CutP -/
namespace Go.Proofs.YtpkcklpjbeginaaGreatDoor
open Go.RowKit

theorem data_at (s : ByteArray) (i : Nat) : s.data.toList[i]? = if i < s.size then some (pb s i).toUInt8 else none := by
  by_cases h : i < s.size
  · rw [if_pos h, pb_at h]
    have hl : i < s.data.toList.length := by simpa using h
    rw [List.getElem?_eq_getElem hl]
    simp
    rfl
  · rw [if_neg h]
    exact List.getElem?_eq_none (by simpa using Nat.le_of_not_lt h)
theorem u8_eq {a b : Nat} (ha : a < 256) (hb : b < 256) : a.toUInt8 = b.toUInt8 ↔ a = b := by
  constructor
  · intro h
    have := congrArg UInt8.toNat h
    have h1 : (UInt8.ofNat a).toNat = (UInt8.ofNat b).toNat := this
    rw [UInt8.toNat_ofNat', UInt8.toNat_ofNat'] at h1
    omega
  · intro h; rw [h]
theorem occ1 (s : ByteArray) (c i : Nat) (hc : c < 256) : Lib.occAt s.data.toList [c.toUInt8] i = decide (pb s i = c) := by
  unfold Lib.occAt
  by_cases hi : i < s.size
  · have hl : i < s.data.toList.length := by simpa using hi
    have h1 := data_at s i
    rw [if_pos hi, List.getElem?_eq_getElem hl] at h1
    have h2 := Option.some.inj h1
    rw [List.drop_eq_getElem_cons hl, h2]
    simp only [List.isPrefixOf, Bool.and_true]
    rw [Bool.eq_iff_iff, beq_iff_eq, decide_eq_true_iff, u8_eq hc (pb_lt hi)]
    exact eq_comm
  · rw [List.drop_eq_nil_of_le (by simpa using Nat.le_of_not_lt hi), pb_none hi]
    simp only [List.isPrefixOf]
    symm
    rw [decide_eq_false_iff_not]
    omega
theorem occ2 (s : ByteArray) (c d i : Nat) (hc : c < 256) (hd : d < 256) : Lib.occAt s.data.toList [c.toUInt8, d.toUInt8] i = decide (pb s i = c ∧ pb s (i + 1) = d) := by
  unfold Lib.occAt
  by_cases hi : i < s.size
  · have hl : i < s.data.toList.length := by simpa using hi
    have h1 := data_at s i
    rw [if_pos hi, List.getElem?_eq_getElem hl] at h1
    have h2 := Option.some.inj h1
    have h3 := occ1 s d (i + 1) hd
    unfold Lib.occAt at h3
    rw [List.drop_eq_getElem_cons hl, h2]
    rw [List.isPrefixOf, h3, Bool.eq_iff_iff, Bool.and_eq_true, beq_iff_eq, decide_eq_true_iff, decide_eq_true_iff, u8_eq hc (pb_lt hi)]
    exact and_congr_left' eq_comm
  · rw [List.drop_eq_nil_of_le (by simpa using Nat.le_of_not_lt hi), pb_none hi]
    simp only [List.isPrefixOf]
    symm
    rw [decide_eq_false_iff_not]
    omega
theorem findF_not {s : ByteArray} {c : Nat} : ∀ {k i j : Nat}, i ≤ j → j < findF s c k i → pb s j ≠ c
  | 0, i, j, h1, h2 => by rw [findF] at h2; omega
  | k + 1, i, j, h1, h2 => by
    rw [findF] at h2
    split at h2
    · omega
    · rename_i hc
      by_cases e : j = i
      · rw [e]; exact hc
      · exact findF_not (by omega) h2
theorem find2F_not {s : ByteArray} {c d : Nat} : ∀ {k i j : Nat}, i ≤ j → j < find2F s c d k i → ¬ (pb s j = c ∧ pb s (j + 1) = d)
  | 0, i, j, h1, h2 => by rw [find2F] at h2; omega
  | k + 1, i, j, h1, h2 => by
    rw [find2F] at h2
    split at h2
    · omega
    · rename_i hc
      by_cases e : j = i
      · rw [e]; exact hc
      · exact find2F_not (by omega) h2
/-- The first place of a byte is told by what it is. -/
theorem findB_eq {s : ByteArray} {c i j : Nat} (hij : i ≤ j) (hj : j ≤ s.size) (h : j < s.size → pb s j = c) (hn : ∀ k, i ≤ k → k < j → pb s k ≠ c) : findB s c i = j := by
  have h1 := findB_le s c i (by omega)
  unfold findB at *
  by_cases hlt : findF s c (s.size - i) i < j
  · exact absurd (findF_hit (by omega)) (hn _ h1.1 hlt)
  · by_cases hgt : j < findF s c (s.size - i) i
    · exact absurd (h (by omega)) (findF_not hij hgt)
    · omega
theorem find2_eq {s : ByteArray} {c d i j : Nat} (hij : i ≤ j) (hj : j ≤ s.size) (h : j < s.size → pb s j = c ∧ pb s (j + 1) = d) (hn : ∀ k, i ≤ k → k < j → ¬ (pb s k = c ∧ pb s (k + 1) = d)) : find2 s c d i = j := by
  have h1 := find2_le s c d i (by omega)
  unfold find2 at *
  by_cases hlt : find2F s c d (s.size - i) i < j
  · exact absurd (find2F_hit (by omega)) (hn _ h1.1 hlt)
  · by_cases hgt : j < find2F s c d (s.size - i) i
    · exact absurd (h (by omega)) (find2F_not hij hgt)
    · omega
theorem findB_spec (s : ByteArray) (c i : Nat) (hi : i ≤ s.size) : i ≤ findB s c i ∧ findB s c i ≤ s.size ∧ (findB s c i < s.size → pb s (findB s c i) = c) ∧ ∀ k, i ≤ k → k < findB s c i → pb s k ≠ c := by
  have h1 := findB_le s c i hi
  exact ⟨h1.1, h1.2, fun h => by unfold findB at *; exact findF_hit (by omega), fun k h2 h3 => by unfold findB at *; exact findF_not h2 h3⟩
theorem find2_spec (s : ByteArray) (c d i : Nat) (hi : i ≤ s.size) : i ≤ find2 s c d i ∧ find2 s c d i ≤ s.size ∧ (find2 s c d i < s.size → pb s (find2 s c d i) = c ∧ pb s (find2 s c d i + 1) = d) ∧ ∀ k, i ≤ k → k < find2 s c d i → ¬ (pb s k = c ∧ pb s (k + 1) = d) := by
  have h1 := find2_le s c d i hi
  exact ⟨h1.1, h1.2, fun h => by unfold find2 at *; exact find2F_hit (by omega), fun k h2 h3 => by unfold find2 at *; exact find2F_not h2 h3⟩
theorem data_len (s : ByteArray) : s.data.toList.length = s.size := Array.length_toList
/-- The library's index of one byte. -/
theorem index_one (s : ByteArray) (c : Nat) (hc : c < 256) : Lib.index s.data.toList [c.toUInt8] = if findB s c 0 = s.size then -1 else ((findB s c 0 : Nat) : Int) := by
  obtain ⟨h1, h2, h3, h4⟩ := findB_spec s c 0 (Nat.zero_le _)
  split
  · rename_i e
    refine Lib.index_none fun j hj => ?_
    rw [occ1 s c j hc, decide_eq_false_iff_not]
    by_cases hjs : j < s.size
    · exact h4 j (Nat.zero_le _) (by omega)
    · rw [pb_none hjs]; omega
  · rename_i e
    refine Lib.index_first (by rw [data_len]; omega) ?_ fun j hj => ?_
    · rw [occ1 s c _ hc, decide_eq_true_iff]; exact h3 (by omega)
    · rw [occ1 s c j hc, decide_eq_false_iff_not]; exact h4 j (Nat.zero_le _) hj
theorem index_two (s : ByteArray) (c d : Nat) (hc : c < 256) (hd : d < 256) : Lib.index s.data.toList [c.toUInt8, d.toUInt8] = if find2 s c d 0 = s.size then -1 else ((find2 s c d 0 : Nat) : Int) := by
  obtain ⟨h1, h2, h3, h4⟩ := find2_spec s c d 0 (Nat.zero_le _)
  split
  · rename_i e
    refine Lib.index_none fun j hj => ?_
    rw [occ2 s c d j hc hd, decide_eq_false_iff_not]
    by_cases hjs : j < s.size
    · exact h4 j (Nat.zero_le _) (by omega)
    · rw [pb_none hjs]; omega
  · rename_i e
    refine Lib.index_first (by rw [data_len]; omega) ?_ fun j hj => ?_
    · rw [occ2 s c d _ hc hd, decide_eq_true_iff]; exact h3 (by omega)
    · rw [occ2 s c d j hc hd, decide_eq_false_iff_not]; exact h4 j (Nat.zero_le _) hj
theorem ext_of_list {s : ByteArray} {l : List UInt8} (h : s.data.toList = l) : (⟨l.toArray⟩ : ByteArray) = s := by
  apply ByteArray.ext
  apply Array.toList_inj.1
  rw [h]
theorem extract_list (s : ByteArray) (a b : Nat) : (s.extract a b).data.toList = (s.data.toList.drop a).take (b - a) := by
  rw [ByteArray.data_extract, Array.toList_extract, List.extract_eq_take_drop]
theorem pb_extract (s : ByteArray) (a b i : Nat) (hb : b ≤ s.size) : pb (s.extract a b) i = if a + i < b then pb s (a + i) else 256 := by
  have hsz : (s.extract a b).size = b - a := by rw [ByteArray.size_extract]; omega
  by_cases h : a + i < b
  · rw [if_pos h, pb_at (by omega), pb_at (by omega)]
    congr 1
    exact ByteArray.getElem_extract ..
  · rw [if_neg h, pb_none (by omega)]
/-- What the library's cut answers at one byte. -/
theorem cut_one (s : ByteArray) (c : Nat) (hc : c < 256) : (⟨(Lib.cut s.data.toList [c.toUInt8]).1.toArray⟩ : ByteArray) = s.extract 0 (findB s c 0) ∧ (findB s c 0 ≠ s.size → (⟨(Lib.cut s.data.toList [c.toUInt8]).2.1.toArray⟩ : ByteArray) = s.extract (findB s c 0 + 1) s.size) ∧ (Lib.cut s.data.toList [c.toUInt8]).2.2 = !decide (findB s c 0 = s.size) := by
  have hx := index_one s c hc
  have hle := (findB_spec s c 0 (Nat.zero_le _)).2.1
  unfold Lib.cut
  by_cases e : findB s c 0 = s.size
  · rw [if_pos e] at hx
    rw [hx, if_neg (by omega), e]
    refine ⟨ext_of_list ?_, fun h => absurd rfl h, by simp⟩
    rw [extract_list, List.drop_zero, Nat.sub_zero, List.take_of_length_le (by rw [data_len]; exact Nat.le_refl _)]
  · rw [if_neg e] at hx
    rw [hx, if_pos (by omega)]
    refine ⟨ext_of_list ?_, fun _ => ext_of_list ?_, by simp [e]⟩
    · rw [extract_list, List.drop_zero, Nat.sub_zero]; rfl
    · rw [extract_list, Int.toNat_natCast]
      rw [List.take_of_length_le (by rw [List.length_drop, data_len]; exact Nat.le_refl _)]
      rfl
theorem cut_two (s : ByteArray) (c d : Nat) (hc : c < 256) (hd : d < 256) : (⟨(Lib.cut s.data.toList [c.toUInt8, d.toUInt8]).1.toArray⟩ : ByteArray) = s.extract 0 (find2 s c d 0) ∧ (find2 s c d 0 ≠ s.size → (⟨(Lib.cut s.data.toList [c.toUInt8, d.toUInt8]).2.1.toArray⟩ : ByteArray) = s.extract (find2 s c d 0 + 2) s.size) ∧ (Lib.cut s.data.toList [c.toUInt8, d.toUInt8]).2.2 = !decide (find2 s c d 0 = s.size) := by
  have hx := index_two s c d hc hd
  have hle := (find2_spec s c d 0 (Nat.zero_le _)).2.1
  unfold Lib.cut
  by_cases e : find2 s c d 0 = s.size
  · rw [if_pos e] at hx
    rw [hx, if_neg (by omega), e]
    refine ⟨ext_of_list ?_, fun h => absurd rfl h, by simp⟩
    rw [extract_list, List.drop_zero, Nat.sub_zero, List.take_of_length_le (by rw [data_len]; exact Nat.le_refl _)]
  · rw [if_neg e] at hx
    rw [hx, if_pos (by omega)]
    refine ⟨ext_of_list ?_, fun _ => ext_of_list ?_, by simp [e]⟩
    · rw [extract_list, List.drop_zero, Nat.sub_zero]; rfl
    · rw [extract_list, Int.toNat_natCast]
      rw [List.take_of_length_le (by rw [List.length_drop, data_len]; exact Nat.le_refl _)]
      rfl
/-- In the rest of a text the places are as many fewer. -/
theorem find2_rest (p : ByteArray) (c d k : Nat) (hc : c < 256) (hd : d < 256) (hk : k ≤ p.size) : find2 (p.extract k p.size) c d 0 + k = find2 p c d k := by
  have hsz : (p.extract k p.size).size = p.size - k := by rw [ByteArray.size_extract]; omega
  obtain ⟨h1, h2, h3, h4⟩ := find2_spec (p.extract k p.size) c d 0 (Nat.zero_le _)
  rw [hsz] at h2 h3
  symm
  refine find2_eq (by omega) (by omega) (fun h => ?_) (fun j hj1 hj2 => ?_)
  · have := h3 (by omega)
    rw [pb_extract _ _ _ _ (Nat.le_refl _), pb_extract _ _ _ _ (Nat.le_refl _)] at this
    obtain ⟨z, hz⟩ : ∃ z, z = find2 (p.extract k p.size) c d 0 := ⟨_, rfl⟩
    rw [← hz] at this h ⊢
    rw [if_pos (by omega)] at this
    refine ⟨by rw [Nat.add_comm]; exact this.1, ?_⟩
    have h5 := this.2
    split at h5
    · rw [show z + k + 1 = k + (z + 1) by omega]; exact h5
    · omega
  · have := h4 (j - k) (Nat.zero_le _) (by omega)
    rw [pb_extract _ _ _ _ (Nat.le_refl _), pb_extract _ _ _ _ (Nat.le_refl _), if_pos (by omega), show k + (j - k) = j by omega] at this
    intro hh
    apply this
    refine ⟨hh.1, ?_⟩
    have h6 := pb_ins hh.2 hd
    rw [if_pos (by omega), show k + (j - k + 1) = j + 1 by omega]
    exact hh.2
theorem findB_rest (p : ByteArray) (c k : Nat) (hc : c < 256) (hk : k ≤ p.size) : findB (p.extract k p.size) c 0 + k = findB p c k := by
  have hsz : (p.extract k p.size).size = p.size - k := by rw [ByteArray.size_extract]; omega
  obtain ⟨h1, h2, h3, h4⟩ := findB_spec (p.extract k p.size) c 0 (Nat.zero_le _)
  rw [hsz] at h2 h3
  symm
  refine findB_eq (by omega) (by omega) (fun h => ?_) (fun j hj1 hj2 => ?_)
  · have := h3 (by omega)
    rw [pb_extract _ _ _ _ (Nat.le_refl _), if_pos (by omega)] at this
    rw [Nat.add_comm]; exact this
  · have := h4 (j - k) (Nat.zero_le _) (by omega)
    rw [pb_extract _ _ _ _ (Nat.le_refl _), if_pos (by omega), show k + (j - k) = j by omega] at this
    exact this
end Go.Proofs.YtpkcklpjbeginaaGreatDoor

/-! ## Rd6 -/
namespace Go.Proofs.YtpkcklpjbeginaaGreatDoor
open Go.RowKit

/-- What a call of a reader's method keeps: all but the reader (block gr) and its list of open groups (block x; behind the call: x'). -/
structure RdF (gr B0 : Nat) (x x' : Option Nat) (y y' : World) : Prop where
  same : Same (fun b => b < y.heap.size ∧ b ≠ gr ∧ x ≠ some b) y y'
  blk : ∀ b, x' = some b → x = some b ∨ y.heap.size ≤ b
  below : Below B0 y y'
section
variable {gr B0 : Nat} {x x' x2 : Option Nat} {y w z : World}
theorem RdF.refl (gr B0 : Nat) (x : Option Nat) (y : World) : RdF gr B0 x x y y := ⟨Same.refl _ _, fun b h => .inl h, Below.refl _ _⟩
theorem RdF.trans (h : RdF gr B0 x x' y w) (k : RdF gr B0 x' x2 w z) : RdF gr B0 x x2 y z :=
  ⟨fun b hb => (k.same b ⟨Nat.lt_of_lt_of_le hb.1 h.below.size, hb.2.1, fun e => by
      rcases h.blk b e with e2 | e2
      · exact hb.2.2 e2
      · have := hb.1; omega⟩).trans (h.same b hb),
    fun b hb => by
      rcases k.blk b hb with e | e
      · exact h.blk b e
      · exact .inr (Nat.le_trans h.below.size e),
    h.below.trans k.below⟩
theorem RdF.of_below (hB : B0 ≤ w.heap.size) (hb : Below w.heap.size w z) : RdF gr B0 x x w z :=
  ⟨(same_of_below hb).mono fun b hb => hb.1, fun b h => .inl h, hb.mono hB⟩
theorem RdF.next (h : RdF gr B0 x x' y w) (hB : B0 ≤ w.heap.size) (hb : Below w.heap.size w z) : RdF gr B0 x x' y z := h.trans (.of_below hB hb)
theorem RdF.set (h : RdF gr B0 x x' y w) (hB : B0 ≤ gr) (i : Nat) (u : Value) : RdF gr B0 x x' y (w.setCell ⟨gr, i, none⟩ u) :=
  h.trans ⟨(Same.refl _ _).set (fun e => e.2.1 rfl) u, fun b h => .inl h, (Below.refl _ _).setCell hB _⟩
theorem RdF.grown {row : Option Nat} (h : RdF gr B0 x x' y w) (hg : w.grownBy z row) (hr : ∀ g, row = some g → y.heap.size ≤ g) (hB : B0 ≤ y.heap.size) : RdF gr B0 x x' y z := by
  have hb : ∀ b, b < w.heap.size → some b ≠ row → z.heap[b]? = w.heap[b]? := fun b hb hne => hg.block b hb hne
  refine ⟨fun b hb2 => (hb b (Nat.lt_of_lt_of_le hb2.1 h.below.size) (fun e => by have := hr b e.symm; have := hb2.1; omega)).trans (h.same b hb2), h.blk, h.below.trans ⟨hg.os, hg.tape, hg.output, hg.size, fun k hk => hb k ?_ ?_⟩⟩
  · have := h.below.size; omega
  · intro e; have := hr k e.symm; omega
/-- The list of open groups itself grows. -/
theorem RdF.opened (h : RdF gr B0 x x' y w) (hg : w.grownBy z x') (hx : ∀ g, x' = some g → B0 ≤ g) (h2 : x2 = x' ∨ x2 = some w.heap.size) (hB : B0 ≤ w.heap.size) : RdF gr B0 x x2 y z := by
  refine h.trans ⟨fun b hb => hg.block b hb.1 (fun e => hb.2.2 e.symm), fun b hb => ?_, ⟨hg.os, hg.tape, hg.output, hg.size, fun k hk => hg.block k (by omega) (fun e => by have := hx k e.symm; omega)⟩⟩
  rcases h2 with e | e
  · exact .inl (by rw [← e]; exact hb)
  · rw [e] at hb
    exact .inr (Nat.le_of_eq (Option.some.inj hb))
theorem RdF.blk_ {g : Nat} {t : TypeId} {cs : Array Value} (h : RdF gr B0 x x' y w) (hb : Blk y g t cs) (h1 : g ≠ gr) (h2 : x ≠ some g) : Blk w g t cs := hb.same h.same ⟨hb.lt, h1, h2⟩
end

/-- The row of a list of numbers, in the open. -/
theorem OwnInts.blk {base : Nat} {w : World} {v : Value} {l : List Int} (h : OwnInts base w v l) {g : Nat} (hg : v.ownBlock = some g) : ∃ cs, Blk w g 3 cs := by
  rcases h.2 with ⟨e, _⟩ | ⟨g', cap, cur, e, _, hh, _⟩
  · rw [e] at hg; cases hg
  · rw [e] at hg
    have : g' = g := by simpa [Value.ownBlock] using hg
    subst this
    exact ⟨cur, hh⟩
theorem OwnInts.cut {base : Nat} {w : World} {l : List Int} {n c : Nat} {A : Option Addr} (h : OwnInts base w (.slice A (n + 1) c) l) (hn : l.length = n + 1) : OwnInts base w (.slice A n c) (l.take n) ∧ (Value.slice A n c).ownBlock = (Value.slice A (n + 1) c).ownBlock ∧ A.isSome = true ∧ n ≤ c := by
  rcases h.2 with ⟨e, h0⟩ | ⟨g, cap, cur, e, hb, hg, h1, h2, h3, h4⟩
  · omega
  · injection e with e1 e2 e3
    subst e1 e3
    refine ⟨⟨by simp, .inr ⟨g, c, cur, ?_, hb, hg, ?_, h2, h3, ?_⟩⟩, by simp [Value.ownBlock], rfl, by omega⟩
    · rw [List.length_take, hn, Nat.min_eq_left (by omega)]
    · rw [List.length_take]; omega
    · rw [List.length_take, hn, Nat.min_eq_left (by omega), Nat.mul_one]
      rw [Nat.mul_one, hn] at h4
      have := congrArg (List.take n) h4
      rw [List.take_take, Nat.min_eq_left (by omega), ← List.map_take] at this
      exact this

/-- An error that stands at a place of the pattern. -/
def FaultIs (a : Nat → Addr) (y : World) (gf c : Nat) (pl : Int) : Prop := Blk y gf 87 #[.int .i64 pl, errV (a (sentVar c))]

/-- A tree that a call lays in new memory, apart from a block x. -/
def TIn (y y' : World) (x : Option Nat) (t : T) (B : Option Addr) : Prop := T.In y' (fun b => y.heap.size ≤ b ∧ b < y'.heap.size ∧ x ≠ some b) t B

/-! ### Lists of trees built by append -/
def TL.Kin (w : World) (ok : Nat → Prop) : List T → List Value → Prop
  | [], xs => xs = []
  | t :: l, xs => ∃ B c r, xs = t.hd.cells (.slice B t.subs.length c) ++ r ∧ T.In w ok t B ∧ TL.Kin w ok l r
theorem TL.Kin.same {w w' : World} {ok ok' : Nat → Prop} (hs : Same ok w w') (hk : ∀ b, ok b → ok' b) : ∀ {l : List T} {xs : List Value}, TL.Kin w ok l xs → TL.Kin w' ok' l xs
  | [], _, h => h
  | _ :: _, _, ⟨B, c, r, h1, h2, h3⟩ => ⟨B, c, r, h1, T.In.same hs hk h2, TL.Kin.same hs hk h3⟩
theorem TL.Kin.snoc {w : World} {ok : Nat → Prop} {t : T} {B : Option Addr} {c : Nat} (ht : T.In w ok t B) : ∀ {l : List T} {xs : List Value}, TL.Kin w ok l xs → TL.Kin w ok (l ++ [t]) (xs ++ t.hd.cells (.slice B t.subs.length c))
  | [], _, h => by
    rw [show _ = _ from h]
    exact ⟨B, c, [], by simp, ht, rfl⟩
  | _ :: _, _, ⟨B', c', r, h1, h2, h3⟩ => ⟨B', c', r ++ t.hd.cells (.slice B t.subs.length c), by rw [h1, List.append_assoc], h2, TL.Kin.snoc ht h3⟩
theorem TL.Kin.at_ {w : World} {ok : Nat → Prop} : ∀ {l : List T} {xs : List Value}, TL.Kin w ok l xs → ∀ i t, l[i]? = some t → ∃ B c, (∀ j u, (t.hd.cells (.slice B t.subs.length c))[j]? = some u → xs[i * 10 + j]? = some u) ∧ T.In w ok t B
  | [], _, _, i, t, hi => by simp at hi
  | s :: l, _, ⟨B, c, r, h1, h2, h3⟩, 0, t, hi => by
    obtain rfl : s = t := by simpa using hi
    refine ⟨B, c, fun j u hu => ?_, h2⟩
    rw [h1, Nat.zero_mul, Nat.zero_add, List.getElem?_append_left (by have := (List.getElem?_eq_some_iff.1 hu).1; exact this)]
    exact hu
  | s :: l, _, ⟨B, c, r, h1, h2, h3⟩, i + 1, t, hi => by
    obtain ⟨B', c', k1, k2⟩ := TL.Kin.at_ h3 i t (by simpa using hi)
    have hl : (s.hd.cells (.slice B s.subs.length c)).length = 10 := rfl
    refine ⟨B', c', fun j u hu => ?_, k2⟩
    rw [h1, List.getElem?_append_right (by rw [hl]; omega), hl, show (i + 1) * 10 + j - 10 = i * 10 + j by omega]
    exact k1 j u hu
/-- The value v is a list of the call's own that holds the trees l; all lies from base on, and not in block x. -/
def GrowX (base : Nat) (x : Option Nat) (w : World) (v : Value) (l : List T) : Prop :=
  ∃ xs, w.ownsRow base 27 10 v l.length xs ∧ (∀ g, v.ownBlock = some g → x ≠ some g) ∧ TL.Kin w (fun b => base ≤ b ∧ b < w.heap.size ∧ some b ≠ v.ownBlock ∧ x ≠ some b) l xs
section
variable {base gr : Nat} {x x' : Option Nat} {w w' : World} {v : Value} {l : List T}
theorem GrowX.nil (base : Nat) (x : Option Nat) (w : World) : GrowX base x w (.slice none 0 0) [] := ⟨[], World.ownsRow_nil _ _ _ _, (fun g hg => by cases hg), rfl⟩
theorem GrowX.lt (h : GrowX base x w v l) : ∀ g, v.ownBlock = some g → base ≤ g ∧ g < w.heap.size := by
  obtain ⟨xs, h1, _⟩ := h
  exact World.ownsRow.lt h1
theorem GrowX.apart (h : GrowX base x w v l) : ∀ g, v.ownBlock = some g → x ≠ some g := by
  obtain ⟨xs, _, h1, _⟩ := h
  exact h1
/-- A call that keeps all but a block below base and the block x. -/
theorem GrowX.keep (h : GrowX base x w v l) (hgr : gr < base) (hs : Same (fun b => b < w.heap.size ∧ b ≠ gr ∧ x ≠ some b) w w') (hz : w.heap.size ≤ w'.heap.size) (hx : ∀ b, x' = some b → x = some b ∨ w.heap.size ≤ b) : GrowX base x' w' v l := by
  have hlt := h.lt
  have hap := h.apart
  obtain ⟨xs, h1, h2, h3⟩ := h
  have hx2 : ∀ b, b < w.heap.size → x ≠ some b → x' ≠ some b := fun b hb hne e => by
    rcases hx b e with e2 | e2
    · exact hne e2
    · omega
  refine ⟨xs, ⟨h1.1, ?_⟩, fun g hg => hx2 g (hlt g hg).2 (hap g hg), h3.same (hs.mono fun b hb => ⟨hb.2.1, by have := hb.1; omega, hb.2.2.2⟩) (fun b hb => ⟨hb.1, by have := hb.2.1; omega, hb.2.2.1, hx2 b hb.2.1 hb.2.2.2⟩)⟩
  rcases h1.2 with h | ⟨g, cap, cur, e, hb, hg, r⟩
  · exact .inl h
  · have hg2 : v.ownBlock = some g := by rw [e]; rfl
    exact .inr ⟨g, cap, cur, e, hb, (hs g ⟨(hlt g hg2).2, by omega, hap g hg2⟩).trans hg, r⟩
theorem GrowX.rdf {B0 : Nat} {y : World} (h : GrowX base x w v l) (hgr : gr < base) (k : RdF gr B0 x x' w w') : GrowX base x' w' v l := h.keep hgr k.same k.below.size k.blk
theorem GrowX.next (h : GrowX base x w v l) (hb : Below w.heap.size w w') : GrowX base x w' v l := by
  have hlt := h.lt
  obtain ⟨xs, h1, h2, h3⟩ := h
  refine ⟨xs, ⟨h1.1, ?_⟩, h2, h3.same ((same_of_below hb).mono fun b hb => hb.2.1) (fun b hb2 => ⟨hb2.1, Nat.lt_of_lt_of_le hb2.2.1 hb.size, hb2.2.2⟩)⟩
  rcases h1.2 with h | ⟨g, cap, cur, e, hbb, hg, r⟩
  · exact .inl h
  · exact .inr ⟨g, cap, cur, e, hbb, (hb.block g (hlt g (by rw [e]; rfl)).2).trans hg, r⟩
theorem GrowX.form (h : GrowX base x w v l) : ∃ A c, v = .slice A l.length c := by
  obtain ⟨xs, h1, _⟩ := h
  rcases h1.2 with ⟨e, h0⟩ | ⟨g, cap, cur, e, _⟩
  · exact ⟨none, 0, by rw [e, h0]⟩
  · exact ⟨_, _, e⟩
/-- The finished list. -/
theorem GrowX.in_ (h : GrowX base x w v l) : ∃ A c, v = .slice A l.length c ∧ TL.In w (fun b => base ≤ b ∧ b < w.heap.size ∧ x ≠ some b) l A := by
  obtain ⟨xs, h1, hap, h2⟩ := h
  rcases h1.2 with ⟨e, h0⟩ | ⟨g, cap, cur, e, hb, hg, _⟩
  · obtain rfl : l = [] := List.eq_nil_of_length_eq_zero h0
    exact ⟨none, 0, e, trivial⟩
  · refine ⟨some ⟨g, 0, none⟩, cap, e, TL.In.mk_ ⟨hb, (Array.getElem?_eq_some_iff.1 hg).1, hap g (by rw [e]; rfl)⟩ fun i t hi => ?_⟩
    obtain ⟨B, c, k1, k2⟩ := h2.at_ i t hi
    refine ⟨B, c, fun j u hu => ?_, k2.same (Same.refl _ _) (fun b hb => ⟨hb.1, hb.2.1, hb.2.2.2⟩)⟩
    have := World.ownsRow.cells h1 (g := g) (by rw [e]; rfl) (i * 10 + j) u (k1 j u hu)
    rw [Addr.add_lit, Nat.zero_add] at this
    rw [Addr.add_lit, Nat.zero_add]
    exact this
end
section
variable {w : World} {ops : Array Oper} {rest : List Oper} {o : Oper} {a : Act} {Q : Exit → Act → World → Prop}
/-- 'l = append(l, t)', t a node that the call has just laid as a list of one. -/
theorem wpList_append_nodeX (hgd : o.guard = none) (s x : Operand) (ho : o.op = .call { callee := .builtin .append, args := #[s, x], argTypes := #[25, 25] })
    (base : Nat) (bx : Option Nat) (v : Value) (l : List T) (hs : a.eval s = v) (hg : GrowX base bx w v l) (hbx : ∀ b, bx = some b → b < w.heap.size) (t : T) (B : Option Addr) (c g cap : Nat)
    (hx : a.eval x = .slice (some ⟨g, 0, none⟩) 1 cap) (hb : Blk w g 27 (t.hd.cells (.slice B t.subs.length c)).toArray) (ht : T.In w (fun b => base ≤ b ∧ b < w.heap.size ∧ some b ≠ v.ownBlock ∧ bx ≠ some b) t B) (hl : l.length < 1000000) (hbase : base ≤ w.heap.size)
    (h : ∀ v' w', GrowX base bx w' v' (l ++ [t]) → w.grownBy w' v.ownBlock → wpList Tryz.prog ops Q rest (a.put o.dst v') w') : wpList Tryz.prog ops Q (o :: rest) a w := by
  obtain ⟨xs, h1, hap, h2⟩ := hg
  obtain ⟨i, hi, hz0, hz1, hz2⟩ := info_parts Tryz.infoNode
  refine wpList_append_own_at w hgd s x 25 ho base 27 i _ 10 96 Tryz.underlying25 hi hz0 hz1 hz2 rfl (by decide) v l.length xs hs h1 ⟨g, 0, none⟩ 1 cap (t.hd.cells (.slice B t.subs.length c)) hx rfl ?_ (cells_one _ _ _ _) (by simp only [maxLen]; omega) (by omega) hbase ?_
  · intro j u hu
    rw [Addr.add_lit, Nat.zero_add, hb.cell]
    simpa using hu
  intro v' w' hown hgr _ hat
  have S : Same (fun b => base ≤ b ∧ b < w.heap.size ∧ some b ≠ v.ownBlock ∧ bx ≠ some b) w w' := fun b hb => hgr.block b hb.2.1 hb.2.2.1
  have hdisj : ∀ b, base ≤ b ∧ b < w.heap.size ∧ some b ≠ v.ownBlock ∧ bx ≠ some b → base ≤ b ∧ b < w'.heap.size ∧ some b ≠ v'.ownBlock ∧ bx ≠ some b := fun b hb => by
    refine ⟨hb.1, Nat.lt_of_lt_of_le hb.2.1 hgr.size, ?_, hb.2.2.2⟩
    rcases hat with e | e
    · rw [e]; exact hb.2.2.1
    · rw [e]
      intro e2
      have := Option.some.inj e2
      have := hb.2.1
      omega
  refine h v' w' ⟨_, by simpa using hown, fun g hg => ?_, ?_⟩ hgr
  · rcases hat with e | e
    · rw [e] at hg; exact hap g hg
    · rw [e] at hg
      intro e2
      have := hbx g e2
      have := Option.some.inj hg
      omega
  · exact (TL.Kin.snoc ht h2).same S hdisj
end

/-! ### A reader, whatever its type -/
theorem blk_ne6 {w : World} {g g' : Nat} {t t' : TypeId} {cs cs' : Array Value} (h : Blk w g t cs) (h' : Blk w g' t' cs') (ht : t ≠ t') : g ≠ g' := fun e => by
  subst e
  have := Option.some.inj (h.symm.trans h')
  injection this with _ h2
  exact ht h2
/-- A reader's cells lie in block gr; ov is its list of the d groups that are open. -/
structure RdG (y : World) (ty : TypeId) (gr B0 : Nat) (cs : Array Value) (ov : Value) (d : Nat) : Prop where
  box : Blk y gr ty cs
  opn : ∃ l : List Int, l.length = d ∧ OwnInts B0 y ov l
  base : B0 ≤ gr
  nty : ty ≠ 3 ∧ ty ≠ 27
section
variable {y z w w' : World} {ty : TypeId} {gr B0 d : Nat} {cs : Array Value} {ov : Value} {x x' : Option Nat}
theorem RdG.next (h : RdG y ty gr B0 cs ov d) (hb : Below y.heap.size y z) : RdG z ty gr B0 cs ov d := by
  obtain ⟨l, h1, h2⟩ := h.opn
  exact ⟨h.box.below hb h.box.lt, ⟨l, h1, h2.below hb (Nat.le_refl _)⟩, h.base, h.nty⟩
theorem RdG.ne (h : RdG y ty gr B0 cs ov d) : ∀ b, ov.ownBlock = some b → b ≠ gr := fun b hb e => by
  obtain ⟨l, _, h2⟩ := h.opn
  obtain ⟨cs, hc⟩ := h2.blk hb
  exact (blk_ne6 h.box hc h.nty.1) e.symm
theorem RdG.apart (h : RdG y ty gr B0 cs ov d) {g : Nat} {t : TypeId} {cs' : Array Value} (hg : Blk y g t cs') (ht : t ≠ 3) : ov.ownBlock ≠ some g := fun e => by
  obtain ⟨l, _, h2⟩ := h.opn
  obtain ⟨cs, hc⟩ := h2.blk e
  exact (blk_ne6 hg hc ht) rfl
theorem RdG.lt (h : RdG y ty gr B0 cs ov d) : ∀ b, ov.ownBlock = some b → B0 ≤ b ∧ b < y.heap.size := fun b hb => by
  obtain ⟨l, _, h2⟩ := h.opn
  exact World.ownsRow.lt h2 b hb
theorem RdG.set (h : RdG y ty gr B0 cs ov d) (k : Nat) (u : Value) : RdG (y.setCell ⟨gr, k, none⟩ u) ty gr B0 (cs.setIfInBounds k u) ov d := by
  obtain ⟨l, h1, h2⟩ := h.opn
  exact ⟨h.box.set_ k u, ⟨l, h1, h2.same (ok := fun b => b ≠ gr) ((Same.refl _ _).set (fun e => e rfl) u) (fun b hb => h.ne b hb)⟩, h.base, h.nty⟩
theorem RdG.grown {row : Option Nat} (h : RdG y ty gr B0 cs ov d) (hg : y.grownBy z row) (h1 : row ≠ some gr) (h2 : ov.ownBlock = none ∨ ov.ownBlock ≠ row) : RdG z ty gr B0 cs ov d := by
  obtain ⟨l, hl, ho⟩ := h.opn
  exact ⟨h.box.grown hg (fun e => h1 e.symm), ⟨l, hl, World.ownsRow.kept ho hg h2⟩, h.base, h.nty⟩
theorem TIn.mono' {lo lo' : Nat} {x : Option Nat} {t : T} {B : Option Addr} (h : T.In y (fun b => lo ≤ b ∧ b < y.heap.size ∧ x ≠ some b) t B) (hl : lo' ≤ lo) : T.In y (fun b => lo' ≤ b ∧ b < y.heap.size ∧ x ≠ some b) t B :=
  h.same (Same.refl _ _) fun b hb => ⟨by have := hb.1; omega, hb.2⟩
/-- Behind the last store, that of the answer into its block R. -/
theorem rd_fin {R : Nat} {cur : Array Value} {t : T} {B : Option Addr} (hE : RdG w ty gr B0 cs ov d) (hF : RdF gr B0 x ov.ownBlock y w) (hT : T.In w (fun b => R + 1 ≤ b ∧ b < w.heap.size ∧ ov.ownBlock ≠ some b) t B)
    (hg : w.grownBy w' (some R)) (hR : Blk w R 27 cur) (hyR : y.heap.size ≤ R) (hB : B0 ≤ y.heap.size) :
    RdG w' ty gr B0 cs ov d ∧ RdF gr B0 x ov.ownBlock y w' ∧ T.In w' (fun b => y.heap.size ≤ b ∧ b < w'.heap.size ∧ ov.ownBlock ≠ some b) t B := by
  have h1 : R ≠ gr := blk_ne6 hR hE.box (Ne.symm hE.nty.2)
  have h2 : ov.ownBlock ≠ some R := hE.apart hR (by decide)
  refine ⟨hE.grown hg (fun e => h1 (Option.some.inj e)) (.inr h2), hF.grown hg (fun g e => by rw [← Option.some.inj e]; exact hyR) hB, ?_⟩
  exact hT.same (ok := fun b => R + 1 ≤ b ∧ b < w.heap.size ∧ ov.ownBlock ≠ some b) (fun b hb => hg.block b hb.2.1 (fun e => by have := Option.some.inj e; have := hb.1; omega)) fun b hb => ⟨by have := hb.1; omega, Nat.lt_of_lt_of_le hb.2.1 hg.size, hb.2.2⟩
end
section
variable {w : World} {ops : Array Oper} {rest : List Oper} {o : Oper} {a : Act} {Q : Exit → Act → World → Prop}
/-- A node is stored into its block. -/
theorem wpList_store_node (hgd : o.guard = none) (x v : Operand) (ho : o.op = .store 27 x v) (g : Nat) (cur : Array Value) (h : Hd) (A : Option Addr) (n c : Nat)
    (hx : a.eval x = .pointer (some ⟨g, 0, none⟩)) (hv : a.eval v = .agg (h.cells (.slice A n c)).toArray) (hg : Blk w g 27 cur) (hc : cur.size = 10)
    (H : ∀ w', Blk w' g 27 (h.cells (.slice A n c)).toArray → w.grownBy w' (some g) → w'.heap.size = w.heap.size → wpList Tryz.prog ops Q rest (a.put o.dst undef) w') : wpList Tryz.prog ops Q (o :: rest) a w := by
  refine wpList_store_row hgd 27 x v ho g 0 _ cur _ hx hv hg (by rw [Tryz.sizeNode]; rfl) (by rw [hc]; exact Nat.le_refl _) (by simp [Value.oneCell', Hd.cells]) ?_
  intro w' hrow hg' hz
  have hrow2 := hrow.out
  rw [splice_full (by rw [Array.length_toList, Array.length_toList, hc]; rfl)] at hrow2
  exact H w' hrow2 hg' hz
theorem wpList_load_node (hgd : o.guard = none) (x : Operand) (ho : o.op = .load 27 x) (g : Nat) (h : Hd) (v : Value)
    (hx : a.eval x = .pointer (some ⟨g, 0, none⟩)) (hg : Blk w g 27 (h.cells v).toArray)
    (H : wpList Tryz.prog ops Q rest (a.put o.dst (.agg (h.cells v).toArray)) w) : wpList Tryz.prog ops Q (o :: rest) a w := by
  refine wpList_load_cells hgd 27 x ho ⟨g, 0, none⟩ hx (h.cells v) _ Tryz.underlying27 rfl (by rw [Tryz.sizeNode]; rfl) (fun j u hu => ?_) H
  rw [Addr.add_lit, Nat.zero_add, hg.cell]
  simpa using hu
end
section
variable {w : World} {ops : Array Oper} {rest : List Oper} {o : Oper} {a : Act} {Q : Exit → Act → World → Prop}
/-- A set is stored into its block. -/
theorem wpList_store_set (hgd : o.guard = none) (x v : Operand) (ho : o.op = .store 24 x v) (g : Nat) (cur : Array Value) (S : Nat → Bool)
    (hx : a.eval x = .pointer (some ⟨g, 0, none⟩)) (hv : a.eval v = setV S) (hg : Blk w g 24 cur) (hc : cur.size = 4)
    (H : ∀ w', Blk w' g 24 (setC S).toArray → w.grownBy w' (some g) → w'.heap.size = w.heap.size → wpList Tryz.prog ops Q rest (a.put o.dst undef) w') : wpList Tryz.prog ops Q (o :: rest) a w := by
  refine wpList_store_row hgd 24 x v ho g 0 _ cur _ hx hv hg (by rw [Tryz.sizeSetO]; rfl) (by rw [hc]; exact Nat.le_refl _) (by simp [Value.oneCell', setC]) ?_
  intro w' hrow hg' hz
  have hrow2 := hrow.out
  rw [splice_full (by rw [Array.length_toList, Array.length_toList, hc]; rfl)] at hrow2
  exact H w' hrow2 hg' hz
theorem wpList_load_set (hgd : o.guard = none) (x : Operand) (ho : o.op = .load 24 x) (g : Nat) (S : Nat → Bool)
    (hx : a.eval x = .pointer (some ⟨g, 0, none⟩)) (hg : Blk w g 24 (setC S).toArray)
    (H : wpList Tryz.prog ops Q rest (a.put o.dst (setV S)) w) : wpList Tryz.prog ops Q (o :: rest) a w := by
  refine wpList_load_cells hgd 24 x ho ⟨g, 0, none⟩ hx (setC S) _ Tryz.underlying24 rfl (by rw [Tryz.sizeSetO]; rfl) (fun j u hu => ?_) H
  rw [Addr.add_lit, Nat.zero_add, hg.cell]
  simpa using hu
end
theorem node_result {fn : Func} {p : Tmp} (h : fn.results = #[.cell p 27]) (tmps : Array Value) (w : World) (g : Nat) (hd : Hd) (v : Value)
    (hp : tmps.getD p undef = .pointer (some ⟨g, 0, none⟩)) (hg : Blk w g 27 (hd.cells v).toArray) : (results fn tmps).run Tryz.prog w = .ok (.agg (hd.cells v).toArray) w :=
  results_cell_row h tmps w g _ _ (0, 0) _ hp hg Tryz.underlying27 rfl (by rw [Tryz.sizeNode]; rfl)

theorem RdG.opened {y z : World} {ty : TypeId} {gr B0 d : Nat} {cs : Array Value} {ov v : Value} {l : List Int} (h : RdG y ty gr B0 cs ov d) (hg : y.grownBy z ov.ownBlock) (ho : OwnInts B0 z v l) (k : Nat) : RdG (z.setCell ⟨gr, k, none⟩ v) ty gr B0 (cs.setIfInBounds k v) v l.length := by
  have hb : Blk z gr ty cs := h.box.grown hg (fun e => h.ne gr e.symm rfl)
  exact ⟨hb.set_ k v, ⟨l, rfl, ho.same (ok := fun b => b ≠ gr) ((Same.refl _ _).set (fun e => e rfl) v) (fun b hbk => by
    obtain ⟨c2, hc2⟩ := ho.blk hbk
    exact fun e => (blk_ne6 hb hc2 h.nty.1) e.symm)⟩, h.base, h.nty⟩
/-- A tree whose memory lies from lo on, below hi, not in block x. -/
def TB (w : World) (lo hi : Nat) (x : Option Nat) (t : T) (B : Option Addr) : Prop := T.In w (fun b => lo ≤ b ∧ b < hi ∧ x ≠ some b) t B
section
variable {w w' : World} {lo lo' hi gr B0 g : Nat} {x x' : Option Nat} {t : T} {B : Option Addr}
theorem TB.grown (h : TB w lo hi x t B) (hg : w.grownBy w' (some g)) (h1 : hi ≤ g) (h2 : hi ≤ w.heap.size) : TB w' lo hi x t B :=
  h.same (ok := fun b => lo ≤ b ∧ b < hi ∧ x ≠ some b) (fun b hb => hg.block b (by have := hb.2.1; omega) (fun e => by have := Option.some.inj e; have := hb.2.1; omega)) fun b hb => hb
theorem TB.grown2 (h : TB w lo hi x t B) (hg : w.grownBy w' (some g)) (h1 : g < lo) (h2 : hi ≤ w.heap.size) : TB w' lo hi x t B :=
  h.same (ok := fun b => lo ≤ b ∧ b < hi ∧ x ≠ some b) (fun b hb => hg.block b (by have := hb.2.1; omega) (fun e => by have := Option.some.inj e; have := hb.1; omega)) fun b hb => hb
theorem TB.next (h : TB w lo hi x t B) (hb : Below w.heap.size w w') (h2 : hi ≤ w.heap.size) : TB w' lo hi x t B :=
  h.same ((same_of_below hb).mono fun b hb2 => by have := hb2.2.1; omega) fun b hb => hb
theorem TB.rdf (h : TB w lo hi x t B) (k : RdF gr B0 x x' w w') (h1 : gr < lo) (h2 : hi ≤ w.heap.size) : TB w' lo hi x' t B :=
  h.same (k.same.mono fun b hb => ⟨by have := hb.2.1; omega, by have := hb.1; omega, hb.2.2⟩) fun b hb => ⟨hb.1, hb.2.1, fun e => by
    rcases k.blk b e with e2 | e2
    · exact hb.2.2 e2
    · have := hb.2.1; omega⟩
theorem TB.set (h : TB w lo hi x t B) (h1 : gr < lo) (k : Nat) (u : Value) : TB (w.setCell ⟨gr, k, none⟩ u) lo hi x t B :=
  h.same (ok := fun b => lo ≤ b ∧ b < hi ∧ x ≠ some b) ((Same.refl _ _).set (fun e => by have h3 : lo ≤ gr := e.1; omega) u) fun b hb => hb
theorem TB.in_ (h : TB w lo hi x t B) (h1 : lo' ≤ lo) (h2 : hi ≤ w.heap.size) : T.In w (fun b => lo' ≤ b ∧ b < w.heap.size ∧ x ≠ some b) t B :=
  h.same (Same.refl _ _) fun b hb => ⟨by have := hb.1; omega, by have := hb.2.1; omega, hb.2.2⟩
theorem TB.all (h : TB w lo hi x t B) (h2 : hi ≤ w.heap.size) : T.In w (· < w.heap.size) t B :=
  h.same (Same.refl _ _) fun b hb => by have := hb.2.1; omega
theorem TB.of (h : T.In w (fun b => lo ≤ b ∧ b < hi ∧ x ≠ some b) t B) : TB w lo hi x t B := h
end
/-- A new tree, made beside a reader. -/
theorem fresh_tb {w w' : World} {t : T} {e : Ending} {x : Option Nat} (h : Fresh t w e w') (hx : ∀ b, x = some b → b < w.heap.size) : ∃ B c, e = .returned (.agg (t.hd.cells (.slice B t.subs.length c)).toArray) ∧ TB w' w.heap.size w'.heap.size x t B ∧ Below w.heap.size w w' := by
  obtain ⟨B, c, bs, h1, h2, h3, h4, h5⟩ := h
  exact ⟨B, c, h1, h2.in_ fun b hb => ⟨(h4 b hb).1, (h4 b hb).2, fun e => by have := hx b e; have := (h4 b hb).1; omega⟩, h5⟩
section
variable {w : World} {ops : Array Oper} {rest : List Oper} {o : Oper} {a : Act} {Q : Exit → Act → World → Prop}
/-- The list of open groups grows. -/
theorem wpList_append_open (hgd : o.guard = none) (s x : Operand) (ho : o.op = .call { callee := .builtin .append, args := #[s, x], argTypes := #[68, 68] })
    (base : Nat) (v : Value) (l : List Int) (hs : a.eval s = v) (hg : OwnInts base w v l) (n : Int) (g cap : Nat)
    (hx : a.eval x = .slice (some ⟨g, 0, none⟩) 1 cap) (hb : Blk w g 3 #[.int .i64 n]) (hl : l.length < 1000000) (hbase : base ≤ w.heap.size)
    (h : ∀ v' w', OwnInts base w' v' (l ++ [n]) → w.grownBy w' v.ownBlock → (v'.ownBlock = v.ownBlock ∨ v'.ownBlock = some w.heap.size) → wpList Tryz.prog ops Q rest (a.put o.dst v') w') : wpList Tryz.prog ops Q (o :: rest) a w := by
  obtain ⟨i, hi, hz0, hz1, hz2⟩ := info_parts Tryz.infoInt
  refine wpList_append_own_at w hgd s x 68 ho base 3 i _ 1 8 Tryz.underlying68 hi hz0 hz1 hz2 rfl (by decide) v l.length _ hs hg ⟨g, 0, none⟩ 1 cap [.int .i64 n] hx rfl ?_ (by simp [Value.oneCell']) (by simp only [maxLen]; omega) (by omega) hbase ?_
  · intro j u hu
    rw [Addr.add_lit, Nat.zero_add, hb.cell]
    simpa using hu
  intro v' w' hown hgr _ hat
  refine h v' w' ?_ hgr hat
  simpa [OwnInts] using hown
end
end Go.Proofs.YtpkcklpjbeginaaGreatDoor
