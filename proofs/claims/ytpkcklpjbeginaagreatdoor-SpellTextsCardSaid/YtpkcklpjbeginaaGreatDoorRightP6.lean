/- What reading an extended pattern yields is a right, tidy tree, its groups numbered from the left; a fault's place is one of the pattern's, in plain Lean. -/
import Derived.Test.YtpkcklpjbeginaaGreatDoorEreP
set_option linter.unusedSimpArgs false
set_option linter.unusedVariables false
namespace Go.Proofs.YtpkcklpjbeginaaGreatDoor
open Go.RowKit

mutual
/-- What the law's tidy answers: the greatest group met so far; -1: the tree is not tidy. -/
def T.tid (na : Bool) : T → Int → Bool → Int
 | .mk h l, g, r => if (na && h.kind == 6) || h.bare || (r && h.kind == 8) then -1
  else if h.kind = 7 then (if h.num ≠ g + 1 then -1 else TL.tid na (h.kind == 8) l (g + 1))
  else TL.tid na (h.kind == 8) l g
def TL.tid (na k8 : Bool) : List T → Int → Int
 | [], g => g
 | t :: ts, g => if 0 ≤ g then TL.tid na k8 ts (t.tid na g k8) else g
end
/-- A tree that was read, g groups met ahead of it, h behind. -/
structure Gd (na : Bool) (t : T) (g h : Nat) (D : Int) : Prop where
 form : t.form = true
 dep : t.depth ≤ D
 tid : t.tid na g false = h
 tid8 : t.hd.kind ≠ 8 → t.tid na g true = h
 ge : g ≤ h
structure LGd (na : Bool) (l : List T) (g h : Nat) (D : Int) : Prop where
 form : TL.form l = true
 dep : ∀ t, t ∈ l → t.depth ≤ D
 tid : TL.tid na false l g = h
 ge : g ≤ h
theorem TL.tid_snoc (na k8 : Bool) (l : List T) (t : T) (g : Int) (h : 0 ≤ TL.tid na k8 l g) : TL.tid na k8 (l ++ [t]) g = t.tid na (TL.tid na k8 l g) k8 := by
 induction l generalizing g with
 | nil => simp only [List.nil_append, TL.tid] at h ⊢; rw [if_pos h]
 | cons x l ih =>
  simp only [List.cons_append, TL.tid] at h ⊢
  by_cases hg : 0 ≤ g
  ·rw [if_pos hg] at h ⊢
   rw [if_pos hg]
   exact ih _ h
  ·rw [if_neg hg] at h; omega
theorem TL.form_snoc (l : List T) (t : T) (h1 : TL.form l = true) (h2 : t.form = true) : TL.form (l ++ [t]) = true := by
 induction l with
 | nil => simp [TL.form, h2]
 | cons x l ih =>
  simp only [List.cons_append, TL.form, Bool.and_eq_true] at h1 ⊢
  exact ⟨h1.1, ih h1.2⟩
theorem LGd.nil (na : Bool) (g : Nat) (D : Int) : LGd na [] g g D := ⟨rfl, (fun t ht => by cases ht), rfl, Nat.le_refl _⟩
theorem LGd.snoc {na : Bool} {l : List T} {t : T} {g h k : Nat} {D : Int} (h1 : LGd na l g h D) (h2 : Gd na t h k D) : LGd na (l ++ [t]) g k D := by
 refine ⟨TL.form_snoc l t h1.form h2.form, fun s hs => ?_, ?_, Nat.le_trans h1.ge h2.ge⟩
 ·rcases List.mem_append.1 hs with hs | hs
  ·exact h1.dep s hs
  ·rw [List.mem_singleton.1 hs]; exact h2.dep
 ·rw [TL.tid_snoc na false l t _ (by rw [h1.tid]; omega), h1.tid, h2.tid]
theorem TL.depth_le : ∀ (l : List T) (n D : Int), n ≤ D → (∀ t, t ∈ l → t.depth ≤ D) → TL.depth l n ≤ D
 | [], n, D, h, _ => h
 | t :: ts, n, D, h, hl => by
  rw [TL.depth]
  exact TL.depth_le ts _ D (mx2_le h (hl t (List.mem_cons_self))) fun s hs => hl s (List.mem_cons_of_mem _ hs)
theorem node_depth (h : Hd) (l : List T) (D : Int) (hD : 0 ≤ D) (hl : ∀ t, t ∈ l → t.depth ≤ D) : (T.mk h l).depth ≤ D + 2 ∧ (h.kind ≠ 8 → (T.mk h l).depth ≤ D + 1) := by
 have h1 := TL.depth_le l 0 D hD hl
 rw [T.depth]
 refine ⟨by split <;> omega, fun hk => ?_⟩
 have : h.deeper l.length = false := by unfold Hd.deeper; simp [hk]
 rw [this]
 simp
 omega
theorem Gd.mono {na : Bool} {t : T} {g h : Nat} {D D' : Int} (h1 : Gd na t g h D) (hD : D ≤ D') : Gd na t g h D' := ⟨h1.form, by have := h1.dep; omega, h1.tid, h1.tid8, h1.ge⟩
theorem Gd.seq {na : Bool} {l : List T} {g h : Nat} {D : Int} (h1 : LGd na l g h D) (hD : 0 ≤ D) : Gd na (T.seq l) g h (D + 1) := by
 match l, h1 with
 | [], h1 =>
  have he : g = h := by have := h1.tid; simp only [TL.tid] at this; omega
  subst he
  refine ⟨rfl, ?_, ?_, fun _ => ?_, Nat.le_refl _⟩
  ·have : (T.seq []).depth = 1 := rfl
   omega
  ·simp [T.seq, T.tid, TL.tid]
  ·simp [T.seq, T.tid, TL.tid]
 | [t], h1 =>
  have h2 := h1.tid
  simp only [TL.tid] at h2
  rw [if_pos (by omega)] at h2
  have h3 := h1.form
  simp only [TL.form, Bool.and_true] at h3
  refine ⟨h3, by have := h1.dep t (List.mem_singleton.2 rfl); show t.depth ≤ D + 1; omega, h2, fun hk => ?_, h1.ge⟩
  have : ∀ (t : T), t.hd.kind ≠ 8 → t.tid na g true = t.tid na g false := fun t hk => by
   cases t with
   | mk hh l => simp only [T.hd] at hk; simp [T.tid, hk]
  show t.tid na g true = h
  rw [this t hk]; exact h2
 | x :: y :: r, h1 =>
  have h2 := h1.tid
  refine ⟨?_, ((node_depth _ (x :: y :: r) D hD h1.dep).2 (by decide)), ?_, fun _ => ?_, h1.ge⟩
  ·rw [T.form_eq]
   simp only [T.seq, T.hd, T.subs, h1.form, Bool.and_true]
   simp [Hd.formed, Hd.noSet, Hd.plain]
   omega
  ·simp [T.seq, T.tid, h2]
  ·simp [T.seq, T.tid, h2]
/-- What reading yields is good. -/
def PR.Gd (na : Bool) (r : PR) (p : ByteArray) (g dd : Nat) (D : Int) : Prop := match r with
 | .ok t j h => Proofs.YtpkcklpjbeginaaGreatDoor.Gd na t g h D ∧ 2 * h ≤ j + dd
 | .bad _ pl => 0 ≤ pl ∧ pl ≤ p.size
end Go.Proofs.YtpkcklpjbeginaaGreatDoor
