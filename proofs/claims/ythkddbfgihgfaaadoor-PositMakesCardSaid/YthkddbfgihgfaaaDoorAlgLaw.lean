/- The plain law of ReachAlgebra: seven pairs of trees that take the same pieces; trees in memory that is kept. -/
import Derived.Test.YthkddbfgihgfaaaDoorEnds
import Derived.Test.YthkddbfgihgfaaaDoorMake2
set_option linter.unusedSimpArgs false
set_option linter.unusedVariables false
namespace Go.Proofs.YthkddbfgihgfaaaDoor
open Go.RowKit

/-! ### The pairs -/
def tseq (l : List T) : T := .mk ⟨5, 0, 0, 0, 0, 0, 0, 0, false⟩ l
def talt (l : List T) : T := .mk ⟨6, 0, 0, 0, 0, 0, 0, 0, false⟩ l
def trep (a : T) (mn mx : Int) : T := .mk ⟨8, 0, 0, 0, 0, 0, mn, mx, false⟩ [a]
def tnil : T := .mk ⟨1, 0, 0, 0, 0, 0, 0, 0, false⟩ []
def tnone : T := .mk ⟨2, 0, 0, 0, 0, 0, 0, 0, false⟩ []

def pairs (a b : T) : List (T × T) :=
  [(talt [a, b], talt [b, a]), (tseq [tseq [a, b], a], tseq [a, tseq [b, a]]), (tseq [a, tnil], a), (talt [a, tnone], a), (trep (trep a 0 (-1)) 0 (-1), trep a 0 (-1)), (trep a 0 1, talt [tnil, a]), (tseq [talt [a, b], a], talt [tseq [a, a], tseq [b, a]])]

theorem rseq_R (x : Sc) (l : List T) (i j : Nat) : (tseq l).R x i j ↔ TL.Rseq x l i j := by rw [T.R_eq]; simp [tseq, T.hd, T.subs]
theorem ralt_R (x : Sc) (l : List T) (i j : Nat) : (talt l).R x i j ↔ TL.Ralt x l i j := by rw [T.R_eq]; simp [talt, T.hd, T.subs]
theorem rnil_R (x : Sc) (i j : Nat) : tnil.R x i j ↔ i = j := by rw [T.R_eq]; simp [tnil, T.hd]
theorem rnone_R (x : Sc) (i j : Nat) : ¬ tnone.R x i j := by
  rw [T.R_eq]
  have : ∀ b, tnone.hd.has b = false := fun b => by
    unfold Hd.has
    have : tnone.hd.word (b / 64) = 0 := by unfold Hd.word; simp [tnone, T.hd]
    rw [this]
    simp
  simp only [this]
  simp [tnone, T.hd]
theorem rrep_R (x : Sc) (a : T) (mn mx : Int) (i j : Nat) : (trep a mn mx).R x i j ↔ ∃ k : Nat, mn ≤ k ∧ (mx = -1 ∨ (k : Int) ≤ mx) ∧ Iter (a.R x) k i j := by
  rw [T.R_eq]; simp [trep, T.hd, T.subs, TL.Rone]

theorem iter_star {R : Nat → Nat → Prop} {i j : Nat} : (∃ k, Iter (fun i j => ∃ q, Iter R q i j) k i j) ↔ ∃ q, Iter R q i j := by
  constructor
  · rintro ⟨k, h⟩
    induction k generalizing j with
    | zero => exact ⟨0, h⟩
    | succ k ih =>
      obtain ⟨m, h1, q, h2⟩ := h
      obtain ⟨p, h3⟩ := ih h1
      exact ⟨p + q, Iter.add.2 ⟨m, h3, h2⟩⟩
  · rintro ⟨q, h⟩
    exact ⟨1, i, rfl, q, h⟩

theorem pairs_same (a b : T) (x : Sc) (p : T × T) (hp : p ∈ pairs a b) (i j : Nat) : p.1.R x i j ↔ p.2.R x i j := by
  simp only [pairs, List.mem_cons, List.not_mem_nil, or_false] at hp
  rcases hp with e | e | e | e | e | e | e <;> subst e
  · simp only [ralt_R, TL.Ralt, or_false]; exact or_comm
  · simp only [rseq_R, TL.Rseq]
    constructor
    · rintro ⟨m, ⟨p, h1, q, h2, h3⟩, r, h4, h5⟩
      subst h3; subst h5
      exact ⟨p, h1, _, ⟨_, h2, _, h4, rfl⟩, rfl⟩
    · rintro ⟨p, h1, r, ⟨m, h2, q, h4, h3⟩, h5⟩
      subst h3; subst h5
      exact ⟨m, ⟨p, h1, m, h2, rfl⟩, _, h4, rfl⟩
  · simp only [rseq_R, TL.Rseq, rnil_R]
    constructor
    · rintro ⟨m, h1, q, h2, h3⟩; subst h2; subst h3; exact h1
    · intro h; exact ⟨j, h, j, rfl, rfl⟩
  · simp only [ralt_R, TL.Ralt, or_false]
    constructor
    · rintro (h | h)
      · exact h
      · exact absurd h (rnone_R x i j)
    · exact .inl
  · have h1 : ∀ i j, (trep a 0 (-1)).R x i j ↔ ∃ q, Iter (a.R x) q i j := fun i j => by
      rw [rrep_R]
      constructor
      · rintro ⟨k, _, _, h⟩; exact ⟨k, h⟩
      · rintro ⟨k, h⟩; exact ⟨k, by omega, .inl rfl, h⟩
    have h2 : (trep a 0 (-1)).R x = fun i j => ∃ q, Iter (a.R x) q i j := by funext i j; exact propext (h1 i j)
    show (trep (trep a 0 (-1)) 0 (-1)).R x i j ↔ _
    rw [rrep_R, h1, h2, ← iter_star]
    constructor
    · rintro ⟨k, _, _, h⟩; exact ⟨k, h⟩
    · rintro ⟨k, h⟩; exact ⟨k, by omega, .inl rfl, h⟩
  · simp only [ralt_R, TL.Ralt, or_false, rnil_R]
    show (trep a 0 1).R x i j ↔ _
    rw [rrep_R]
    constructor
    · rintro ⟨k, _, h1, h⟩
      have : k = 0 ∨ k = 1 := by omega
      rcases this with e | e <;> subst e
      · exact .inl h
      · exact .inr (Iter.one.1 h)
    · rintro (h | h)
      · exact ⟨0, by omega, .inr (by omega), h⟩
      · exact ⟨1, by omega, .inr (by omega), Iter.one.2 h⟩
  · simp only [rseq_R, ralt_R, TL.Rseq, TL.Ralt, or_false]
    constructor
    · rintro ⟨m, h1 | h1, h2⟩
      · exact .inl ⟨m, h1, h2⟩
      · exact .inr ⟨m, h1, h2⟩
    · rintro (⟨m, h1, h2⟩ | ⟨m, h1, h2⟩)
      · exact ⟨m, .inl h1, h2⟩
      · exact ⟨m, .inr h1, h2⟩

theorem pairs_fit (a b : T) (ha : a.wf) (hb : b.wf) (na : a.nodes ≤ 2500) (nb : b.nodes ≤ 2500) (p : T × T) (hp : p ∈ pairs a b) : p.1.wf ∧ p.2.wf ∧ p.1.nodes ≤ 1000000 ∧ p.2.nodes ≤ 1000000 := by
  simp only [pairs, List.mem_cons, List.not_mem_nil, or_false] at hp
  rcases hp with e | e | e | e | e | e | e <;> subst e <;>
    simp [talt, tseq, trep, tnil, tnone, T.wf, TL.wf, Hd.wf, IsI64, IsU64, T.nodes, TL.nodes, ha, hb] <;> omega

/-- The list of pairs lies in block g. -/
def PairsIn (w : World) (g : Nat) (l : List (T × T)) : Prop :=
  g < w.heap.size ∧ ∀ k p, l[k]? = some p → ∃ B c C d, CellsAt w ⟨g, k * 20, none⟩ (p.1.hd.cells (.slice B p.1.subs.length c)) ∧ CellsAt w ⟨g, k * 20 + 10, none⟩ (p.2.hd.cells (.slice C p.2.subs.length d)) ∧ T.In w (· < w.heap.size) p.1 B ∧ T.In w (· < w.heap.size) p.2 C
theorem PairsIn.next {w w' : World} {g : Nat} {l : List (T × T)} (h : PairsIn w g l) (hb : Below w.heap.size w w') : PairsIn w' g l := by
  refine ⟨Nat.lt_of_lt_of_le h.1 hb.size, fun k p hp => ?_⟩
  obtain ⟨B, c, C, d, h1, h2, h3, h4⟩ := h.2 k p hp
  exact ⟨B, c, C, d, h1.same (same_of_below hb) h.1, h2.same (same_of_below hb) h.1, h3.next hb, h4.next hb⟩
end Go.Proofs.YthkddbfgihgfaaaDoor
