/- The plain law: the turned tree takes in the turned scene just what the tree takes. -/
import Derived.Test.YtkghlebfmggidaaDoorPlaces
import Derived.Test.YtkghlebfmggidaaDoorTurnLaw
set_option linter.unusedSimpArgs false
set_option linter.unusedVariables false
namespace Go.Proofs.YtkghlebfmggidaaDoor

/-- y is x read from its end. -/
structure Mirror (x y : Sc) : Prop where
  len : y.len = x.len
  byte : ∀ i, i < x.len → y.text.data.toList.getD i 0 = x.text.data.toList.getD (x.len - 1 - i) 0
  beg : ∀ i, i ≤ x.len → (y.mark i).testBit 0 = (x.mark (x.len - i)).testBit 1
  end_ : ∀ i, i ≤ x.len → (y.mark i).testBit 1 = (x.mark (x.len - i)).testBit 0

def Mir (n : Nat) (R S : Nat → Nat → Prop) : Prop := ∀ i j, i ≤ n → j ≤ n → (S (n - j) (n - i) ↔ R i j)

theorem Mir.eq (n : Nat) : Mir n (fun i j => i = j) (fun i j => i = j) := fun i j hi hj => by
  constructor <;> intro h <;> omega
theorem Mir.comp {n : Nat} {R S R' S' : Nat → Nat → Prop} (h : Mir n R S) (h' : Mir n R' S') (hR : Fwd n R) (hS : Fwd n S') :
    Mir n (fun i j => ∃ m, R i m ∧ R' m j) (fun i j => ∃ m, S' i m ∧ S m j) := fun i j hi hj => by
  constructor
  · rintro ⟨m, h1, h2⟩
    have hm := (hS _ _ h1).2 (by omega)
    refine ⟨n - m, (h i (n - m) hi (by omega)).1 ?_, (h' (n - m) j (by omega) hj).1 ?_⟩
    · rw [show n - (n - m) = m by omega]; exact h2
    · rw [show n - (n - m) = m by omega]; exact h1
  · rintro ⟨m, h1, h2⟩
    have hm := (hR _ _ h1).2 hi
    exact ⟨n - m, (h' m j hm hj).2 h2, (h i m hi hm).2 h1⟩
theorem Mir.iter {n : Nat} {R S : Nat → Nat → Prop} (h : Mir n R S) (hR : Fwd n R) (hS : Fwd n S) : ∀ k, Mir n (Iter R k) (Iter S k)
  | 0 => Mir.eq n
  | k + 1 => fun i j hi hj => by
    have := Mir.comp (Mir.iter h hR hS k) h (Iter.fwd hR k) hS i j hi hj
    rw [Iter.front]
    exact this

theorem TL.Rseq_append (x : Sc) : ∀ (a b : List T) (i j : Nat), TL.Rseq x (a ++ b) i j ↔ ∃ m, TL.Rseq x a i m ∧ TL.Rseq x b m j
  | [], b, i, j => by simp [TL.Rseq]
  | t :: a, b, i, j => by
    simp only [List.cons_append, TL.Rseq, TL.Rseq_append x a b]
    constructor
    · rintro ⟨m, h1, p, h2, h3⟩; exact ⟨p, ⟨m, h1, h2⟩, h3⟩
    · rintro ⟨p, ⟨m, h1, h2⟩, h3⟩; exact ⟨m, h1, p, h2, h3⟩
theorem TL.Rseq_one (x : Sc) (t : T) (i j : Nat) : TL.Rseq x [t] i j ↔ t.R x i j := by simp [TL.Rseq]
theorem TL.Ralt_append (x : Sc) : ∀ (a b : List T) (i j : Nat), TL.Ralt x (a ++ b) i j ↔ TL.Ralt x a i j ∨ TL.Ralt x b i j
  | [], b, i, j => by simp [TL.Ralt]
  | t :: a, b, i, j => by simp only [List.cons_append, TL.Ralt, TL.Ralt_append x a b, or_assoc]

theorem Hd.turn_has (h : Hd) (b : Nat) : h.turn.has b = h.has b := by
  obtain ⟨r0, r1, r2, r3, _⟩ := h.turn_rest
  simp only [Hd.has, Hd.word, r0, r1, r2, r3]

mutual
theorem T.R_mirror {x y : Sc} (hm : Mirror x y) : ∀ t : T, Mir x.len (t.R x) (t.turn.R y)
  | .mk h l, i, j, hi, hj => by
    have hseq := TL.Rseq_mirror hm l i j hi hj
    have halt := TL.Ralt_mirror hm l i j hi hj
    have hone := TL.Rone_mirror hm l
    obtain ⟨_, _, _, _, _, r5, r6, _⟩ := h.turn_rest
    have k1 := h.turn_kind 1 (by decide) (by decide)
    have k2 := h.turn_kind 2 (by decide) (by decide)
    have k5 := h.turn_kind 5 (by decide) (by decide)
    have k6 := h.turn_kind 6 (by decide) (by decide)
    have k7 := h.turn_kind 7 (by decide) (by decide)
    have k3 : h.turn.kind = 3 ↔ h.kind = 4 := by
      unfold Hd.turn
      split
      · rename_i k; simp [k]
      · split
        · rename_i k; simp [k]
        · rename_i k k'; simp [k, k']
    have k4 : h.turn.kind = 4 ↔ h.kind = 3 := by
      unfold Hd.turn
      split
      · rename_i k; simp [k]
      · split
        · rename_i k; simp [k]
        · rename_i k k'; simp [k, k']
    simp only [T.turn, T.R, k1, k2, k3, k4, k5, k6, k7, r5, r6, Hd.turn_has]
    by_cases c1 : h.kind = 1
    · simp only [c1, if_true]; constructor <;> intro h <;> omega
    simp only [if_neg c1]
    by_cases c2 : h.kind = 2
    · simp only [c2, if_true]
      have hl := hm.len
      constructor
      · rintro ⟨h1, h2, h3⟩
        refine ⟨by omega, by omega, ?_⟩
        rw [hm.byte _ (by omega), show x.len - 1 - (x.len - j) = i by omega] at h3
        exact h3
      · rintro ⟨h1, h2, h3⟩
        refine ⟨by omega, by omega, ?_⟩
        rw [hm.byte _ (by omega), show x.len - 1 - (x.len - j) = i by omega]
        exact h3
    simp only [if_neg c2]
    by_cases c4 : h.kind = 4
    · simp only [c4, if_true, show ¬ ((4 : Int) = 3) by decide, if_false]
      constructor
      · rintro ⟨h1, h2⟩
        obtain rfl : i = j := by omega
        rw [hm.beg _ (by omega), show x.len - (x.len - i) = i by omega] at h2
        exact ⟨rfl, h2⟩
      · rintro ⟨rfl, h2⟩
        refine ⟨rfl, ?_⟩
        rw [hm.beg _ (by omega), show x.len - (x.len - i) = i by omega]
        exact h2
    simp only [if_neg c4]
    by_cases c3 : h.kind = 3
    · simp only [c3, if_true]
      constructor
      · rintro ⟨h1, h2⟩
        obtain rfl : i = j := by omega
        rw [hm.end_ _ (by omega), show x.len - (x.len - i) = i by omega] at h2
        exact ⟨rfl, h2⟩
      · rintro ⟨rfl, h2⟩
        refine ⟨rfl, ?_⟩
        rw [hm.end_ _ (by omega), show x.len - (x.len - i) = i by omega]
        exact h2
    simp only [if_neg c3]
    by_cases c5 : h.kind = 5
    · simp only [c5, if_true]; exact hseq
    simp only [if_neg c5]
    by_cases c6 : h.kind = 6
    · simp only [c6, if_true]; exact halt
    simp only [if_neg c6]
    by_cases c7 : h.kind = 7
    · simp only [c7, if_true]; exact hone i j hi hj
    simp only [if_neg c7]
    have hit := fun k => Mir.iter hone (TL.Rone_fwd x l) (hm.len ▸ TL.Rone_fwd y (TL.turn l)) k i j hi hj
    constructor
    · rintro ⟨k, h1, h2, h3⟩; exact ⟨k, h1, h2, (hit k).1 h3⟩
    · rintro ⟨k, h1, h2, h3⟩; exact ⟨k, h1, h2, (hit k).2 h3⟩
theorem TL.Rseq_mirror {x y : Sc} (hm : Mirror x y) : ∀ l : List T, Mir x.len (TL.Rseq x l) (TL.Rseq y (TL.turn l).reverse)
  | [] => fun i j hi hj => by
    simp only [TL.turn, List.reverse_nil, TL.Rseq]
    constructor <;> intro h <;> omega
  | t :: ts => fun i j hi hj => by
    have := Mir.comp (T.R_mirror hm t) (TL.Rseq_mirror hm ts) (T.R_fwd x t) (hm.len ▸ TL.Rseq_fwd y (TL.turn ts).reverse) i j hi hj
    simp only [TL.turn, List.reverse_cons, TL.Rseq_append, TL.Rseq_one]
    exact this
theorem TL.Ralt_mirror {x y : Sc} (hm : Mirror x y) : ∀ l : List T, Mir x.len (TL.Ralt x l) (TL.Ralt y (TL.turn l))
  | [] => fun i j hi hj => Iff.rfl
  | t :: ts => fun i j hi hj => or_congr (T.R_mirror hm t i j hi hj) (TL.Ralt_mirror hm ts i j hi hj)
theorem TL.Rone_mirror {x y : Sc} (hm : Mirror x y) : ∀ l : List T, Mir x.len (TL.Rone x l) (TL.Rone y (TL.turn l))
  | [] => fun i j hi hj => Iff.rfl
  | t :: ts => T.R_mirror hm t
end
end Go.Proofs.YtkghlebfmggidaaDoor
