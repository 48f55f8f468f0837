/- A tree takes just the pieces that its positions lead over; and written out, what it takes stays. -/
import Derived.Test.YtbbhobojghmkpaaDoorLaidLaw
import Derived.Test.YtbbhobojghmkpaaDoorPlaces
set_option linter.unusedSimpArgs false
set_option linter.unusedVariables false
namespace Go.Proofs.YtbbhobojghmkpaaDoor
open Go.RowKit

/-! ## Ways -/
section
variable {m : Nat → Nat} {ok : Nat → Nat → Prop}

/-- From place i behind position p to place j behind position q, over positions from a up to b. -/
inductive Run (m : Nat → Nat) (ok : Nat → Nat → Prop) (a b : Nat) (M : Nat → Nat → Nat) (i p : Nat) : Nat → Nat → Prop
  | here : Run m ok a b M i p i p
  | step {j q r : Nat} : Run m ok a b M i p j q → (a ≤ r ∧ r < b) → (M q r).testBit (m j) = true → ok r j → Run m ok a b M i p (j + 1) r

/-- A part's positions lead from place i to place j. -/
def Leads (m : Nat → Nat) (ok : Nat → Nat → Prop) (a b : Nat) (x : Pt) (M : Nat → Nat → Nat) (i j : Nat) : Prop :=
  (i = j ∧ x.null.testBit (m i) = true) ∨ ∃ p q, (a ≤ p ∧ p < b) ∧ (x.fst p).testBit (m i) = true ∧ ok p i ∧ Run m ok a b M (i + 1) p j q ∧ (x.lst q).testBit (m j) = true

theorem bit_ne {v k : Nat} (h : v.testBit k = true) : v ≠ 0 := fun e => by
  rw [e, Nat.zero_testBit] at h
  cases h
theorem fifteen {k : Nat} (hk : k < 4) : (15 : Nat).testBit k = true := by
  have : k = 0 ∨ k = 1 ∨ k = 2 ∨ k = 3 := by omega
  rcases this with e | e | e | e <;> subst e <;> rfl
theorem led_bit {M : Nat → Nat → Nat} {l f : Nat → Nat} {p q k : Nat} (hk : k < 4) : (ledM M l f 15 p q).testBit k = ((M p q).testBit k || ((l p).testBit k && (f q).testBit k)) := by
  unfold ledM
  rw [Nat.testBit_or, Nat.testBit_and, Nat.testBit_and, fifteen hk, Bool.and_true]
theorem led_bit_iff {M : Nat → Nat → Nat} {l f : Nat → Nat} {p q k : Nat} (hk : k < 4) : (ledM M l f 15 p q).testBit k = true ↔ (M p q).testBit k = true ∨ ((l p).testBit k = true ∧ (f q).testBit k = true) := by
  rw [led_bit hk, Bool.or_eq_true, Bool.and_eq_true]
theorem or_bit {u v k : Nat} : (u ||| v).testBit k = true ↔ u.testBit k = true ∨ v.testBit k = true := by rw [Nat.testBit_or, Bool.or_eq_true]
theorem and_bitG {u v k : Nat} : (u &&& v).testBit k = true ↔ u.testBit k = true ∧ v.testBit k = true := by rw [Nat.testBit_and, Bool.and_eq_true]

variable {a b c i p j q : Nat} {x y : Pt} {M M' : Nat → Nat → Nat}
theorem Run.range (h : Run m ok a b M i p j q) (hp : a ≤ p ∧ p < b) : a ≤ q ∧ q < b := by
  cases h with
  | here => exact hp
  | step _ h _ _ => exact h
theorem Run.trans {k r : Nat} (h : Run m ok a b M i p k r) (h2 : Run m ok a b M k r j q) : Run m ok a b M i p j q := by
  induction h2 with
  | here => exact h
  | step _ h3 h4 h5 ih => exact ih.step h3 h4 h5
theorem Run.stay {lo hi : Nat} (H : ∀ p q k, (lo ≤ p ∧ p < hi) → (a ≤ q ∧ q < c) → (M' p q).testBit (m k) = true → (lo ≤ q ∧ q < hi) ∧ (M p q).testBit (m k) = true)
    (h : Run m ok a c M' i p j q) (hp : lo ≤ p ∧ p < hi) : (lo ≤ q ∧ q < hi) ∧ Run m ok lo hi M i p j q := by
  induction h with
  | here => exact ⟨hp, .here⟩
  | step _ h3 h4 h5 ih =>
    obtain ⟨h6, h7⟩ := H _ _ _ ih.1 h3 h4
    exact ⟨h6, ih.2.step h6 h7 h5⟩
theorem Run.mono {lo hi : Nat} (H : ∀ p q k, (a ≤ p ∧ p < b) → (a ≤ q ∧ q < b) → (M p q).testBit (m k) = true → (M' p q).testBit (m k) = true) (hlo : lo ≤ a) (hhi : b ≤ hi)
    (h : Run m ok a b M i p j q) (hp : a ≤ p ∧ p < b) : Run m ok lo hi M' i p j q := by
  have key : (a ≤ q ∧ q < b) ∧ Run m ok lo hi M' i p j q := by
    induction h with
    | here => exact ⟨hp, .here⟩
    | step _ h3 h4 h5 ih => exact ⟨h3, ih.2.step ⟨by omega, by omega⟩ (H _ _ _ ih.1 h3 h4) h5⟩
  exact key.2
theorem leads_congr (h : ∀ p q, (a ≤ p ∧ p < b) → (a ≤ q ∧ q < b) → M p q = M' p q) : Leads m ok a b x M i j ↔ Leads m ok a b x M' i j := by
  have one : ∀ {M M' : Nat → Nat → Nat}, (∀ p q, (a ≤ p ∧ p < b) → (a ≤ q ∧ q < b) → M p q = M' p q) → Leads m ok a b x M i j → Leads m ok a b x M' i j := by
    intro M M' h hl
    rcases hl with h1 | ⟨p, q, h1, h2, h3, h4, h5⟩
    · exact .inl h1
    · exact .inr ⟨p, q, h1, h2, h3, h4.mono (fun p q k h6 h7 h8 => by rw [← h p q h6 h7]; exact h8) (Nat.le_refl _) (Nat.le_refl _) h1, h5⟩
  exact ⟨one h, one fun p q h1 h2 => (h p q h1 h2).symm⟩

/-- Only positions from a up to b. -/
def Sup (a b : Nat) (f : Nat → Nat) : Prop := ∀ q, f q ≠ 0 → a ≤ q ∧ q < b

theorem run_split (hm : ∀ i, m i < 4) (hx : Sup a b x.lst) (hy : Sup b c y.fst) (h1 : ∀ p q, (a ≤ p ∧ p < b) → (b ≤ q ∧ q < c) → M p q = 0) (h2 : ∀ p q, (b ≤ p ∧ p < c) → (a ≤ q ∧ q < b) → M p q = 0)
    (h : Run m ok a c (ledM M x.lst y.fst 15) i p j q) (hp : a ≤ p ∧ p < b) :
    ((a ≤ q ∧ q < b) ∧ Run m ok a b M i p j q) ∨ ((b ≤ q ∧ q < c) ∧ ∃ k q1 q2, Run m ok a b M i p k q1 ∧ (x.lst q1).testBit (m k) = true ∧ (y.fst q2).testBit (m k) = true ∧ ok q2 k ∧ (b ≤ q2 ∧ q2 < c) ∧ Run m ok b c M (k + 1) q2 j q) := by
  induction h with
  | here => exact .inl ⟨hp, .here⟩
  | @step j q r _ h3 h4 h5 ih =>
    rw [led_bit_iff (hm _)] at h4
    rcases ih with ⟨h6, h7⟩ | ⟨h6, k, q1, q2, h7, h8, h9, h10, h11, h12⟩
    · rcases h4 with h4 | ⟨h4, h4'⟩
      · have h8 : a ≤ r ∧ r < b := by
          rcases Nat.lt_or_ge r b with h | h
          · exact ⟨h3.1, h⟩
          · exact absurd (h1 q r h6 ⟨h, h3.2⟩) (bit_ne h4)
        exact .inl ⟨h8, h7.step h8 h4 h5⟩
      · exact .inr ⟨hy r (bit_ne h4'), j, q, r, h7, h4, h4', h5, hy r (bit_ne h4'), .here⟩
    · rcases h4 with h4 | ⟨h4, h4'⟩
      · have h13 : b ≤ r ∧ r < c := by
          rcases Nat.lt_or_ge r b with h | h
          · exact absurd (h2 q r h6 ⟨h3.1, h⟩) (bit_ne h4)
          · exact ⟨h, h3.2⟩
        exact .inr ⟨h13, k, q1, q2, h7, h8, h9, h10, h11, h12.step h13 h4 h5⟩
      · have := hx q (bit_ne h4)
        omega

/-- A row of two. -/
theorem leads_seq (hm : ∀ i, m i < 4) (hab : a ≤ b) (hbc : b ≤ c) (hx1 : Sup a b x.fst) (hx : Sup a b x.lst) (hy : Sup b c y.fst) (hy2 : Sup b c y.lst) (h1 : ∀ p q, (a ≤ p ∧ p < b) → (b ≤ q ∧ q < c) → M p q = 0) (h2 : ∀ p q, (b ≤ p ∧ p < c) → (a ≤ q ∧ q < b) → M p q = 0) :
    Leads m ok a c (seqPt x y) (ledM M x.lst y.fst 15) i j ↔ ∃ k, Leads m ok a b x M i k ∧ Leads m ok b c y M k j := by
  have hR : ∀ {i p j q}, Run m ok a c (ledM M x.lst y.fst 15) i p j q → (b ≤ p ∧ p < c) → (b ≤ q ∧ q < c) ∧ Run m ok b c M i p j q := fun h hp => h.stay (fun p q k hp hq hb => by
    rw [led_bit_iff (hm _)] at hb
    rcases hb with hb | ⟨hb, _⟩
    · refine ⟨?_, hb⟩
      rcases Nat.lt_or_ge q b with h | h
      · exact absurd (h2 p q hp ⟨hq.1, h⟩) (bit_ne hb)
      · exact ⟨h, hq.2⟩
    · have := hx p (bit_ne hb)
      omega) hp
  have up : ∀ p q k, (M p q).testBit (m k) = true → (ledM M x.lst y.fst 15 p q).testBit (m k) = true := fun p q k h => (led_bit_iff (hm _)).2 (.inl h)
  constructor
  · rintro (⟨rfl, h3⟩ | ⟨p, q, h3, h4, h5, h6, h7⟩)
    · have := and_bitG.1 h3
      exact ⟨i, .inl ⟨rfl, this.1⟩, .inl ⟨rfl, this.2⟩⟩
    · rcases or_bit.1 h4 with h4 | h4
      · have hp := hx1 p (bit_ne h4)
        rcases run_split hm hx hy h1 h2 h6 hp with ⟨h8, h9⟩ | ⟨h8, k, q1, q2, h9, h10, h11, h12, h13, h14⟩
        · rcases or_bit.1 h7 with h7 | h7
          · have := and_bitG.1 h7
            exact ⟨j, .inr ⟨p, q, hp, h4, h5, h9, this.1⟩, .inl ⟨rfl, this.2⟩⟩
          · have := hy2 q (bit_ne h7)
            omega
        · rcases or_bit.1 h7 with h7 | h7
          · have := hx q (bit_ne (and_bitG.1 h7).1)
            omega
          · exact ⟨k, .inr ⟨p, q1, hp, h4, h5, h9, h10⟩, .inr ⟨q2, q, h13, h11, h12, h14, h7⟩⟩
      · have h4' := and_bitG.1 h4
        have hp := hy p (bit_ne h4'.1)
        obtain ⟨h8, h9⟩ := hR h6 hp
        rcases or_bit.1 h7 with h7 | h7
        · have := hx q (bit_ne (and_bitG.1 h7).1)
          omega
        · exact ⟨i, .inl ⟨rfl, h4'.2⟩, .inr ⟨p, q, hp, h4'.1, h5, h9, h7⟩⟩
  · rintro ⟨k, h3 | ⟨p, q, hp, h4, h5, h6, h7⟩, h8 | ⟨p', q', hp', h4', h5', h6', h7'⟩⟩
    · obtain ⟨rfl, h3⟩ := h3
      obtain ⟨rfl, h8⟩ := h8
      exact .inl ⟨rfl, and_bitG.2 ⟨h3, h8⟩⟩
    · obtain ⟨rfl, h3⟩ := h3
      exact .inr ⟨p', q', ⟨by omega, hp'.2⟩, or_bit.2 (.inr (and_bitG.2 ⟨h4', h3⟩)), h5', h6'.mono (fun p q k _ _ h => up p q k h) hab (Nat.le_refl _) hp', or_bit.2 (.inr h7')⟩
    · obtain ⟨rfl, h8⟩ := h8
      exact .inr ⟨p, q, ⟨hp.1, by omega⟩, or_bit.2 (.inl h4), h5, h6.mono (fun p q k _ _ h => up p q k h) (Nat.le_refl _) hbc hp, or_bit.2 (.inl (and_bitG.2 ⟨h7, h8⟩))⟩
    · refine .inr ⟨p, q', ⟨hp.1, by omega⟩, or_bit.2 (.inl h4), h5, ?_, or_bit.2 (.inr h7')⟩
      have e1 : Run m ok a c (ledM M x.lst y.fst 15) (i + 1) p k q := h6.mono (fun p q k _ _ h => up p q k h) (Nat.le_refl _) hbc hp
      have e2 : Run m ok a c (ledM M x.lst y.fst 15) (k + 1) p' j q' := h6'.mono (fun p q k _ _ h => up p q k h) hab (Nat.le_refl _) hp'
      exact (e1.step ⟨by omega, hp'.2⟩ ((led_bit_iff (hm _)).2 (.inr ⟨h7, h4'⟩)) h5').trans e2

/-- One of two. -/
theorem leads_alt (hab : a ≤ b) (hbc : b ≤ c) (hx1 : Sup a b x.fst) (hx : Sup a b x.lst) (hy : Sup b c y.fst) (hy2 : Sup b c y.lst) (h1 : ∀ p q, (a ≤ p ∧ p < b) → (b ≤ q ∧ q < c) → M p q = 0) (h2 : ∀ p q, (b ≤ p ∧ p < c) → (a ≤ q ∧ q < b) → M p q = 0) :
    Leads m ok a c (joinPt x y) M i j ↔ Leads m ok a b x M i j ∨ Leads m ok b c y M i j := by
  constructor
  · rintro (⟨rfl, h3⟩ | ⟨p, q, h3, h4, h5, h6, h7⟩)
    · rcases or_bit.1 h3 with h | h
      · exact .inl (.inl ⟨rfl, h⟩)
      · exact .inr (.inl ⟨rfl, h⟩)
    · rcases or_bit.1 h4 with h4 | h4
      · have hp := hx1 p (bit_ne h4)
        obtain ⟨h8, h9⟩ := h6.stay (lo := a) (hi := b) (M := M) (fun p q k hp hq hb => ⟨by
          rcases Nat.lt_or_ge q b with h | h
          · exact ⟨hq.1, h⟩
          · exact absurd (h1 p q hp ⟨h, hq.2⟩) (bit_ne hb), hb⟩) hp
        rcases or_bit.1 h7 with h7 | h7
        · exact .inl (.inr ⟨p, q, hp, h4, h5, h9, h7⟩)
        · have := hy2 q (bit_ne h7)
          omega
      · have hp := hy p (bit_ne h4)
        obtain ⟨h8, h9⟩ := h6.stay (lo := b) (hi := c) (M := M) (fun p q k hp hq hb => ⟨by
          rcases Nat.lt_or_ge q b with h | h
          · exact absurd (h2 p q hp ⟨hq.1, h⟩) (bit_ne hb)
          · exact ⟨h, hq.2⟩, hb⟩) hp
        rcases or_bit.1 h7 with h7 | h7
        · have := hx q (bit_ne h7)
          omega
        · exact .inr (.inr ⟨p, q, hp, h4, h5, h9, h7⟩)
  · rintro ((⟨rfl, h3⟩ | ⟨p, q, hp, h4, h5, h6, h7⟩) | (⟨rfl, h3⟩ | ⟨p, q, hp, h4, h5, h6, h7⟩))
    · exact .inl ⟨rfl, or_bit.2 (.inl h3)⟩
    · exact .inr ⟨p, q, ⟨hp.1, by omega⟩, or_bit.2 (.inl h4), h5, h6.mono (fun p q k _ _ h => h) (Nat.le_refl _) hbc hp, or_bit.2 (.inl h7)⟩
    · exact .inl ⟨rfl, or_bit.2 (.inr h3)⟩
    · exact .inr ⟨p, q, ⟨by omega, hp.2⟩, or_bit.2 (.inr h4), h5, h6.mono (fun p q k _ _ h => h) hab (Nat.le_refl _) hp, or_bit.2 (.inr h7)⟩

/-- At most once. -/
theorem leads_opt (hm : ∀ i, m i < 4) : Leads m ok a b ⟨15, x.fst, x.lst⟩ M i j ↔ i = j ∨ Leads m ok a b x M i j := by
  constructor
  · rintro (⟨rfl, _⟩ | h)
    · exact .inl rfl
    · exact .inr (.inr h)
  · rintro (rfl | ⟨rfl, _⟩ | h)
    · exact .inl ⟨rfl, fifteen (hm _)⟩
    · exact .inl ⟨rfl, fifteen (hm _)⟩
    · exact .inr h

/-- As often as you like. -/
theorem leads_star (hm : ∀ i, m i < 4) : Leads m ok a b ⟨15, x.fst, x.lst⟩ (ledM M x.lst x.fst 15) i j ↔ ∃ k, Iter (Leads m ok a b x M) k i j := by
  constructor
  · rintro (⟨rfl, _⟩ | ⟨p, q, hp, h4, h5, h6, h7⟩)
    · exact ⟨0, rfl⟩
    · have key : ∀ {j q}, Run m ok a b (ledM M x.lst x.fst 15) (i + 1) p j q → ∃ k i' p', Iter (Leads m ok a b x M) k i i' ∧ (a ≤ p' ∧ p' < b) ∧ (x.fst p').testBit (m i') = true ∧ ok p' i' ∧ Run m ok a b M (i' + 1) p' j q := by
        intro j q h
        induction h with
        | here => exact ⟨0, i, p, rfl, hp, h4, h5, .here⟩
        | @step j q r _ e3 e4 e5 ih =>
          obtain ⟨k, i', p', f1, f2, f3, f4, f5⟩ := ih
          rw [led_bit_iff (hm _)] at e4
          rcases e4 with e4 | ⟨e4, e6⟩
          · exact ⟨k, i', p', f1, f2, f3, f4, f5.step e3 e4 e5⟩
          · exact ⟨k + 1, j, r, ⟨i', f1, .inr ⟨p', q, f2, f3, f4, f5, e4⟩⟩, e3, e6, e5, .here⟩
      obtain ⟨k, i', p', f1, f2, f3, f4, f5⟩ := key h6
      exact ⟨k + 1, i', f1, .inr ⟨p', q, f2, f3, f4, f5, h7⟩⟩
  · rintro ⟨k, h⟩
    induction k generalizing j with
    | zero =>
      obtain rfl : i = j := h
      exact .inl ⟨rfl, fifteen (hm _)⟩
    | succ k ih =>
      obtain ⟨n, h1, h2⟩ := h
      have h3 := ih h1
      rcases h2 with ⟨rfl, _⟩ | ⟨p', q', hp', h4', h5', h6', h7'⟩
      · exact h3
      · have e2 : Run m ok a b (ledM M x.lst x.fst 15) (n + 1) p' j q' := h6'.mono (fun p q k _ _ h => (led_bit_iff (hm _)).2 (.inl h)) (Nat.le_refl _) (Nat.le_refl _) hp'
        rcases h3 with ⟨rfl, _⟩ | ⟨p, q, hp, h4, h5, h6, h7⟩
        · exact .inr ⟨p', q', hp', h4', h5', e2, h7'⟩
        · exact .inr ⟨p, q', hp, h4, h5, (h6.step hp' ((led_bit_iff (hm _)).2 (.inr ⟨h7, h4'⟩)) h5').trans e2, h7'⟩
end

/-! ## What posit lays: where its ways lie -/
theorem or_ne {u v : Nat} (h : u ||| v ≠ 0) : u ≠ 0 ∨ v ≠ 0 := by
  by_cases hu : u = 0
  · rw [hu, Nat.zero_or] at h
    exact .inr h
  · exact .inl hu
theorem and_ne {u v : Nat} (h : u &&& v ≠ 0) : u ≠ 0 ∧ v ≠ 0 := ⟨fun e => h (by rw [e, Nat.zero_and]), fun e => h (by rw [e, Nat.and_zero])⟩
def Fresh17 (s : St) : Prop := ∀ p q, s.M p q ≠ 0 → p < s.S.length ∧ q < s.S.length
/-- A part laid from position a on, over what was there. -/
structure PGood (a : Nat) (M0 : Nat → Nat → Nat) (S0 : List Se) (r : Pt × St) : Prop where
  le : a ≤ r.2.S.length
  fst : Sup a r.2.S.length r.1.fst
  lst : Sup a r.2.S.length r.1.lst
  old : ∀ p q, p < a → q < a → r.2.M p q = M0 p q
  own : ∀ p q, r.2.M p q ≠ 0 → (p < a ∧ q < a) ∨ ((a ≤ p ∧ p < r.2.S.length) ∧ a ≤ q ∧ q < r.2.S.length)
  pre : S0 <+: r.2.S
theorem PGood.fresh {a : Nat} {M0 : Nat → Nat → Nat} {S0 : List Se} {r : Pt × St} (h : PGood a M0 S0 r) : Fresh17 r.2 := fun p q hn => by
  have := h.le
  rcases h.own p q hn with ⟨h1, h2⟩ | ⟨h1, h2⟩ <;> exact ⟨by omega, by omega⟩
theorem PGood.ptOf {s : St} (h : Fresh17 s) (k : Nat) : PGood s.S.length s.M s.S (ptOf k, s) :=
  ⟨Nat.le_refl _, fun q hq => absurd rfl hq, fun q hq => absurd rfl hq, fun _ _ _ _ => rfl, fun p q hn => .inl (h p q hn), List.prefix_refl _⟩
section
variable {a : Nat} {M0 : Nat → Nat → Nat} {S0 : List Se} {x : Pt} {s : St} {r : Pt × St}
theorem PGood.seq (h : PGood a M0 S0 (x, s)) (k : PGood s.S.length s.M s.S r) : PGood a M0 S0 (seqPt x r.1, ⟨r.2.S, ledM r.2.M x.lst r.1.fst 15⟩) := by
  have hl : a ≤ s.S.length := h.le
  have hl2 := k.le
  have hf : ∀ q, x.fst q ≠ 0 → a ≤ q ∧ q < s.S.length := h.fst
  have hla : ∀ q, x.lst q ≠ 0 → a ≤ q ∧ q < s.S.length := h.lst
  refine ⟨Nat.le_trans hl hl2, fun q hq => ?_, fun q hq => ?_, fun p q hp hq => ?_, fun p q hn => ?_, h.pre.trans k.pre⟩
  · show a ≤ q ∧ q < r.2.S.length
    rcases or_ne hq with h1 | h1
    · have := hf q h1; omega
    · have := k.fst q (and_ne h1).1; omega
  · show a ≤ q ∧ q < r.2.S.length
    rcases or_ne hq with h1 | h1
    · have := hla q (and_ne h1).1; omega
    · have := k.lst q h1; omega
  · show r.2.M p q ||| (x.lst p &&& r.1.fst q &&& 15) = M0 p q
    have e : x.lst p = 0 := by
      by_cases e : x.lst p = 0
      · exact e
      · have := hla p e; omega
    rw [e, Nat.zero_and, Nat.zero_and, Nat.or_zero, k.old p q (by omega) (by omega)]
    exact h.old p q hp hq
  · show (p < a ∧ q < a) ∨ ((a ≤ p ∧ p < r.2.S.length) ∧ a ≤ q ∧ q < r.2.S.length)
    rcases or_ne hn with h1 | h1
    · rcases k.own p q h1 with h2 | h2
      · rw [k.old p q h2.1 h2.2] at h1
        rcases h.own p q h1 with h3 | h3
        · exact .inl h3
        · have h3' : (a ≤ p ∧ p < s.S.length) ∧ a ≤ q ∧ q < s.S.length := h3
          exact .inr (by omega)
      · exact .inr (by omega)
    · have h2 := and_ne (and_ne h1).1
      have := hla p h2.1
      have := k.fst q h2.2
      exact .inr (by omega)
theorem PGood.alt (h : PGood a M0 S0 (x, s)) (k : PGood s.S.length s.M s.S r) : PGood a M0 S0 (joinPt x r.1, r.2) := by
  have hl : a ≤ s.S.length := h.le
  have hl2 := k.le
  have hf : ∀ q, x.fst q ≠ 0 → a ≤ q ∧ q < s.S.length := h.fst
  have hla : ∀ q, x.lst q ≠ 0 → a ≤ q ∧ q < s.S.length := h.lst
  refine ⟨Nat.le_trans hl hl2, fun q hq => ?_, fun q hq => ?_, fun p q hp hq => ?_, fun p q hn => ?_, h.pre.trans k.pre⟩
  · show a ≤ q ∧ q < r.2.S.length
    rcases or_ne hq with h1 | h1
    · have := hf q h1; omega
    · have := k.fst q h1; omega
  · show a ≤ q ∧ q < r.2.S.length
    rcases or_ne hq with h1 | h1
    · have := hla q h1; omega
    · have := k.lst q h1; omega
  · show r.2.M p q = M0 p q
    rw [k.old p q (by omega) (by omega)]
    exact h.old p q hp hq
  · show (p < a ∧ q < a) ∨ ((a ≤ p ∧ p < r.2.S.length) ∧ a ≤ q ∧ q < r.2.S.length)
    rcases k.own p q hn with h2 | h2
    · have hn' : r.2.M p q ≠ 0 := hn
      rw [k.old p q h2.1 h2.2] at hn'
      rcases h.own p q hn' with h3 | h3
      · exact .inl h3
      · have h3' : (a ≤ p ∧ p < s.S.length) ∧ a ≤ q ∧ q < s.S.length := h3
        exact .inr (by omega)
    · exact .inr (by omega)
theorem PGood.star (h : PGood a M0 S0 r) (n : Nat) : PGood a M0 S0 (⟨n, r.1.fst, r.1.lst⟩, ⟨r.2.S, ledM r.2.M r.1.lst r.1.fst 15⟩) := by
  refine ⟨h.le, h.fst, h.lst, fun p q hp hq => ?_, fun p q hn => ?_, h.pre⟩
  · show r.2.M p q ||| (r.1.lst p &&& r.1.fst q &&& 15) = M0 p q
    have e : r.1.lst p = 0 := by
      by_cases e : r.1.lst p = 0
      · exact e
      · have := h.lst p e; omega
    rw [e, Nat.zero_and, Nat.zero_and, Nat.or_zero]
    exact h.old p q hp hq
  · rcases or_ne hn with h1 | h1
    · exact h.own p q h1
    · have h2 := and_ne (and_ne h1).1
      exact .inr ⟨h.lst p h2.1, h.fst q h2.2⟩
theorem PGood.opt (h : PGood a M0 S0 r) (n : Nat) : PGood a M0 S0 (⟨n, r.1.fst, r.1.lst⟩, r.2) := ⟨h.le, h.fst, h.lst, h.old, h.own, h.pre⟩
end
mutual
theorem T.pos_pgood : ∀ (t : T) (s : St), Fresh17 s → PGood s.S.length s.M s.S (t.pos s)
  | .mk h l, s, hf => by
    unfold T.pos
    split
    · exact PGood.ptOf hf _
    split
    · exact PGood.ptOf hf _
    split
    · exact PGood.ptOf hf _
    split
    · have hs : Sup s.S.length (s.S ++ [(h.s0, h.s1, h.s2, h.s3)]).length (fun i => if i = s.S.length then 15 else 0) := fun q hq => by
        by_cases e : q = s.S.length
        · simp; omega
        · exact absurd (if_neg e) hq
      exact ⟨by simp, hs, hs, fun _ _ _ _ => rfl, fun p q hn => .inl (hf p q hn), List.prefix_append _ _⟩
    split
    · exact TL.posSeq_pgood l _ s _ _ _ (PGood.ptOf hf _)
    split
    · exact TL.posRep_pgood l _ s hf
    · exact TL.posAlt_pgood l _ s _ _ _ (PGood.ptOf hf _)
theorem TL.posSeq_pgood : ∀ (l : List T) (x : Pt) (s : St) (a : Nat) (M0 : Nat → Nat → Nat) (S0 : List Se), PGood a M0 S0 (x, s) → PGood a M0 S0 (TL.posSeq l x s)
  | [], x, s, a, M0, S0, h => h
  | t :: l, x, s, a, M0, S0, h => by
    rw [TL.posSeq]
    exact TL.posSeq_pgood l _ _ a M0 S0 (h.seq (T.pos_pgood t s h.fresh))
theorem TL.posRep_pgood : ∀ (l : List T) (mx : Int) (s : St), Fresh17 s → PGood s.S.length s.M s.S (TL.posRep l mx s)
  | [], mx, s, hf => PGood.ptOf hf _
  | t :: l, mx, s, hf => by
    have h := T.pos_pgood t s hf
    rw [TL.posRep]
    split
    · exact h.star 15
    · exact h.opt 15
theorem TL.posAlt_pgood : ∀ (l : List T) (x : Pt) (s : St) (a : Nat) (M0 : Nat → Nat → Nat) (S0 : List Se), PGood a M0 S0 (x, s) → PGood a M0 S0 (TL.posAlt l x s)
  | [], x, s, a, M0, S0, h => h
  | t :: l, x, s, a, M0, S0, h => by
    rw [TL.posAlt]
    exact TL.posAlt_pgood l _ _ a M0 S0 (h.alt (T.pos_pgood t s h.fresh))
end

/-! ## What the ways mean -/
mutual
/-- Groups have one Sub; repeats are written out. -/
def T.thin : T → Prop
  | .mk h l => ((1 ≤ h.kind ∧ h.kind ≤ 8) ∧ (h.kind = 7 → l.length = 1) ∧ (h.kind = 8 → l.length = 1 ∧ h.min = 0 ∧ (h.max = 1 ∨ h.max = -1))) ∧ TL.thin l
def TL.thin : List T → Prop
  | [] => True
  | t :: l => t.thin ∧ TL.thin l
end
def seHas (S : List Se) (q b : Nat) : Bool :=
  match S[q]? with
  | some s => Hd.has ⟨0, s.1, s.2.1, s.2.2.1, s.2.2.2, 0, 0, 0, false⟩ b
  | none => false
/-- The byte at place i is one of position q's. -/
def okS (x : Sc) (S : List Se) (q i : Nat) : Prop := i < x.len ∧ seHas S q (x.text.data.toList.getD i 0).toNat = true
theorem leads_pt {m : Nat → Nat} {ok : Nat → Nat → Prop} {a k i j : Nat} {M : Nat → Nat → Nat} : Leads m ok a a (ptOf k) M i j ↔ i = j ∧ k.testBit (m i) = true :=
  ⟨fun h => by
    rcases h with h | ⟨p, q, h, _⟩
    · exact h
    · omega, .inl⟩
mutual
theorem T.glu (x : Sc) (S : List Se) (hm : ∀ i, x.mark i < 4) : ∀ (t : T) (s : St), t.thin → Fresh17 s → (t.pos s).2.S <+: S → ∀ i j, Leads x.mark (okS x S) s.S.length (t.pos s).2.S.length (t.pos s).1 (t.pos s).2.M i j ↔ t.R x i j
  | .mk h l, s, ht, hf, hS, i, j => by
    obtain ⟨⟨hk, h7, h8⟩, hl⟩ := ht
    simp only [T.R]
    unfold T.pos at hS ⊢
    by_cases k1 : h.kind = 1
    · rw [if_pos k1, if_pos k1]
      simp only
      rw [leads_pt]
      exact ⟨fun h => h.1, fun h => ⟨h, fifteen (hm i)⟩⟩
    rw [if_neg k1] at hS
    rw [if_neg k1, if_neg k1]
    by_cases k3 : h.kind = 3
    · rw [if_pos k3, if_neg (by omega), if_pos k3]
      simp only
      rw [leads_pt]
      have e : (10 : Nat).testBit (x.mark i) = (x.mark i).testBit 0 := by
        have := hm i
        have : x.mark i = 0 ∨ x.mark i = 1 ∨ x.mark i = 2 ∨ x.mark i = 3 := by omega
        rcases this with e | e | e | e <;> rw [e] <;> rfl
      rw [e]
    rw [if_neg k3] at hS
    rw [if_neg k3]
    by_cases k4 : h.kind = 4
    · rw [if_pos k4, if_neg (by omega), if_neg (by omega), if_pos k4]
      simp only
      rw [leads_pt]
      have e : (12 : Nat).testBit (x.mark i) = (x.mark i).testBit 1 := by
        have := hm i
        have : x.mark i = 0 ∨ x.mark i = 1 ∨ x.mark i = 2 ∨ x.mark i = 3 := by omega
        rcases this with e | e | e | e <;> rw [e] <;> rfl
      rw [e]
    rw [if_neg k4] at hS
    rw [if_neg k4]
    by_cases k2 : h.kind = 2
    · rw [if_pos k2] at hS
      rw [if_pos k2, if_pos k2]
      simp only at hS ⊢
      have hat : S[s.S.length]? = some (h.s0, h.s1, h.s2, h.s3) := by
        obtain ⟨r, rfl⟩ := hS
        simp
      have hh : ∀ b, seHas S s.S.length b = h.has b := fun b => by
        unfold seHas
        rw [hat]
        rfl
      rw [List.length_append, List.length_singleton]
      constructor
      · rintro (⟨_, h0⟩ | ⟨p, q, h1, h2, h3, h4, h5⟩)
        · simp [bytePt] at h0
        · obtain rfl : p = s.S.length := by omega
          have h6 : q = s.S.length ∧ j = i + 1 := by
            have key : ∀ {j q}, Run x.mark (okS x S) s.S.length (s.S.length + 1) s.M (i + 1) s.S.length j q → q = s.S.length ∧ j = i + 1 := fun h => by
              induction h with
              | here => exact ⟨rfl, rfl⟩
              | step _ e3 e4 _ ih =>
                rw [ih.1] at e4
                have := hf _ _ (bit_ne e4)
                omega
            exact key h4
          obtain ⟨rfl, rfl⟩ := h6
          exact ⟨rfl, h3.1, by rw [← hh]; exact h3.2⟩
      · rintro ⟨rfl, h1, h2⟩
        refine .inr ⟨s.S.length, s.S.length, by omega, ?_, ⟨h1, by rw [hh]; exact h2⟩, .here, ?_⟩
        · simp [bytePt, fifteen (hm _)]
        · simp [bytePt, fifteen (hm _)]
    rw [if_neg k2] at hS
    rw [if_neg k2, if_neg k2, if_neg k3, if_neg k4]
    by_cases k5 : h.kind = 5
    · rw [if_pos k5] at hS
      rw [if_pos k5, if_pos k5]
      rw [TL.gluSeq x S hm l (ptOf 15) s s.S.length s.M s.S (fun i j => i = j) (PGood.ptOf hf 15) (fun i j => by
        rw [leads_pt]
        exact ⟨fun h => h.1, fun h => ⟨h, fifteen (hm i)⟩⟩) hl hS i j]
      exact ⟨fun ⟨k, e, h⟩ => by rw [e]; exact h, fun h => ⟨i, rfl, h⟩⟩
    rw [if_neg k5] at hS
    rw [if_neg k5, if_neg k5]
    by_cases k8 : h.kind = 8
    · rw [if_pos k8] at hS
      rw [if_pos k8, if_neg (by omega), if_neg (by omega)]
      obtain ⟨e1, e2, e3⟩ := h8 k8
      match l, e1, hl, hS with
      | [u], _, hl, hS =>
        have ih := T.glu x S hm u s hl.1 hf
        simp only [TL.posRep] at hS ⊢
        rw [e2]
        by_cases hx : h.max = -1
        · rw [if_pos hx] at hS
          rw [if_pos hx]
          simp only at hS ⊢
          rw [leads_star hm]
          have eR : Leads x.mark (okS x S) s.S.length (u.pos s).2.S.length (u.pos s).1 (u.pos s).2.M = TL.Rone x [u] := by
            funext i j
            exact propext (ih hS i j)
          rw [eR]
          exact ⟨fun ⟨k, h⟩ => ⟨k, by omega, .inl hx, h⟩, fun ⟨k, _, _, h⟩ => ⟨k, h⟩⟩
        · rw [if_neg hx] at hS
          rw [if_neg hx]
          rw [leads_opt hm, ih hS i j]
          have hx1 : h.max = 1 := by omega
          rw [hx1]
          constructor
          · rintro (h | h)
            · exact ⟨0, by omega, .inr (by omega), h⟩
            · exact ⟨1, by omega, .inr (by omega), Iter.one.2 h⟩
          · rintro ⟨k, _, hk, h⟩
            have : k = 0 ∨ k = 1 := by omega
            rcases this with rfl | rfl
            · exact .inl h
            · exact .inr (Iter.one.1 h)
    rw [if_neg k8] at hS
    rw [if_neg k8]
    rw [TL.gluAlt x S hm l (ptOf 0) s s.S.length s.M s.S (fun i j => False) (PGood.ptOf hf 0) (fun i j => by
      rw [leads_pt, Nat.zero_testBit]
      simp) hl hS i j]
    by_cases k6 : h.kind = 6
    · rw [if_pos k6, false_or]
    · rw [if_neg k6, if_pos (by omega), false_or]
      have e1 := h7 (by omega)
      match l, e1 with
      | [u], _ => simp only [TL.Ralt, TL.Rone, or_false]
theorem TL.gluSeq (x : Sc) (S : List Se) (hm : ∀ i, x.mark i < 4) : ∀ (l : List T) (p : Pt) (s : St) (a : Nat) (M0 : Nat → Nat → Nat) (S0 : List Se) (Q : Nat → Nat → Prop), PGood a M0 S0 (p, s) → (∀ i j, Leads x.mark (okS x S) a s.S.length p s.M i j ↔ Q i j) → TL.thin l → (TL.posSeq l p s).2.S <+: S →
    ∀ i j, Leads x.mark (okS x S) a (TL.posSeq l p s).2.S.length (TL.posSeq l p s).1 (TL.posSeq l p s).2.M i j ↔ ∃ k, Q i k ∧ TL.Rseq x l k j
  | [], p, s, a, M0, S0, Q, hg, hQ, _, hS, i, j => by
    simp only [TL.posSeq, TL.Rseq]
    rw [hQ i j]
    exact ⟨fun h => ⟨j, h, rfl⟩, fun ⟨k, h, e⟩ => e ▸ h⟩
  | t :: l, p, s, a, M0, S0, Q, hg, hQ, hl, hS, i, j => by
    rw [TL.posSeq] at hS ⊢
    have h1 := T.pos_pgood t s hg.fresh
    have h2 := hg.seq h1
    have h3 := TL.posSeq_pgood l _ _ a M0 S0 h2
    have hpre : (t.pos s).2.S <+: S := (TL.posSeq_pgood l _ _ _ _ (t.pos s).2.S (PGood.mk h2.le h2.fst h2.lst h2.old h2.own (List.prefix_refl _))).pre.trans hS
    have hle : a ≤ s.S.length := hg.le
    have hQ2 : ∀ i j, Leads x.mark (okS x S) a (t.pos s).2.S.length (seqPt p (t.pos s).1) (ledM (t.pos s).2.M p.lst (t.pos s).1.fst 15) i j ↔ ∃ k, Q i k ∧ t.R x k j := fun i j => by
      rw [leads_seq hm hle h1.le hg.fst hg.lst h1.fst h1.lst (fun p q hp hq => by
        by_cases e : (t.pos s).2.M p q = 0
        · exact e
        · have h9 := h1.own p q e
          have hp' : a ≤ p ∧ p < s.S.length := hp
          omega) (fun p q hp hq => by
        by_cases e : (t.pos s).2.M p q = 0
        · exact e
        · have h9 := h1.own p q e
          have hq' : a ≤ q ∧ q < s.S.length := hq
          omega)]
      have e1 : ∀ k, Leads x.mark (okS x S) a s.S.length p (t.pos s).2.M i k ↔ Q i k := fun k => by
        rw [← hQ i k]
        exact leads_congr fun p q hp hq => h1.old p q hp.2 hq.2
      have e2 : ∀ k, Leads x.mark (okS x S) s.S.length (t.pos s).2.S.length (t.pos s).1 (t.pos s).2.M k j ↔ t.R x k j := fun k => T.glu x S hm t s hl.1 hg.fresh hpre k j
      exact exists_congr fun k => and_congr (e1 k) (e2 k)
    rw [TL.gluSeq x S hm l _ _ a M0 S0 (fun i j => ∃ k, Q i k ∧ t.R x k j) h2 hQ2 hl.2 hS i j]
    simp only [TL.Rseq]
    exact ⟨fun ⟨k, ⟨n, e1, e2⟩, e3⟩ => ⟨n, e1, k, e2, e3⟩, fun ⟨n, e1, k, e2, e3⟩ => ⟨k, ⟨n, e1, e2⟩, e3⟩⟩
theorem TL.gluAlt (x : Sc) (S : List Se) (hm : ∀ i, x.mark i < 4) : ∀ (l : List T) (p : Pt) (s : St) (a : Nat) (M0 : Nat → Nat → Nat) (S0 : List Se) (Q : Nat → Nat → Prop), PGood a M0 S0 (p, s) → (∀ i j, Leads x.mark (okS x S) a s.S.length p s.M i j ↔ Q i j) → TL.thin l → (TL.posAlt l p s).2.S <+: S →
    ∀ i j, Leads x.mark (okS x S) a (TL.posAlt l p s).2.S.length (TL.posAlt l p s).1 (TL.posAlt l p s).2.M i j ↔ Q i j ∨ TL.Ralt x l i j
  | [], p, s, a, M0, S0, Q, hg, hQ, _, hS, i, j => by
    simp only [TL.posAlt, TL.Ralt, or_false]
    exact hQ i j
  | t :: l, p, s, a, M0, S0, Q, hg, hQ, hl, hS, i, j => by
    rw [TL.posAlt] at hS ⊢
    have h1 := T.pos_pgood t s hg.fresh
    have h2 := hg.alt h1
    have hpre : (t.pos s).2.S <+: S := (TL.posAlt_pgood l _ _ _ _ (t.pos s).2.S (PGood.mk h2.le h2.fst h2.lst h2.old h2.own (List.prefix_refl _))).pre.trans hS
    have hle : a ≤ s.S.length := hg.le
    have hQ2 : ∀ i j, Leads x.mark (okS x S) a (t.pos s).2.S.length (joinPt p (t.pos s).1) (t.pos s).2.M i j ↔ Q i j ∨ t.R x i j := fun i j => by
      rw [leads_alt hle h1.le hg.fst hg.lst h1.fst h1.lst (fun p q hp hq => by
        by_cases e : (t.pos s).2.M p q = 0
        · exact e
        · have h9 := h1.own p q e
          have hp' : a ≤ p ∧ p < s.S.length := hp
          omega) (fun p q hp hq => by
        by_cases e : (t.pos s).2.M p q = 0
        · exact e
        · have h9 := h1.own p q e
          have hq' : a ≤ q ∧ q < s.S.length := hq
          omega)]
      rw [← hQ i j]
      exact or_congr (leads_congr fun p q hp hq => h1.old p q hp.2 hq.2) (T.glu x S hm t s hl.1 hg.fresh hpre i j)
    rw [TL.gluAlt x S hm l _ _ a M0 S0 (fun i j => Q i j ∨ t.R x i j) h2 hQ2 hl.2 hS i j]
    simp only [TL.Ralt]
    rw [or_assoc]
end

/-! ## Written out -/
theorem seqT_R (x : Sc) (l : List T) (i j : Nat) : (T.seq l).R x i j ↔ TL.Rseq x l i j := by
  cases l with
  | nil =>
    rw [T.R_eq]
    simp only [T.seq, T.hd, TL.Rseq]
    exact Iff.rfl
  | cons a r =>
    cases r with
    | nil =>
      simp only [T.seq, TL.Rseq]
      exact ⟨fun h => ⟨j, h, rfl⟩, fun ⟨k, h, e⟩ => e ▸ h⟩
    | cons b r =>
      simp only [T.seq, T.R]
      exact Iff.rfl
theorem rseq_app (x : Sc) : ∀ (a b : List T) (i j : Nat), TL.Rseq x (a ++ b) i j ↔ ∃ m, TL.Rseq x a i m ∧ TL.Rseq x b m j
  | [], b, i, j => by simp [TL.Rseq]
  | t :: a, b, i, j => by
    simp only [List.cons_append, TL.Rseq]
    constructor
    · rintro ⟨m, h1, h2⟩
      obtain ⟨n, h3, h4⟩ := (rseq_app x a b m j).1 h2
      exact ⟨n, ⟨m, h1, h3⟩, h4⟩
    · rintro ⟨n, ⟨m, h1, h3⟩, h4⟩
      exact ⟨m, h1, (rseq_app x a b m j).2 ⟨n, h3, h4⟩⟩
theorem rseq_repl (x : Sc) (u : T) : ∀ (n i j : Nat), TL.Rseq x (List.replicate n u) i j ↔ Iter (u.R x) n i j
  | 0, i, j => Iff.rfl
  | n + 1, i, j => by
    rw [List.replicate_succ, Iter.front]
    simp only [TL.Rseq]
    exact exists_congr fun m => and_congr Iff.rfl (rseq_repl x u n m j)
theorem opt_R (x : Sc) (u : T) (num : Int) (b : Bool) (i j : Nat) : (T.mk ⟨8, 0, 0, 0, 0, num, 0, 1, b⟩ [u]).R x i j ↔ i = j ∨ u.R x i j := by
  simp only [T.R]
  constructor
  · rintro ⟨k, _, hk, h⟩
    have : k = 0 ∨ k = 1 := by omega
    rcases this with rfl | rfl
    · exact .inl h
    · exact .inr (Iter.one.1 h)
  · rintro (h | h)
    · exact ⟨0, by omega, .inr (by omega), h⟩
    · exact ⟨1, by omega, .inr (by omega), Iter.one.2 h⟩
theorem starOf_R (x : Sc) (u : T) (i j : Nat) : (starOf u).R x i j ↔ ∃ k, Iter (u.R x) k i j := by
  simp only [starOf, T.R]
  exact ⟨fun ⟨k, _, _, h⟩ => ⟨k, h⟩, fun ⟨k, h⟩ => ⟨k, by omega, .inl (by first | trivial | rfl), h⟩⟩
theorem rseq_opt (x : Sc) (u : T) : ∀ (n : Nat) (b : Bool) (i j : Nat), TL.Rseq x (optList u n b) i j ↔ ∃ r, r ≤ n ∧ Iter (u.R x) r i j
  | 0, b, i, j => ⟨fun h => ⟨0, Nat.le_refl _, h⟩, fun ⟨r, hr, h⟩ => by
      obtain rfl : r = 0 := by omega
      exact h⟩
  | n + 1, b, i, j => by
    simp only [optList, TL.Rseq]
    constructor
    · rintro ⟨m, h1, h2⟩
      obtain ⟨r, h3, h4⟩ := (rseq_opt x u n true m j).1 h2
      rcases (opt_R x u 0 b i m).1 h1 with rfl | h1
      · exact ⟨r, by omega, h4⟩
      · exact ⟨r + 1, by omega, Iter.front.2 ⟨m, h1, h4⟩⟩
    · rintro ⟨r, h1, h2⟩
      cases r with
      | zero =>
        have e : i = j := h2
        subst e
        exact ⟨i, (opt_R x u 0 b i i).2 (.inl rfl), (rseq_opt x u n true i i).2 ⟨0, by omega, rfl⟩⟩
      | succ r =>
        obtain ⟨m, h3, h4⟩ := Iter.front.1 h2
        exact ⟨m, (opt_R x u 0 b i m).2 (.inr h3), (rseq_opt x u n true m j).2 ⟨r, by omega, h4⟩⟩
theorem rep_form {h : Hd} {l : List T} (hf : h.formed l.length = true) (h8 : h.kind = 8) : 0 ≤ h.min ∧ (h.max = -1 ∨ h.min ≤ h.max) := by
  unfold Hd.formed at hf
  rw [if_neg (by omega), if_neg (by omega), if_neg (by omega), if_neg (by omega), if_pos h8] at hf
  simp only [Bool.and_eq_true, Bool.or_eq_true, Bool.not_eq_true', Bool.or_eq_false_iff, beq_iff_eq, decide_eq_true_eq, decide_eq_false_iff_not] at hf
  omega
mutual
/-- A tree that is written out takes what it took. -/
theorem T.exp_R (x : Sc) : ∀ t : T, t.form = true → t.exp.R x = t.R x
  | .mk h l, hf => by
    have hf0 := hf
    rw [T.form_eq, Bool.and_eq_true] at hf
    have hf1 : h.formed l.length = true := hf.1
    by_cases h8 : h.kind = 8
    · obtain ⟨u, rfl, hu⟩ := rep_sub hf0 h8
      have ih := T.exp_R x u hu
      obtain ⟨hmin, hmax⟩ := rep_form hf1 h8
      have hR : (T.mk h [u]).R x = fun i j => ∃ k : Nat, h.min ≤ k ∧ (h.max = -1 ∨ (k : Int) ≤ h.max) ∧ Iter (u.R x) k i j := by
        funext i j
        simp only [T.R, h8]
        simp
        rfl
      funext i j
      rw [hR]
      simp only [T.exp, if_pos h8, TL.expRep]
      by_cases hz : h.max = 0
      · rw [if_pos hz]
        refine propext ((seqT_R x [] i j).trans ?_)
        constructor
        · intro e
          exact ⟨0, by omega, .inr (by omega), e⟩
        · rintro ⟨k, hk, hk2, e⟩
          obtain rfl : k = 0 := by omega
          exact e
      rw [if_neg hz]
      by_cases hq : h.min = 0 ∧ (h.max = 1 ∨ h.max = -1)
      · rw [if_pos hq]
        have : (T.mk h [u.exp]).R x i j ↔ ∃ k : Nat, h.min ≤ k ∧ (h.max = -1 ∨ (k : Int) ≤ h.max) ∧ Iter (u.exp.R x) k i j := by
          simp only [T.R, h8]
          simp
          exact Iff.rfl
        rw [propext this, ih]
      · rw [if_neg hq]
        refine propext ((seqT_R x _ i j).trans ?_)
        unfold repList
        rw [rseq_app, ]
        by_cases hx : h.max = -1
        · rw [if_pos hx]
          have e0 : (h.max - h.min).toNat = 0 := by omega
          rw [e0]
          simp only [optList, List.append_nil]
          constructor
          · rintro ⟨n, h1, m2, h2, h3⟩
            have e : m2 = j := h3
            subst e
            rw [rseq_repl, ih] at h1
            obtain ⟨k, h4⟩ := (starOf_R x u.exp n m2).1 h2
            rw [ih] at h4
            exact ⟨h.min.toNat + k, by omega, .inl hx, Iter.add.2 ⟨n, h1, h4⟩⟩
          · rintro ⟨k, h1, _, h2⟩
            have ek : k = h.min.toNat + (k - h.min.toNat) := by omega
            rw [ek] at h2
            obtain ⟨n, h3, h4⟩ := Iter.add.1 h2
            exact ⟨n, by rw [rseq_repl, ih]; exact h3, j, (starOf_R x u.exp n j).2 ⟨_, by rw [ih]; exact h4⟩, rfl⟩
        · rw [if_neg hx]
          constructor
          · rintro ⟨n, h1, h2⟩
            have e : n = j := h2
            subst e
            obtain ⟨n2, h3, h4⟩ := (rseq_app x _ _ i n).1 h1
            rw [rseq_repl, ih] at h3
            obtain ⟨r, h5, h6⟩ := (rseq_opt x u.exp _ _ n2 n).1 h4
            rw [ih] at h6
            exact ⟨h.min.toNat + r, by omega, .inr (by omega), Iter.add.2 ⟨n2, h3, h6⟩⟩
          · rintro ⟨k, h1, h2, h3⟩
            have ek : k = h.min.toNat + (k - h.min.toNat) := by omega
            rw [ek] at h3
            obtain ⟨n, h4, h5⟩ := Iter.add.1 h3
            exact ⟨j, (rseq_app x _ _ i j).2 ⟨n, by rw [rseq_repl, ih]; exact h4, (rseq_opt x u.exp _ _ n j).2 ⟨k - h.min.toNat, by omega, by rw [ih]; exact h5⟩⟩, rfl⟩
    · simp only [T.exp, if_neg h8]
      obtain ⟨e1, e2, e3⟩ := TL.exp_R x l hf.2
      funext i j
      simp only [T.R, e1, e2, e3, if_neg h8]
theorem TL.exp_R (x : Sc) : ∀ l : List T, TL.form l = true → TL.Rseq x (TL.exp l) = TL.Rseq x l ∧ TL.Ralt x (TL.exp l) = TL.Ralt x l ∧ TL.Rone x (TL.exp l) = TL.Rone x l
  | [], _ => ⟨rfl, rfl, rfl⟩
  | t :: l, hf => by
    simp only [TL.form, Bool.and_eq_true] at hf
    have h1 := T.exp_R x t hf.1
    obtain ⟨e1, e2, e3⟩ := TL.exp_R x l hf.2
    refine ⟨?_, ?_, ?_⟩
    · simp only [TL.exp, TL.Rseq, h1, e1]
    · simp only [TL.exp, TL.Ralt, h1, e2]
    · simp only [TL.exp, TL.Rone, h1]
end
theorem TL.thin_append : ∀ a b : List T, TL.thin a → TL.thin b → TL.thin (a ++ b)
  | [], b, _, h => h
  | t :: a, b, h, hb => ⟨h.1, TL.thin_append a b h.2 hb⟩
theorem thin_replicate {u : T} (hu : u.thin) : ∀ n, TL.thin (List.replicate n u)
  | 0 => trivial
  | n + 1 => ⟨hu, thin_replicate hu n⟩
theorem thin_rep {u : T} (hu : u.thin) (num mx : Int) (b : Bool) (hmx : mx = 1 ∨ mx = -1) : (T.mk ⟨8, 0, 0, 0, 0, num, 0, mx, b⟩ [u]).thin := ⟨⟨by simp, fun h => by simp at h, fun _ => ⟨rfl, rfl, hmx⟩⟩, hu, trivial⟩
theorem thin_opt {u : T} (hu : u.thin) : ∀ n b, TL.thin (optList u n b)
  | 0, _ => trivial
  | n + 1, b => ⟨thin_rep hu _ _ _ (.inl rfl), thin_opt hu n true⟩
theorem thin_seq {l : List T} (h : TL.thin l) : (T.seq l).thin := by
  cases l with
  | nil => exact ⟨⟨by simp, fun h => by simp at h, fun h => by simp at h⟩, trivial⟩
  | cons a r =>
    cases r with
    | nil => exact h.1
    | cons b r => exact ⟨⟨by simp, fun h => by simp at h, fun h => by simp at h⟩, h⟩
theorem Hd.formed_kind {h : Hd} {n : Int} (hf : h.formed n = true) : (1 ≤ h.kind ∧ h.kind ≤ 8) ∧ (h.kind = 7 → n = 1) := by
  unfold Hd.formed at hf
  by_cases k1 : h.kind = 1 ∨ h.kind = 3 ∨ h.kind = 4
  · omega
  rw [if_neg k1] at hf
  by_cases k2 : h.kind = 2
  · omega
  rw [if_neg k2] at hf
  by_cases k5 : h.kind = 5 ∨ h.kind = 6
  · omega
  rw [if_neg k5] at hf
  by_cases k7 : h.kind = 7
  · rw [if_pos k7] at hf
    simp only [Bool.and_eq_true, beq_iff_eq] at hf
    omega
  rw [if_neg k7] at hf
  by_cases k8 : h.kind = 8
  · omega
  rw [if_neg k8] at hf
  cases hf
mutual
theorem T.exp_thin : ∀ t : T, t.form = true → t.exp.thin
  | .mk h l, hf => by
    have hf0 := hf
    rw [T.form_eq, Bool.and_eq_true] at hf
    have hf1 : h.formed l.length = true := hf.1
    by_cases h8 : h.kind = 8
    · obtain ⟨u, rfl, hu⟩ := rep_sub hf0 h8
      have ih := T.exp_thin u hu
      simp only [T.exp, if_pos h8, TL.expRep]
      by_cases hz : h.max = 0
      · rw [if_pos hz]
        exact thin_seq trivial
      · rw [if_neg hz]
        by_cases hq : h.min = 0 ∧ (h.max = 1 ∨ h.max = -1)
        · rw [if_pos hq]
          exact ⟨⟨by omega, fun h => by omega, fun _ => ⟨rfl, hq.1, hq.2⟩⟩, ih, trivial⟩
        · rw [if_neg hq]
          refine thin_seq (TL.thin_append _ _ (TL.thin_append _ _ (thin_replicate ih _) (thin_opt ih _ _)) ?_)
          split
          · exact ⟨thin_rep ih _ _ _ (.inr rfl), trivial⟩
          · trivial
    · simp only [T.exp, if_neg h8]
      obtain ⟨h1, h2⟩ := Hd.formed_kind hf1
      exact ⟨⟨h1, fun h => by rw [TL.exp_len]; have := h2 h; omega, fun h => absurd h h8⟩, TL.exp_thin l hf.2⟩
theorem TL.exp_thin : ∀ l : List T, TL.form l = true → TL.thin (TL.exp l)
  | [], _ => trivial
  | t :: l, hf => by
    simp only [TL.form, Bool.and_eq_true] at hf
    exact ⟨T.exp_thin t hf.1, TL.exp_thin l hf.2⟩
end
/-- What a tree's positions lead over. -/
theorem T.laid_leads (x : Sc) (hm : ∀ i, x.mark i < 4) (t : T) (hf : t.form = true) (i j : Nat) :
    Leads x.mark (okS x t.exp.posOf.2.S) 0 t.exp.posOf.2.S.length t.exp.posOf.1 t.exp.posOf.2.M i j ↔ t.R x i j := by
  rw [← T.exp_R x t hf]
  exact T.glu x _ hm t.exp ⟨[], fun _ _ => 0⟩ (T.exp_thin t hf) (fun p q h => absurd rfl h) (List.prefix_refl _) i j
end Go.Proofs.YtbbhobojghmkpaaDoor
