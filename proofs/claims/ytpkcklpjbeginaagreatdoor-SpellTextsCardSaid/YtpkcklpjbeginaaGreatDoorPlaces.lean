/- Which pieces of a subject a tree takes, as a relation between places; sets of places as words. -/
import Derived.Test.YtpkcklpjbeginaaGreatDoorTree
set_option linter.unusedSimpArgs false
set_option linter.unusedVariables false
namespace Go.Proofs.YtpkcklpjbeginaaGreatDoor

/-- A subject and the marks of its places. -/
structure Sc where
 text : ByteArray
 marks : List Nat

def Sc.mark (x : Sc) (i : Nat) : Nat := x.marks.getD i 0
def Sc.len (x : Sc) : Nat := x.text.size

/-- The set's word. -/
def Hd.word (h : Hd) (k : Nat) : Int := if k = 0 then h.s0 else if k = 1 then h.s1 else if k = 2 then h.s2 else h.s3
def Hd.has (h : Hd) (b : Nat) : Bool := (h.word (b / 64)).toNat.testBit (b % 64)

/-- So many rounds. -/
def Iter (R : Nat → Nat → Prop) : Nat → Nat → Nat → Prop
 | 0, i, j => i = j
 | k + 1, i, j => ∃ m, Iter R k i m ∧ R m j

theorem Iter.add {R : Nat → Nat → Prop} {a : Nat} : ∀ {b i j : Nat}, Iter R (a + b) i j ↔ ∃ m, Iter R a i m ∧ Iter R b m j
 | 0, i, j => by simp [Iter]
 | b + 1, i, j => by
  show (∃ m, Iter R (a + b) i m ∧ R m j) ↔ _
  constructor
  ·rintro ⟨m, h1, h2⟩
   obtain ⟨p, h3, h4⟩ := Iter.add.1 h1
   exact ⟨p, h3, m, h4, h2⟩
  ·rintro ⟨p, h3, m, h4, h2⟩
   exact ⟨m, Iter.add.2 ⟨p, h3, h4⟩, h2⟩

theorem Iter.one {R : Nat → Nat → Prop} {i j : Nat} : Iter R 1 i j ↔ R i j := by simp [Iter]
mutual
/-- The tree takes the piece from i to j. -/
def T.R (x : Sc) : T → Nat → Nat → Prop
 | .mk h l => fun i j =>
  if h.kind = 1 then i = j
  else if h.kind = 2 then j = i + 1 ∧ i < x.len ∧ h.has (x.text.data.toList.getD i 0).toNat = true
  else if h.kind = 3 then i = j ∧ (x.mark i).testBit 0 = true
  else if h.kind = 4 then i = j ∧ (x.mark i).testBit 1 = true
  else if h.kind = 5 then TL.Rseq x l i j
  else if h.kind = 6 then TL.Ralt x l i j
  else if h.kind = 7 then TL.Rone x l i j
  else ∃ k : Nat, h.min ≤ k ∧ (h.max = -1 ∨ (k : Int) ≤ h.max) ∧ Iter (TL.Rone x l) k i j
def TL.Rseq (x : Sc) : List T → Nat → Nat → Prop
 | [] => fun i j => i = j
 | t :: ts => fun i j => ∃ m, t.R x i m ∧ TL.Rseq x ts m j
def TL.Ralt (x : Sc) : List T → Nat → Nat → Prop
 | [] => fun _ _ => False
 | t :: ts => fun i j => t.R x i j ∨ TL.Ralt x ts i j
def TL.Rone (x : Sc) : List T → Nat → Nat → Prop
 | [] => fun _ _ => False
 | t :: _ => t.R x
end

/-- Pieces run forward, and end in the subject. -/
def Fwd (n : Nat) (R : Nat → Nat → Prop) : Prop := ∀ i j, R i j → i ≤ j ∧ (i ≤ n → j ≤ n)

/-! ### Words -/

/-- to is the set of places to which R leads from the set f. -/
def Img (R : Nat → Nat → Prop) (f to : Nat) : Prop := ∀ j, to.testBit j = true ↔ ∃ i, f.testBit i = true ∧ R i j
/-- All places of the set lie in a subject of so many bytes. -/
def Fits (n f : Nat) : Prop := ∀ i, f.testBit i = true → i ≤ n

theorem Img.eq {R : Nat → Nat → Prop} {f a b : Nat} (h : Img R f a) (k : Img R f b) : a = b :=
 Nat.eq_of_testBit_eq fun j => by rw [Bool.eq_iff_iff, h j, k j]
theorem Img.fits {n : Nat} {R : Nat → Nat → Prop} {f to : Nat} (h : Img R f to) (hR : Fwd n R) (hf : Fits n f) : Fits n to := fun j hj => by
 obtain ⟨i, h1, h2⟩ := (h j).1 hj
 exact (hR i j h2).2 (hf i h1)
theorem Img.congr {R R' : Nat → Nat → Prop} {f to : Nat} (h : Img R f to) (e : ∀ i j, R i j ↔ R' i j) : Img R' f to := fun j => by
 rw [h j]
 simp only [e]
theorem Img.or {R R' : Nat → Nat → Prop} {a b c : Nat} (h : Img R a b) (k : Img R' a c) : Img (fun i j => R i j ∨ R' i j) a (b ||| c) := fun j => by
 rw [Nat.testBit_or, Bool.or_eq_true, h j, k j]
 constructor
 ·rintro (⟨i, h1, h2⟩ | ⟨i, h1, h2⟩)
  ·exact ⟨i, h1, .inl h2⟩
  ·exact ⟨i, h1, .inr h2⟩
 ·rintro ⟨i, h1, h2 | h2⟩
  ·exact .inl ⟨i, h1, h2⟩
  ·exact .inr ⟨i, h1, h2⟩
theorem Img.id (f : Nat) : Img (fun i j => i = j) f f := fun j => by
 constructor
 ·intro h; exact ⟨j, h, rfl⟩
 ·rintro ⟨i, h, rfl⟩; exact h
theorem Img.none (f : Nat) : Img (fun _ _ => False) f 0 := fun j => by simp
theorem Img.zero (R : Nat → Nat → Prop) : Img R 0 0 := fun j => by simp

theorem Fits.lt {n f : Nat} (h : Fits n f) (hn : n ≤ 63) : f < 18446744073709551616 := by
 rw [show (18446744073709551616 : Nat) = 2 ^ 64 from rfl]
 refine Nat.lt_pow_two_of_testBit f fun j hj => ?_
 cases hb : f.testBit j with
 | false => rfl
 | true => have := h j hb; omega
theorem Fits.zero (n : Nat) : Fits n 0 := fun i h => by simp at h
theorem Fits.or {n a b : Nat} (h : Fits n a) (k : Fits n b) : Fits n (a ||| b) := fun i hi => by
 rw [Nat.testBit_or, Bool.or_eq_true] at hi
 exact hi.elim (h i) (k i)

/-! ### A repeat -/

/-- At most so many rounds. -/
def Upto (R : Nat → Nat → Prop) (k : Nat) (i j : Nat) : Prop := ∃ r, r ≤ k ∧ Iter R r i j
theorem Upto.succ {R : Nat → Nat → Prop} {k i j : Nat} : Upto R (k + 1) i j ↔ Upto R k i j ∨ ∃ m, Upto R k i m ∧ R m j := by
 constructor
 ·rintro ⟨r, hr, h⟩
  by_cases hk : r ≤ k
  ·exact .inl ⟨r, hk, h⟩
  ·obtain rfl : r = k + 1 := by omega
   obtain ⟨m, h1, h2⟩ := h
   exact .inr ⟨m, ⟨k, Nat.le_refl _, h1⟩, h2⟩
 ·rintro (⟨r, hr, h⟩ | ⟨m, ⟨r, hr, h⟩, h2⟩)
  ·exact ⟨r, by omega, h⟩
  ·exact ⟨r + 1, by omega, m, h, h2⟩

/-- What holds at the head of the second loop's round k. -/
structure Rounds (R : Nat → Nat → Prop) (start k all last : Nat) : Prop where
 img : Img (Upto R k) start all
 sub : ∀ i, last.testBit i = true → all.testBit i = true
 closed : ∀ i j, all.testBit i = true → last.testBit i = false → R i j → all.testBit j = true

theorem Rounds.start (R : Nat → Nat → Prop) (f : Nat) : Rounds R f 0 f f :=
 ⟨(Img.id f).congr fun i j => ⟨fun h => ⟨0, Nat.le_refl _, h⟩, fun ⟨r, hr, h⟩ => by
  obtain rfl : r = 0 := by omega
  exact h⟩, fun _ h => h, fun i j h1 h2 => by rw [h1] at h2; cases h2⟩

theorem Rounds.next {R : Nat → Nat → Prop} {start k all last to : Nat} (h : Rounds R start k all last) (ht : Img R last to) {new : Nat} (hn : ∀ j, new.testBit j = (to.testBit j && !all.testBit j)) :
  Rounds R start (k + 1) (all ||| new) new := by
 have key : ∀ j, (all ||| new).testBit j = true ↔ all.testBit j = true ∨ ∃ i, all.testBit i = true ∧ R i j := fun j => by
  rw [Nat.testBit_or, hn, Bool.or_eq_true]
  constructor
  ·rintro (h1 | h1)
   ·exact .inl h1
   ·simp only [Bool.and_eq_true] at h1
    obtain ⟨i, h2, h3⟩ := (ht j).1 h1.1
    exact .inr ⟨i, h.sub i h2, h3⟩
  ·rintro (h1 | ⟨i, h1, h2⟩)
   ·exact .inl h1
   ·by_cases ha : all.testBit j = true
    ·exact .inl ha
    ·by_cases hl : last.testBit i = true
     ·refine .inr ?_
      simp only [Bool.and_eq_true, Bool.not_eq_true']
      exact ⟨(ht j).2 ⟨i, hl, h2⟩, by simpa using ha⟩
     ·exact absurd (h.closed i j h1 (by simpa using hl) h2) ha
 refine ⟨fun j => ?_, fun i hi => ?_, fun i j h1 h2 h3 => ?_⟩
 ·rw [key j]
  constructor
  ·rintro (h1 | ⟨i, h1, h2⟩)
   ·obtain ⟨s, h3, h4⟩ := (h.img j).1 h1
    exact ⟨s, h3, Upto.succ.2 (.inl h4)⟩
   ·obtain ⟨s, h3, h4⟩ := (h.img i).1 h1
    exact ⟨s, h3, Upto.succ.2 (.inr ⟨i, h4, h2⟩)⟩
  ·rintro ⟨s, h3, h4⟩
   rcases Upto.succ.1 h4 with h5 | ⟨m, h5, h6⟩
   ·exact .inl ((h.img j).2 ⟨s, h3, h5⟩)
   ·exact .inr ⟨m, (h.img m).2 ⟨s, h3, h5⟩, h6⟩
 ·rw [Nat.testBit_or, hi, Bool.or_true]
 ·refine (key j).2 (.inr ⟨i, ?_, h3⟩)
  rw [Nat.testBit_or, h2, Bool.or_false] at h1
  exact h1

/-- Nothing new came: all rounds lead nowhere else. -/
theorem Rounds.over {R : Nat → Nat → Prop} {start k all : Nat} (h : Rounds R start k all 0) (q : Nat) : Img (Upto R q) start all ∨ q < k := by
 by_cases hq : q < k
 ·exact .inr hq
 refine .inl fun j => ?_
 constructor
 ·intro hj
  obtain ⟨s, h1, r, h2, h3⟩ := (h.img j).1 hj
  exact ⟨s, h1, r, by omega, h3⟩
 ·rintro ⟨s, h1, r, h2, h3⟩
  have h0 : all.testBit s = true := (h.img s).2 ⟨s, h1, 0, Nat.zero_le _, rfl⟩
  clear h2
  induction r generalizing j with
  | zero =>
   have e : s = j := h3
   rw [← e]; exact h0
  | succ r ih =>
   obtain ⟨m, h4, h5⟩ := h3
   exact h.closed m j (ih m h4) (by simp) h5
end Go.Proofs.YtpkcklpjbeginaaGreatDoor
