/- EscP6: What reading yields at a backslash, in plain Lean.
LetP7: Letters and digits are one tree in both kinds of patterns; marks of the extended ones are bytes of the basic ones, in plain Lean.
QuoteP8: A text quoted is read as that text, in both kinds of patterns, in plain Lean.
SetBack8: A set's text is read as that set, in plain Lean.
TxtBack8: The tree of any pattern is tidy, and read from its own text, in plain Lean. -/
import Derived.Test.YtpkcklpjbeginaaGreatDoorEreP
import Derived.Test.YtpkcklpjbeginaaGreatDoorSpellP
import Derived.Test.YtpkcklpjbeginaaGreatDoorRep8
import Derived.Test.YtpkcklpjbeginaaGreatDoorJoinP6
set_option linter.unusedSimpArgs false
set_option linter.unusedVariables false
set_option linter.unnecessarySimpa false

/-! ## EscP6 -/
namespace Go.Proofs.YtpkcklpjbeginaaGreatDoor
open Go.RowKit

end Go.Proofs.YtpkcklpjbeginaaGreatDoor

/-! ## LetP7 -/
namespace Go.Proofs.YtpkcklpjbeginaaGreatDoor
open Go.RowKit

section
variable {p : ByteArray} {ic nl : Bool}
/-- A mark of the extended patterns that the basic ones have not. -/
def mark (c : Nat) : Prop := c = 43 ∨ c = 63 ∨ c = 124 ∨ c = 40 ∨ c = 41 ∨ c = 123 ∨ c = 125
variable {x : ByteArray} {c : Nat}
end
end Go.Proofs.YtpkcklpjbeginaaGreatDoor

/-! ## QuoteP8 -/
namespace Go.Proofs.YtpkcklpjbeginaaGreatDoor
open Go.RowKit

/-- The marks of basic patterns. -/
def markB (b : Nat) : Bool := b == 46 || b == 91 || b == 42 || b == 94 || b == 36 || b == 92
/-- A text with a backslash ahead of each mark. -/
def quoteL (mk : Nat → Bool) : List UInt8 → List UInt8
 | [] => []
 | b :: r => (if mk b.toNat then [92, b] else [b]) ++ quoteL mk r
def quoteS (mk : Nat → Bool) (s : ByteArray) : ByteArray := ⟨(quoteL mk s.data.toList).toArray⟩
theorem quoteL_len (mk : Nat → Bool) : ∀ l : List UInt8, l.length ≤ (quoteL mk l).length ∧ (quoteL mk l).length ≤ 2 * l.length
 | [] => by simp [quoteL]
 | b :: r => by
  have := quoteL_len mk r
  rw [quoteL]
  split <;> simp <;> omega
section
variable {x : ByteArray} {nl : Bool}
end
end Go.Proofs.YtpkcklpjbeginaaGreatDoor

/-! ## SetBack8 -/
namespace Go.Proofs.YtpkcklpjbeginaaGreatDoor
open Go.RowKit

theorem cnt_zero8 {f : Nat → Bool} : ∀ n, cntb f n = 0 → ∀ j, j < n → f j = false
 | 0, _, j, hj => by omega
 | n + 1, h, j, hj => by
  rw [cntb] at h
  by_cases e : j = n
  ·subst e
   cases hf : f j with
   | false => rfl
   | true => rw [hf] at h; simp at h
  ·exact cnt_zero8 n (by omega) j (by omega)
theorem cntb_one {f : Nat → Bool} : ∀ n, cntb f n = 1 → ∃ b, b < n ∧ f b = true ∧ ∀ j, j < n → j ≠ b → f j = false
 | 0, h => by cases h
 | n + 1, h => by
  rw [cntb] at h
  cases hf : f n with
  | true =>
   rw [hf] at h
   refine ⟨n, by omega, hf, fun j hj hne => cnt_zero8 n (by simpa using h) j (by omega)⟩
  | false =>
   rw [hf] at h
   obtain ⟨b, h1, h2, h3⟩ := cntb_one n (by simpa using h)
   refine ⟨b, by omega, h2, fun j hj hne => ?_⟩
   by_cases e : j = n
   ·rw [e]; exact hf
   ·exact h3 j (by omega) hne
/-! ### Items -/
section
variable {x : ByteArray} {z f : Nat}
theorem item_one {i : Nat} {pl : Int} (h1 : pb x i = 91 → pb x (i + 1) ≠ 46 ∧ pb x (i + 1) ≠ 61 ∧ pb x (i + 1) ≠ 58) (h2 : pb x (i + 1) = 45 → pb x (i + 2) = 93) : itemP x i pl = .good (fun y => decide (y = pb x i)) (i + 1) := by
 unfold itemP
 rw [if_neg (fun e => by have := h1 e.1; omega), if_neg (fun e => by have := h1 e.1; omega), if_neg (fun e => e.2.2 (h2 e.1))]
/-- Reading goes on at another place, with another set. -/
def Goes (x : ByteArray) (z f i : Nat) (S : Nat → Bool) (j : Nat) (S' : Nat → Bool) : Prop := ∀ k, x.size - i < k → ∃ k', x.size - j < k' ∧ loopP x z f k i S = loopP x z f k' j S'
theorem Goes.refl (i : Nat) (S : Nat → Bool) : Goes x z f i S i S := fun k hk => ⟨k, hk, rfl⟩
theorem Goes.trans {i j l : Nat} {S S1 S2 : Nat → Bool} (h : Goes x z f i S j S1) (k : Goes x z f j S1 l S2) : Goes x z f i S l S2 := fun n hn => by
 obtain ⟨n1, h1, e1⟩ := h n hn
 obtain ⟨n2, h2, e2⟩ := k n1 h1
 exact ⟨n2, h2, e1.trans e2⟩
theorem Goes.item {i j : Nat} {S T : Nat → Bool} (hi : i < x.size) (hn : ¬ (pb x i = 93 ∧ f < i)) (hj : i < j) (h : itemP x i (z : Int) = .good T j) : Goes x z f i S j (fun y => S y || T y) := fun k hk => by
 cases k with
 | zero => omega
 | succ k => exact ⟨k, by omega, by rw [loopP, if_neg (by omega), if_neg hn, h]⟩
theorem Goes.one {i c : Nat} {S : Nat → Bool} (hi : i < x.size) (hc : pb x i = c) (hn : ¬ (c = 93 ∧ f < i)) (h1 : c = 91 → pb x (i + 1) ≠ 46 ∧ pb x (i + 1) ≠ 61 ∧ pb x (i + 1) ≠ 58) (h2 : pb x (i + 1) = 45 → pb x (i + 2) = 93) : Goes x z f i S (i + 1) (fun y => S y || decide (y = c)) := by
 subst hc
 exact Goes.item hi hn (by omega) (item_one h1 h2)
end
end Go.Proofs.YtpkcklpjbeginaaGreatDoor

/-! ## TxtBack8 -/
namespace Go.Proofs.YtpkcklpjbeginaaGreatDoor
open Go.RowKit

/-! ### What reading yields -/
section
variable {p : ByteArray} {ic nl : Bool} {D : Nat → Nat → T → Prop} {dp : Option (Nat → Nat → PR)}
end

/-! ### Tidy, and how deep -/
section
variable {D : Nat → Nat → T → Prop} {B : Int}
end
/-! ### The text, read again -/
/-- The bytes of trees one behind the other. -/
def catL : List T → List UInt8
 | [] => []
 | t :: l => t.txt.data.toList ++ catL l
/-- With bars between. -/
def barL : List T → List UInt8
 | [] => []
 | t :: l => 124 :: (t.txt.data.toList ++ barL l)
theorem txt2_cat : ∀ l : List T, (TL.txt2 false l).data.toList = catL l
 | [] => rfl
 | t :: l => by
  rw [TL.txt2, app_toList, app_toList, txt2_cat l]
  rfl
theorem txt2_bar : ∀ l : List T, (TL.txt2 true l).data.toList = barL l
 | [] => rfl
 | t :: l => by
  rw [TL.txt2, app_toList, app_toList, txt2_bar l]
  rfl
theorem txt_cat (l : List T) : (TL.txt false l).data.toList = catL l := by
 cases l with
 | nil => rfl
 | cons t l => rw [TL.txt, app_toList, txt2_cat]; rfl
theorem txt_bar (t : T) (l : List T) : (TL.txt true (t :: l)).data.toList = t.txt.data.toList ++ barL l := by
 rw [TL.txt, app_toList, txt2_bar]
theorem grp_txt (n : Int) (t : T) : (grpT n t).txt.data.toList = 40 :: (t.txt.data.toList ++ [41]) := by
 unfold grpT
 rw [T.txt, if_neg (by intro e; cases e), if_neg (by intro e; cases e), if_neg (by intro e; cases e), if_pos rfl, app_toList, app_toList, txt_cat, catL, catL, List.append_nil]
 rfl
theorem rep_txt (a b : Int) (t : T) : (repT a b t).txt.data.toList = t.txt.data.toList ++ (repP a b).data.toList := by
 unfold repT
 rw [T.txt, if_neg (by intro e; cases e), if_neg (by intro e; cases e), if_neg (by intro e; cases e), if_neg (by intro e; cases e), if_pos rfl, app_toList, txt_cat, catL, catL, List.append_nil]

/-! ### Counts -/
theorem dec3 (n : Nat) (h : n ≤ 255) : Lib.decDigits n = if n < 10 then [UInt8.ofNat (48 + n)] else if n < 100 then [UInt8.ofNat (48 + n / 10), UInt8.ofNat (48 + n % 10)] else [UInt8.ofNat (48 + n / 100), UInt8.ofNat (48 + n / 10 % 10), UInt8.ofNat (48 + n % 10)] := by
 rw [Lib.decDigits]
 by_cases c1 : n < 10
 ·rw [dif_pos c1, if_pos c1]
 ·rw [dif_neg c1, if_neg c1, Lib.decDigits]
  by_cases c2 : n < 100
  ·rw [dif_pos (by omega), if_pos c2]; rfl
  ·rw [dif_neg (by omega), if_neg c2, Lib.decDigits, dif_pos (by omega), show n / 10 / 10 = n / 100 by omega]; rfl
/-! ### Back -/
section
variable {x : ByteArray} {D : Nat → Nat → T → Prop} {dp : Option (Nat → Nat → PR)}
def Stop (x : ByteArray) (deep : Bool) (e : Nat) : Prop := ¬ e < x.size ∨ (pb x e = 41 ∧ deep = true)
end
end Go.Proofs.YtpkcklpjbeginaaGreatDoor
