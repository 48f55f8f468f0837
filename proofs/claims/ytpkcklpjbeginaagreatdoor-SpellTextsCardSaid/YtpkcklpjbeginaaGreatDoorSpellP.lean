/- spell, in plain Lean: a tree's text, and whether a tree is tidy. -/
import Derived.Test.YtpkcklpjbeginaaGreatDoorCheck
import Derived.Test.YtpkcklpjbeginaaGreatDoorOctCount
import Derived.Test.YtpkcklpjbeginaaGreatDoorDepths
import Derived.Lib.ItoaNum
set_option linter.unusedSimpArgs false
set_option linter.unusedVariables false
namespace Go.Proofs.YtpkcklpjbeginaaGreatDoor
open Go.RowKit

/-- A text of one byte. -/
def byS (n : Nat) : ByteArray := ⟨#[n.toUInt8]⟩
def fourB (b : Nat) : Bool := b == 93 || b == 91 || b == 94 || b == 45
/-- A row of bytes as a text. -/
def rowT (lo hi : Nat) : ByteArray := if hi = lo then byS lo else if hi = lo + 1 then byS lo ++ byS hi else byS lo ++ byS 45 ++ byS hi
/-- The end of the row that is under way at b. -/
def rowEnd (P : Nat → Bool) : Nat → Nat → Nat
 | 0, b => b
 | n + 1, b => if b < 255 ∧ P (b + 1) = true then rowEnd P n (b + 1) else b
def rowsT (P : Nat → Bool) : Nat → Nat → ByteArray
 | 0, _ => ⟨#[]⟩
 | n + 1, b => if 255 < b then ⟨#[]⟩ else if P b = true then rowT b (rowEnd P 256 b) ++ rowsT P n (rowEnd P 256 b + 1) else rowsT P n (b + 1)
def optB (is : Bool) (n : Nat) : ByteArray := if is then byS n else ⟨#[]⟩
/-- The bytes of a set, as they stand in brackets. -/
def itemsP (S : Nat → Bool) : ByteArray := optB (S 93) 93 ++ rowsT (fun b => S b && !fourB b) 256 0 ++ optB (S 91) 91 ++ optB (S 94) 94 ++ optB (S 45) 45
def markE (b : Nat) : Bool := b == 46 || b == 91 || b == 40 || b == 41 || b == 42 || b == 43 || b == 63 || b == 123 || b == 124 || b == 94 || b == 36 || b == 92
def quote1 (b : Nat) : ByteArray := if markE b then ⟨#[92, b.toUInt8]⟩ else byS b
/-- A set's text. -/
def setP (S : Nat → Bool) : ByteArray :=
 if cntb S 256 = 256 then byS 46
 else if cntb S 256 = 1 then quote1 (firstB S)
 else if cntb S 256 = 0 ∨ 128 < cntb S 256 then (⟨#[91, 94]⟩ : ByteArray) ++ itemsP (fun b => !S b) ++ byS 93
 else if itemsP S = ⟨#[94, 45]⟩ then ⟨#[91, 45, 94, 93]⟩
 else byS 91 ++ itemsP S ++ byS 93

theorem byS_toList (n : Nat) : (byS n).data.toList = [n.toUInt8] := rfl
theorem app_toList (x y : ByteArray) : (x ++ y).data.toList = x.data.toList ++ y.data.toList := by simp
theorem rowEnd_ge (P : Nat → Bool) : ∀ n b, b ≤ rowEnd P n b
 | 0, b => Nat.le_refl _
 | n + 1, b => by
  rw [rowEnd]
  split
  ·have := rowEnd_ge P n (b + 1); omega
  ·exact Nat.le_refl _
theorem rowEnd_more (P : Nat → Bool) : ∀ n m b, 255 ≤ b + n → 255 ≤ b + m → rowEnd P n b = rowEnd P m b
 | 0, 0, b, _, _ => rfl
 | 0, m + 1, b, h, _ => by rw [rowEnd, rowEnd, if_neg (by omega)]
 | n + 1, 0, b, _, h => by rw [rowEnd, rowEnd, if_neg (by omega)]
 | n + 1, m + 1, b, h1, h2 => by
  rw [rowEnd, rowEnd]
  split
  ·exact rowEnd_more P n m (b + 1) (by omega) (by omega)
  ·rfl
/-- One byte further. -/
theorem rowEnd_step {P : Nat → Bool} {b : Nat} (h : b < 255) (hp : P (b + 1) = true) : rowEnd P 256 b = rowEnd P 256 (b + 1) := by
 rw [show (256 : Nat) = 255 + 1 from rfl, rowEnd, if_pos ⟨h, hp⟩]
 exact rowEnd_more P 255 (255 + 1) (b + 1) (by omega) (by omega)
theorem rowEnd_stop {P : Nat → Bool} {b : Nat} (h : ¬ (b < 255 ∧ P (b + 1) = true)) : rowEnd P 256 b = b := by
 rw [show (256 : Nat) = 255 + 1 from rfl, rowEnd, if_neg h]
theorem rowsT_more (P : Nat → Bool) : ∀ n m b, 256 ≤ b + n → 256 ≤ b + m → rowsT P n b = rowsT P m b
 | 0, 0, b, _, _ => rfl
 | 0, m + 1, b, h, _ => by rw [rowsT, rowsT, if_pos (by omega)]
 | n + 1, 0, b, _, h => by rw [rowsT, rowsT, if_pos (by omega)]
 | n + 1, m + 1, b, h1, h2 => by
  rw [rowsT, rowsT]
  split
  ·rfl
  ·split
   ·have := rowEnd_ge P 256 b
    rw [rowsT_more P n m (rowEnd P 256 b + 1) (by omega) (by omega)]
   ·exact rowsT_more P n m (b + 1) (by omega) (by omega)
/-- The rows from a place on. -/
def rowsFrom (P : Nat → Bool) (b : Nat) : ByteArray := rowsT P 256 b
theorem rowsFrom_end {P : Nat → Bool} {b : Nat} (h : 255 < b) : rowsFrom P b = ⟨#[]⟩ := by
 unfold rowsFrom
 rw [show (256 : Nat) = 255 + 1 from rfl, rowsT, if_pos h]
theorem rowsFrom_skip {P : Nat → Bool} {b : Nat} (h : ¬ 255 < b) (hp : P b = false) : rowsFrom P b = rowsFrom P (b + 1) := by
 unfold rowsFrom
 rw [show (256 : Nat) = 255 + 1 from rfl, rowsT, if_neg h, if_neg (by rw [hp]; decide)]
 exact rowsT_more P 255 (255 + 1) (b + 1) (by omega) (by omega)
theorem rowsFrom_row {P : Nat → Bool} {b : Nat} (h : ¬ 255 < b) (hp : P b = true) : rowsFrom P b = rowT b (rowEnd P 256 b) ++ rowsFrom P (rowEnd P 256 b + 1) := by
 have h2 := rowEnd_ge P 256 b
 have h3 := rowsT_more P 255 256 (rowEnd P 256 b + 1) (by omega) (by omega)
 have h4 : rowsT P (255 + 1) b = if 255 < b then ⟨#[]⟩ else if P b = true then rowT b (rowEnd P 256 b) ++ rowsT P 255 (rowEnd P 256 b + 1) else rowsT P 255 (b + 1) := by rw [rowsT]
 rw [if_neg h, if_pos hp, h3] at h4
 exact h4
theorem rowT_first (lo hi : Nat) : ∃ r, (rowT lo hi).data.toList = lo.toUInt8 :: r := by
 unfold rowT
 split
 ·exact ⟨[], rfl⟩
 ·split
  ·exact ⟨[hi.toUInt8], by rw [app_toList]; rfl⟩
  ·exact ⟨[(45 : Nat).toUInt8, hi.toUInt8], by rw [app_toList, app_toList]; rfl⟩
theorem rowsT_none {P : Nat → Bool} : ∀ n b, 256 ≤ b + n → (rowsT P n b).data.toList = [] → ∀ c, b ≤ c → c < 256 → P c = false
 | 0, b, h, _, c, h1, h2 => by omega
 | n + 1, b, h, e, c, h1, h2 => by
  rw [rowsT] at e
  split at e
  ·omega
  ·split at e
   ·obtain ⟨r, hr⟩ := rowT_first b (rowEnd P 256 b)
    rw [app_toList, hr] at e
    cases e
   ·rename_i hp
    by_cases hc : c = b
    ·subst hc; simpa using hp
    ·exact rowsT_none n (b + 1) (by omega) e c (by omega) h2
theorem rowsT_first {P : Nat → Bool} : ∀ n b x r, (rowsT P n b).data.toList = x :: r → ∃ c, c < 256 ∧ P c = true ∧ x = c.toUInt8
 | 0, b, x, r, e => by cases e
 | n + 1, b, x, r, e => by
  rw [rowsT] at e
  split at e
  ·cases e
  ·split at e
   ·obtain ⟨q, hq⟩ := rowT_first b (rowEnd P 256 b)
    rw [app_toList, hq] at e
    injection e with e1 _
    exact ⟨b, by omega, by assumption, e1.symm⟩
   ·exact rowsT_first n (b + 1) x r e
/-- The text '^-' is that of its two bytes alone. -/
theorem items_two (S : Nat → Bool) : itemsP S = ⟨#[94, 45]⟩ ↔ ∀ b, b < 256 → S b = (b == 94 || b == 45) := by
 constructor
 ·intro h
  have hl := congrArg (fun x : ByteArray => x.data.toList) h
  simp only at hl
  unfold itemsP at hl
  rw [app_toList, app_toList, app_toList, app_toList] at hl
  have h93 : S 93 = false := by
   cases hs : S 93 with
   | false => rfl
   | true => rw [hs] at hl; simp [optB, byS] at hl
  rw [h93] at hl
  have hr : (rowsT (fun b => S b && !fourB b) 256 0).data.toList = [] := by
   cases hq : (rowsT (fun b => S b && !fourB b) 256 0).data.toList with
   | nil => rfl
   | cons x r =>
    rw [hq] at hl
    obtain ⟨c, h1, h2, h3⟩ := rowsT_first 256 0 x r hq
    have hx : x = 94 := by
     have := congrArg List.head? hl
     simp [optB] at this
     exact this
    have hc : c = 94 := by
     have h4 : c.toUInt8.toNat = c := by
      show (UInt8.ofNat c).toNat = c
      rw [UInt8.toNat_ofNat']; omega
     rw [← h4, ← h3, hx]; rfl
    subst hc
    simp [fourB] at h2
  have hall := rowsT_none 256 0 (by omega) hr
  rw [hr] at hl
  have h91 : S 91 = false := by
   cases hs : S 91 with
   | false => rfl
   | true => rw [hs] at hl; simp [optB, byS] at hl
  have h94 : S 94 = true := by
   cases hs : S 94 with
   | true => rfl
   | false => rw [hs, h91] at hl; cases hs2 : S 45 <;> rw [hs2] at hl <;> simp [optB, byS] at hl
  have h45 : S 45 = true := by
   cases hs : S 45 with
   | true => rfl
   | false => rw [hs, h91, h94] at hl; simp [optB, byS] at hl
  intro b hb
  have hb2 := hall b (Nat.zero_le _) hb
  by_cases e1 : b = 94
  ·subst e1; rw [h94]; rfl
  by_cases e2 : b = 45
  ·subst e2; rw [h45]; rfl
  by_cases e3 : b = 93
  ·subst e3; rw [h93]; rfl
  by_cases e4 : b = 91
  ·subst e4; rw [h91]; rfl
  have : fourB b = false := by simp [fourB, e1, e2, e3, e4]
  rw [this] at hb2
  simp at hb2
  rw [hb2]
  simp [e1, e2]
 ·intro h
  have hP : ∀ b, b < 256 → (S b && !fourB b) = false := fun b hb => by
   rw [h b hb]
   by_cases e1 : b = 94
   ·subst e1; rfl
   by_cases e2 : b = 45
   ·subst e2; rfl
   simp [e1, e2]
  have hrows : ∀ n b, rowsT (fun b => S b && !fourB b) n b = ⟨#[]⟩ := by
   intro n
   induction n with
   | zero => intro b; rfl
   | succ n ih =>
    intro b
    rw [rowsT]
    split
    ·rfl
    ·rw [if_neg (by rw [hP b (by omega)]; decide)]
     exact ih (b + 1)
  unfold itemsP
  rw [hrows, h 93 (by decide), h 91 (by decide), h 94 (by decide), h 45 (by decide)]
  decide +kernel

/-! ### Tidy -/
/-- May a kind stand right below another one? -/
def fitsK (a b : Int) : Bool := if a = 5 then !(b == 1 || b == 5 || b == 6) else if a = 6 then !(b == 6) else if a = 8 then b == 2 || b == 7 else true
mutual
def T.kindsOk : T → Bool
 | .mk h l => !h.bare && TL.kindsOk h.kind l
def TL.kindsOk (k : Int) : List T → Bool
 | [] => true
 | t :: r => fitsK k t.hd.kind && t.kindsOk && TL.kindsOk k r
end
mutual
def T.numbers : T → List Int
 | .mk h l => (if h.kind = 7 then [h.num] else []) ++ TL.numbers l
def TL.numbers : List T → List Int
 | [] => []
 | t :: r => t.numbers ++ TL.numbers r
end
mutual
/-- The groups met so far, behind a tidy tree; none: it is not tidy. -/
def T.tidyN : T → Int → Option Int
 | .mk h l, g =>
  if h.kind = 8 ∧ h.bare = true then none
  else if h.kind = 7 ∧ h.num ≠ g + 1 then none
  else TL.tidyN h.kind l (if h.kind = 7 then g + 1 else g)
def TL.tidyN (k : Int) : List T → Int → Option Int
 | [], g => some g
 | t :: r, g => if fitsK k t.hd.kind = false then none else
  match t.tidyN g with
  | none => none
  | some g' => TL.tidyN k r g'
end
/-- So many numbers from one on. -/
def fromN (g : Int) : Nat → List Int
 | 0 => []
 | n + 1 => (g + 1) :: fromN (g + 1) n
theorem fromN_len (g : Int) : ∀ n, (fromN g n).length = n := by
 intro n
 induction n generalizing g with
 | zero => rfl
 | succ n ih => simp [fromN, ih]
theorem fromN_app (g : Int) (a b : Nat) : fromN g (a + b) = fromN g a ++ fromN (g + a) b := by
 induction a generalizing g with
 | zero => simp [fromN]
 | succ a ih =>
  rw [show a + 1 + b = (a + b) + 1 by omega, fromN, fromN, ih (g + 1), List.cons_append]
  rw [show g + 1 + (a : Int) = g + ((a + 1 : Nat) : Int) by omega]
theorem app_fromN (g : Int) (x y : List Int) : (x ++ y = fromN g (x ++ y).length) ↔ x = fromN g x.length ∧ y = fromN (g + x.length) y.length := by
 rw [List.length_append, fromN_app]
 constructor
 ·intro h
  exact List.append_inj h (by rw [fromN_len])
 ·rintro ⟨h1, h2⟩
  rw [← h1, ← h2]
theorem T.form_bare {h : Hd} {l : List T} (hf : (T.mk h l).form = true) (k : h.kind ≠ 8) : h.bare = false := by
 rw [T.form_eq] at hf
 simp only [Bool.and_eq_true] at hf
 have h1 := hf.1
 simp only [T.hd, T.subs] at h1
 unfold Hd.formed at h1
 split at h1
 ·simp [Hd.plain] at h1; exact h1.1.2
 split at h1
 ·simp at h1; exact h1.1.2
 split at h1
 ·simp [Hd.plain] at h1; exact h1.1.2
 split at h1
 ·simp at h1; exact h1.1.2
 cases h1
mutual
theorem T.tidyN_is : ∀ (t : T) (g : Int), t.form = true → t.tidyN g = if t.kindsOk = true ∧ t.numbers = fromN g t.numbers.length then some (g + t.numbers.length) else none
 | .mk h l, g, hf => by
  have hfl : TL.form l = true := by rw [T.form_eq, Bool.and_eq_true] at hf; exact hf.2
  rw [T.tidyN, T.kindsOk, T.numbers]
  by_cases k8 : h.kind = 8 ∧ h.bare = true
  ·rw [if_pos k8, if_neg (by rw [k8.2]; simp)]
  ·rw [if_neg k8]
   have hb : h.bare = false := by
    by_cases k : h.kind = 8
    ·cases hb : h.bare with
     | false => rfl
     | true => exact absurd ⟨k, hb⟩ k8
    ·exact T.form_bare hf k
   by_cases k7 : h.kind = 7
   ·rw [if_pos k7, if_pos k7]
    by_cases hn : h.num = g + 1
    ·rw [if_neg (by simp [hn]), TL.tidyN_is h.kind l (g + 1) hfl, hb]
     simp only [List.singleton_append, List.length_cons, fromN, Bool.not_false, Bool.true_and]
     by_cases hc : TL.kindsOk h.kind l = true ∧ TL.numbers l = fromN (g + 1) (TL.numbers l).length
     ·rw [if_pos hc, if_pos ⟨hc.1, by rw [hn, ← hc.2]⟩]
      congr 1
      omega
     ·rw [if_neg hc, if_neg (fun h2 => hc ⟨h2.1, by have := h2.2; injection this⟩)]
    ·rw [if_pos ⟨k7, hn⟩, if_neg (fun h2 => hn (by have := h2.2; simp only [List.singleton_append, List.length_cons, fromN] at this; injection this))]
   ·rw [if_neg (by simp [k7]), if_neg k7, if_neg k7, TL.tidyN_is h.kind l g hfl, hb]
    simp only [List.nil_append, Bool.not_false, Bool.true_and]
theorem TL.tidyN_is : ∀ (k : Int) (l : List T) (g : Int), TL.form l = true → TL.tidyN k l g = if TL.kindsOk k l = true ∧ TL.numbers l = fromN g (TL.numbers l).length then some (g + (TL.numbers l).length) else none
 | k, [], g, _ => by simp [TL.tidyN, TL.kindsOk, TL.numbers, fromN]
 | k, t :: r, g, hf => by
  rw [TL.form, Bool.and_eq_true] at hf
  rw [TL.tidyN, TL.kindsOk, TL.numbers]
  have ha := app_fromN g t.numbers (TL.numbers r)
  cases hk : fitsK k t.hd.kind with
  | false => rw [if_pos rfl, if_neg (by simp)]
  | true =>
   rw [if_neg (by decide), T.tidyN_is t g hf.1]
   by_cases hc : t.kindsOk = true ∧ t.numbers = fromN g t.numbers.length
   ·rw [if_pos hc]
    simp only
    rw [TL.tidyN_is k r _ hf.2, hc.1]
    simp only [Bool.true_and]
    by_cases hd : TL.kindsOk k r = true ∧ TL.numbers r = fromN (g + t.numbers.length) (TL.numbers r).length
    ·rw [if_pos hd, if_pos ⟨hd.1, ha.2 ⟨hc.2, hd.2⟩⟩, List.length_append]
     congr 1
     omega
    ·rw [if_neg hd, if_neg (fun h2 => hd ⟨h2.1, (ha.1 h2.2).2⟩)]
   ·rw [if_neg hc]
    simp only
    rw [if_neg (fun h2 => hc ⟨by have := h2.1; simp at this; exact this.1, (ha.1 h2.2).1⟩)]
end
/-! ### The text -/
def decP (n : Nat) : ByteArray := ⟨(Lib.decDigits n).toArray⟩
/-- A repeat's text. -/
def repP (a b : Int) : ByteArray :=
 if b = -1 then (if a = 0 then byS 42 else if a = 1 then byS 43 else byS 123 ++ decP a.toNat ++ ⟨#[44, 125]⟩)
 else if a = 0 ∧ b = 1 then byS 63
 else if a = b then byS 123 ++ decP a.toNat ++ byS 125
 else byS 123 ++ decP a.toNat ++ byS 44 ++ decP b.toNat ++ byS 125
mutual
/-- A tree's text. -/
def T.txt : T → ByteArray
 | .mk h l =>
  if h.kind = 3 then byS 94
  else if h.kind = 4 then byS 36
  else if h.kind = 2 then setP (fun b => h.has b)
  else if h.kind = 7 then byS 40 ++ TL.txt false l ++ byS 41
  else if h.kind = 8 then TL.txt false l ++ repP h.min h.max
  else TL.txt (h.kind == 6) l
/-- The texts of trees one behind the other, with bars between them or not. -/
def TL.txt (bar : Bool) : List T → ByteArray
 | [] => ⟨#[]⟩
 | t :: r => t.txt ++ TL.txt2 bar r
def TL.txt2 (bar : Bool) : List T → ByteArray
 | [] => ⟨#[]⟩
 | t :: r => (if bar then byS 124 else ⟨#[]⟩) ++ t.txt ++ TL.txt2 bar r
end
mutual
/-- How many groups stand in one another. -/
def T.nest : T → Int
 | .mk h l => TL.nest l 0 + (if h.kind = 7 then 1 else 0)
def TL.nest : List T → Int → Int
 | [], n => n
 | t :: r, n => TL.nest r (mx2 n t.nest)
end
theorem TL.nest_eq : ∀ (l : List T) (n : Int), TL.nest l n = l.foldl (fun n s => mx2 n s.nest) n
 | [], _ => rfl
 | t :: ts, n => by simp only [TL.nest, List.foldl_cons]; exact TL.nest_eq ts _
mutual
theorem T.nest_bd : ∀ t : T, 0 ≤ t.nest ∧ t.nest ≤ t.nodes
 | .mk h l => by
  have := TL.nest_bd l 0
  rw [T.nest, T.nodes]
  split <;> omega
theorem TL.nest_bd : ∀ (l : List T) (n : Int), n ≤ TL.nest l n ∧ TL.nest l n ≤ max n (TL.nodes l)
 | [], n => by rw [TL.nest]; omega
 | t :: r, n => by
  have h1 := T.nest_bd t
  have h2 := TL.nest_bd r (mx2 n t.nest)
  rw [TL.nest, TL.nodes]
  obtain ⟨z, hz⟩ : ∃ z, z = mx2 n t.nest := ⟨_, rfl⟩
  rw [← hz] at h2 ⊢
  unfold mx2 at hz
  split at hz <;> omega
end
end Go.Proofs.YtpkcklpjbeginaaGreatDoor
