/- EscP6: What reading yields at a backslash, in plain Lean.
LetP7: Letters and digits are one tree in both kinds of patterns; marks of the extended ones are bytes of the basic ones, in plain Lean.
QuoteP8: A text quoted is read as that text, in both kinds of patterns, in plain Lean.
SetBack8: A set's text is read as that set, in plain Lean.
TxtBack8: The tree of any pattern is tidy, and read from its own text, in plain Lean. -/
import Derived.Test.YtpkcklpjbeginaaGreatDoorEreP
import Derived.Test.YtpkcklpjbeginaaGreatDoorSpellP
import Derived.Test.YtpkcklpjbeginaaGreatDoorRep8
import Derived.Test.YtpkcklpjbeginaaGreatDoorJoinP6
set_option linter.unusedSimpArgs false
set_option linter.unusedVariables false
set_option linter.unnecessarySimpa false

/-! ## EscP6 -/
namespace Go.Proofs.YtpkcklpjbeginaaGreatDoor
open Go.RowKit

/-- Which bytes are punct. -/
theorem punct_is : ∀ b : Fin 256, punct5 b.val = (decide (32 < b.val) && decide (b.val < 127) && !(decide (48 ≤ b.val) && decide (b.val ≤ 57)) && !(decide (65 ≤ b.val) && decide (b.val ≤ 90)) && !(decide (97 ≤ b.val) && decide (b.val ≤ 122))) := by
 unfold punct5 memb5
 rw [ByteArray.toList_eq]
 decide +kernel
end Go.Proofs.YtpkcklpjbeginaaGreatDoor

/-! ## LetP7 -/
namespace Go.Proofs.YtpkcklpjbeginaaGreatDoor
open Go.RowKit

section
variable {p : ByteArray} {ic nl : Bool}
theorem repE_run {j : Nat} (h : ¬ (pb p j = 42 ∨ pb p j = 43 ∨ pb p j = 63 ∨ pb p j = 123)) : repE p j = .no := by
 unfold repE
 rw [if_neg (fun e => h (.inl e)), if_neg (fun e => h (.inr (.inl e))), if_neg (fun e => h (.inr (.inr (.inl e)))), if_neg (fun e => h (.inr (.inr (.inr e))))]
/-- A mark of the extended patterns that the basic ones have not. -/
def mark (c : Nat) : Prop := c = 43 ∨ c = 63 ∨ c = 124 ∨ c = 40 ∨ c = 41 ∨ c = 123 ∨ c = 125
variable {x : ByteArray} {c : Nat}
end
end Go.Proofs.YtpkcklpjbeginaaGreatDoor

/-! ## QuoteP8 -/
namespace Go.Proofs.YtpkcklpjbeginaaGreatDoor
open Go.RowKit

/-- The marks of basic patterns. -/
def markB (b : Nat) : Bool := b == 46 || b == 91 || b == 42 || b == 94 || b == 36 || b == 92
/-- A text with a backslash ahead of each mark. -/
def quoteL (mk : Nat → Bool) : List UInt8 → List UInt8
 | [] => []
 | b :: r => (if mk b.toNat then [92, b] else [b]) ++ quoteL mk r
def quoteS (mk : Nat → Bool) (s : ByteArray) : ByteArray := ⟨(quoteL mk s.data.toList).toArray⟩
theorem quoteL_len (mk : Nat → Bool) : ∀ l : List UInt8, l.length ≤ (quoteL mk l).length ∧ (quoteL mk l).length ≤ 2 * l.length
 | [] => by simp [quoteL]
 | b :: r => by
  have := quoteL_len mk r
  rw [quoteL]
  split <;> simp <;> omega
theorem drop_by {x : ByteArray} {o : Nat} {b : UInt8} {r : List UInt8} (h : x.data.toList.drop o = b :: r) : o < x.size ∧ pb x o = b.toNat ∧ x.data.toList.drop (o + 1) = r := by
 have h0 : x.data.toList[o]? = some b := by
  have : (x.data.toList.drop o)[0]? = some b := by rw [h]; rfl
  rwa [List.getElem?_drop, Nat.add_zero] at this
 rw [data_at] at h0
 by_cases ho : o < x.size
 ·rw [if_pos ho] at h0
  refine ⟨ho, ?_, ?_⟩
  ·have := Option.some.inj h0
   rw [← this]
   have hl := pb_lt ho
   show pb x o = (UInt8.ofNat (pb x o)).toNat
   rw [UInt8.toNat_ofNat']
   omega
  ·rw [← List.drop_drop, h]; rfl
 ·rw [if_neg ho] at h0; cases h0
theorem markE_punct : ∀ b : Fin 256, markE b.val = true → punct5 b.val = true := by
 intro b h
 rw [punct_is]
 revert b
 decide +kernel
section
variable {x : ByteArray} {nl : Bool}
theorem notE {b : Nat} (h : ¬ markE b = true) : b ≠ 46 ∧ b ≠ 91 ∧ b ≠ 40 ∧ b ≠ 41 ∧ b ≠ 42 ∧ b ≠ 43 ∧ b ≠ 63 ∧ b ≠ 123 ∧ b ≠ 124 ∧ b ≠ 94 ∧ b ≠ 36 ∧ b ≠ 92 := by
 refine ⟨?_, ?_, ?_, ?_, ?_, ?_, ?_, ?_, ?_, ?_, ?_, ?_⟩ <;> (rintro rfl; exact h rfl)
end
end Go.Proofs.YtpkcklpjbeginaaGreatDoor

/-! ## SetBack8 -/
namespace Go.Proofs.YtpkcklpjbeginaaGreatDoor
open Go.RowKit

theorem cnt_zero8 {f : Nat → Bool} : ∀ n, cntb f n = 0 → ∀ j, j < n → f j = false
 | 0, _, j, hj => by omega
 | n + 1, h, j, hj => by
  rw [cntb] at h
  by_cases e : j = n
  ·subst e
   cases hf : f j with
   | false => rfl
   | true => rw [hf] at h; simp at h
  ·exact cnt_zero8 n (by omega) j (by omega)
theorem cntb_full {f : Nat → Bool} : ∀ n, cntb f n = n → ∀ j, j < n → f j = true
 | 0, _, j, hj => by omega
 | n + 1, h, j, hj => by
  have hl := cntb_le f n
  rw [cntb] at h
  have hb : (f n).toNat ≤ 1 := Bool.toNat_le _
  by_cases e : j = n
  ·subst e
   cases hf : f j with
   | true => rfl
   | false => rw [hf] at h; simp at h; omega
  ·exact cntb_full n (by omega) j (by omega)
theorem cntb_one {f : Nat → Bool} : ∀ n, cntb f n = 1 → ∃ b, b < n ∧ f b = true ∧ ∀ j, j < n → j ≠ b → f j = false
 | 0, h => by cases h
 | n + 1, h => by
  rw [cntb] at h
  cases hf : f n with
  | true =>
   rw [hf] at h
   refine ⟨n, by omega, hf, fun j hj hne => cnt_zero8 n (by simpa using h) j (by omega)⟩
  | false =>
   rw [hf] at h
   obtain ⟨b, h1, h2, h3⟩ := cntb_one n (by simpa using h)
   refine ⟨b, by omega, h2, fun j hj hne => ?_⟩
   by_cases e : j = n
   ·rw [e]; exact hf
   ·exact h3 j (by omega) hne
theorem first_one {S : Nat → Bool} (h : cntb S 256 = 1) : firstB S < 256 ∧ ∀ y, y < 256 → S y = decide (y = firstB S) := by
 obtain ⟨b, h1, h2, h3⟩ := cntb_one 256 h
 have hf := (firstB_eq h1 h2 (fun j hj => h3 j (by omega) (by omega))).1
 rw [hf]
 refine ⟨h1, fun y hy => ?_⟩
 by_cases e : y = b
 ·rw [e, h2]; simp
 ·rw [h3 y hy e]; simp [e]
theorem bytT_cg {S S' : Nat → Bool} (h : ∀ y, y < 256 → S y = S' y) : bytT S = bytT S' := by
 unfold bytT
 rw [wd_congr (S := S) (T := S') (k := 0) (fun j hj => h _ (by omega)), wd_congr (S := S) (T := S') (k := 1) (fun j hj => h _ (by omega)), wd_congr (S := S) (T := S') (k := 2) (fun j hj => h _ (by omega)), wd_congr (S := S) (T := S') (k := 3) (fun j hj => h _ (by omega))]
theorem u8n {b : Nat} (h : b < 256) : b.toUInt8.toNat = b := by
 show (UInt8.ofNat b).toNat = b
 rw [UInt8.toNat_ofNat']; omega

/-! ### Items -/
section
variable {x : ByteArray} {z f : Nat}
theorem item_one {i : Nat} {pl : Int} (h1 : pb x i = 91 → pb x (i + 1) ≠ 46 ∧ pb x (i + 1) ≠ 61 ∧ pb x (i + 1) ≠ 58) (h2 : pb x (i + 1) = 45 → pb x (i + 2) = 93) : itemP x i pl = .good (fun y => decide (y = pb x i)) (i + 1) := by
 unfold itemP
 rw [if_neg (fun e => by have := h1 e.1; omega), if_neg (fun e => by have := h1 e.1; omega), if_neg (fun e => e.2.2 (h2 e.1))]
theorem item_range {i : Nat} {pl : Int} (h0 : pb x i ≠ 91) (h1 : pb x (i + 1) = 45) (hi : i + 2 < x.size) (h2 : pb x (i + 2) ≠ 93) (h3 : pb x (i + 2) ≠ 91) (h4 : pb x i ≤ pb x (i + 2)) : itemP x i pl = .good (fun y => decide (pb x i ≤ y ∧ y ≤ pb x (i + 2))) (i + 3) := by
 unfold itemP
 rw [if_neg (fun e => h0 e.1), if_neg (fun e => h0 e.1), if_pos ⟨h1, hi, h2⟩, if_neg (fun e => h3 e.1), if_neg (by omega)]
/-- Reading goes on at another place, with another set. -/
def Goes (x : ByteArray) (z f i : Nat) (S : Nat → Bool) (j : Nat) (S' : Nat → Bool) : Prop := ∀ k, x.size - i < k → ∃ k', x.size - j < k' ∧ loopP x z f k i S = loopP x z f k' j S'
theorem Goes.refl (i : Nat) (S : Nat → Bool) : Goes x z f i S i S := fun k hk => ⟨k, hk, rfl⟩
theorem Goes.trans {i j l : Nat} {S S1 S2 : Nat → Bool} (h : Goes x z f i S j S1) (k : Goes x z f j S1 l S2) : Goes x z f i S l S2 := fun n hn => by
 obtain ⟨n1, h1, e1⟩ := h n hn
 obtain ⟨n2, h2, e2⟩ := k n1 h1
 exact ⟨n2, h2, e1.trans e2⟩
theorem Goes.item {i j : Nat} {S T : Nat → Bool} (hi : i < x.size) (hn : ¬ (pb x i = 93 ∧ f < i)) (hj : i < j) (h : itemP x i (z : Int) = .good T j) : Goes x z f i S j (fun y => S y || T y) := fun k hk => by
 cases k with
 | zero => omega
 | succ k => exact ⟨k, by omega, by rw [loopP, if_neg (by omega), if_neg hn, h]⟩
theorem Goes.one {i c : Nat} {S : Nat → Bool} (hi : i < x.size) (hc : pb x i = c) (hn : ¬ (c = 93 ∧ f < i)) (h1 : c = 91 → pb x (i + 1) ≠ 46 ∧ pb x (i + 1) ≠ 61 ∧ pb x (i + 1) ≠ 58) (h2 : pb x (i + 1) = 45 → pb x (i + 2) = 93) : Goes x z f i S (i + 1) (fun y => S y || decide (y = c)) := by
 subst hc
 exact Goes.item hi hn (by omega) (item_one h1 h2)
theorem rowEnd_all {P : Nat → Bool} : ∀ n b, P b = true → ∀ c, b ≤ c → c ≤ rowEnd P n b → P c = true
 | 0, b, hb, c, h1, h2 => by
  rw [rowEnd] at h2
  rw [show c = b by omega]; exact hb
 | n + 1, b, hb, c, h1, h2 => by
  rw [rowEnd] at h2
  by_cases e : c = b
  ·rw [e]; exact hb
  ·split at h2
   ·rename_i hc
    exact rowEnd_all n (b + 1) hc.2 c (by omega) h2
   ·omega
theorem four_not {b : Nat} (h : fourB b = false) : b ≠ 93 ∧ b ≠ 91 ∧ b ≠ 94 ∧ b ≠ 45 := by
 refine ⟨?_, ?_, ?_, ?_⟩ <;> (rintro rfl; exact absurd h (by decide))
/-- No range is begun at a place. -/
def Nx (x : ByteArray) (i : Nat) : Prop := pb x i = 45 → pb x (i + 1) = 93
theorem row_read {lo hi o : Nat} {S : Nat → Bool} {R : List UInt8} (h1 : lo ≤ hi) (h2 : hi < 256) (f1 : fourB lo = false) (f2 : fourB hi = false) (hd : x.data.toList.drop o = (rowT lo hi).data.toList ++ R) (hn : Nx x (o + (rowT lo hi).data.toList.length)) :
  x.data.toList.drop (o + (rowT lo hi).data.toList.length) = R ∧ ∃ S', Goes x z f o S (o + (rowT lo hi).data.toList.length) S' ∧ ∀ y, S' y = (S y || decide (lo ≤ y ∧ y ≤ hi)) := by
 have g1 := four_not f1
 have g2 := four_not f2
 unfold rowT at hd hn ⊢
 by_cases c1 : hi = lo
 ·rw [if_pos c1] at hd hn ⊢
  rw [byS_toList] at hd hn ⊢
  obtain ⟨p1, p2, p3⟩ := drop_by (r := R) hd
  rw [u8n (by omega)] at p2
  refine ⟨p3, _, Goes.one p1 p2 (by omega) (by omega) hn, fun y => ?_⟩
  congr 1
  rw [decide_eq_decide]
  omega
 rw [if_neg c1] at hd hn ⊢
 by_cases c2 : hi = lo + 1
 ·rw [if_pos c2] at hd hn ⊢
  rw [app_toList, byS_toList, byS_toList] at hd hn ⊢
  obtain ⟨p1, p2, p3⟩ := drop_by (r := hi.toUInt8 :: R) hd
  obtain ⟨q1, q2, q3⟩ := drop_by p3
  rw [u8n (by omega)] at p2 q2
  refine ⟨q3, _, (Goes.one p1 p2 (by omega) (by omega) (by omega)).trans (Goes.one q1 q2 (by omega) (by omega) hn), fun y => ?_⟩
  rw [Bool.or_assoc, ← Bool.decide_or]
  congr 1
  rw [decide_eq_decide]
  omega
 rw [if_neg c2] at hd hn ⊢
 rw [app_toList, app_toList, byS_toList, byS_toList, byS_toList] at hd hn ⊢
 obtain ⟨p1, p2, p3⟩ := drop_by (r := (45 : Nat).toUInt8 :: hi.toUInt8 :: R) hd
 obtain ⟨q1, q2, q3⟩ := drop_by p3
 obtain ⟨r1, r2, r3⟩ := drop_by q3
 have q2' : pb x (o + 1) = 45 := q2
 rw [u8n (by omega)] at p2 r2
 have r2' : pb x (o + 2) = hi := r2
 refine ⟨r3, _, Goes.item (j := o + 3) p1 (by omega) (by omega) (item_range (by omega) q2' (by omega) (by omega) (by omega) (by omega)), fun y => ?_⟩
 rw [p2, r2']
theorem rows_read {P : Nat → Bool} (hP : ∀ c, P c = true → fourB c = false) {R : List UInt8} : ∀ (n b o : Nat) (S : Nat → Bool), 256 ≤ b + n → x.data.toList.drop o = (rowsT P n b).data.toList ++ R → Nx x (o + (rowsT P n b).data.toList.length) →
  x.data.toList.drop (o + (rowsT P n b).data.toList.length) = R ∧ ∃ S', Goes x z f o S (o + (rowsT P n b).data.toList.length) S' ∧ ∀ y, y < 256 → S' y = (S y || (decide (b ≤ y) && P y))
 | 0, b, o, S, hb, hd, hn => by
  refine ⟨hd, S, Goes.refl _ _, fun y hy => ?_⟩
  rw [decide_eq_false (by omega)]; simp
 | n + 1, b, o, S, hb, hd, hn => by
  rw [rowsT] at hd hn ⊢
  by_cases c1 : 255 < b
  ·rw [if_pos c1] at hd hn ⊢
   refine ⟨hd, S, Goes.refl _ _, fun y hy => ?_⟩
   rw [decide_eq_false (by omega)]; simp
  rw [if_neg c1] at hd hn ⊢
  by_cases c2 : P b = true
  ·rw [if_pos c2] at hd hn ⊢
   obtain ⟨e, he⟩ : ∃ e, e = rowEnd P 256 b := ⟨_, rfl⟩
   have h1 := rowEnd_ge P 256 b
   have h2 := rowEnd_le P 256 b (by omega)
   have hall := rowEnd_all (P := P) 256 b c2
   rw [← he] at h1 h2 hall hd hn ⊢
   rw [app_toList] at hd hn ⊢
   rw [List.append_assoc] at hd
   rw [List.length_append, ← Nat.add_assoc] at hn ⊢
   have hnx : Nx x (o + (rowT b e).data.toList.length) := by
    cases hq : (rowsT P n (e + 1)).data.toList with
    | nil => rw [hq] at hn; exact hn
    | cons u r =>
     obtain ⟨c, k1, k2, k3⟩ := rowsT_first n (e + 1) u r hq
     have hd2 : x.data.toList.drop (o + (rowT b e).data.toList.length) = u :: (r ++ R) := by
      rw [← List.drop_drop, hd, List.drop_left, hq]; rfl
     have hp := (drop_by hd2).2.1
     rw [k3, u8n k1] at hp
     have := four_not (hP c k2)
     intro h45
     omega
   obtain ⟨hd2, S1, hg1, hs1⟩ := row_read (x := x) (z := z) (f := f) (S := S) h1 (by omega) (hP b c2) (hP e (hall e h1 (Nat.le_refl _))) hd hnx
   obtain ⟨hd3, S2, hg2, hs2⟩ := rows_read hP n (e + 1) (o + (rowT b e).data.toList.length) S1 (by omega) hd2 hn
   refine ⟨hd3, S2, hg1.trans hg2, fun y hy => ?_⟩
   rw [hs2 y hy, hs1 y, Bool.or_assoc]
   congr 1
   by_cases y1 : b ≤ y
   ·by_cases y2 : y ≤ e
    ·rw [decide_eq_true (show b ≤ y ∧ y ≤ e from ⟨y1, y2⟩), decide_eq_true y1, hall y y1 y2]; rfl
    ·rw [decide_eq_false (show ¬ (b ≤ y ∧ y ≤ e) by omega), decide_eq_true y1, decide_eq_true (show e + 1 ≤ y by omega)]; rfl
   ·rw [decide_eq_false (show ¬ (b ≤ y ∧ y ≤ e) by omega), decide_eq_false y1, decide_eq_false (show ¬ e + 1 ≤ y by omega)]; rfl
  ·rw [if_neg c2] at hd hn ⊢
   obtain ⟨hd3, S2, hg2, hs2⟩ := rows_read hP n (b + 1) o S (by omega) hd hn
   refine ⟨hd3, S2, hg2, fun y hy => ?_⟩
   rw [hs2 y hy]
   congr 1
   by_cases e : y = b
   ·subst e
    simp at c2
    rw [c2]; simp
   ·congr 1
    rw [decide_eq_decide]; omega
/-- The three marks at the end, and the bracket. -/
theorem tail_read {a b c : Bool} {o : Nat} {S : Nat → Bool} {R : List UInt8} (hd : x.data.toList.drop o = (optB a 91).data.toList ++ ((optB b 94).data.toList ++ ((optB c 45).data.toList ++ 93 :: R))) :
  Nx x o ∧ ∃ m S', m = o + ((optB a 91).data.toList.length + ((optB b 94).data.toList.length + (optB c 45).data.toList.length)) ∧ pb x m = 93 ∧ m < x.size ∧ x.data.toList.drop (m + 1) = R ∧ Goes x z f o S m S' ∧ ∀ y, S' y = (S y || (a && decide (y = 91)) || (b && decide (y = 94)) || (c && decide (y = 45))) := by
 have e91 : ∀ s, (optB s 91).data.toList = if s then [91] else [] := fun s => by cases s <;> rfl
 have e94 : ∀ s, (optB s 94).data.toList = if s then [94] else [] := fun s => by cases s <;> rfl
 have e45 : ∀ s, (optB s 45).data.toList = if s then [45] else [] := fun s => by cases s <;> rfl
 rw [e91, e94, e45] at hd ⊢
 cases a <;> cases b <;> cases c <;> simp only [if_true, Bool.false_eq_true, if_false, List.nil_append, List.singleton_append, List.cons_append, List.length_nil, List.length_singleton, Nat.add_zero, Nat.zero_add, Bool.false_and, Bool.true_and, Bool.or_false] at hd ⊢
 ·obtain ⟨p1, p2, p3⟩ := drop_by hd
  have p2 : pb x o = 93 := p2
  exact ⟨fun h => by omega, o, S, rfl, p2, p1, p3, Goes.refl _ _, fun y => rfl⟩
 ·obtain ⟨p1, p2, p3⟩ := drop_by hd
  have p2 : pb x o = 45 := p2
  obtain ⟨q1, q2, q3⟩ := drop_by p3
  have q2 : pb x (o + 1) = 93 := q2
  exact ⟨fun h => q2, o + 1, _, rfl, q2, q1, q3, Goes.one p1 p2 (by omega) (by omega) (by omega), fun y => rfl⟩
 ·obtain ⟨p1, p2, p3⟩ := drop_by hd
  have p2 : pb x o = 94 := p2
  obtain ⟨q1, q2, q3⟩ := drop_by p3
  have q2 : pb x (o + 1) = 93 := q2
  exact ⟨fun h => by omega, o + 1, _, rfl, q2, q1, q3, Goes.one p1 p2 (by omega) (by omega) (by omega), fun y => rfl⟩
 ·obtain ⟨p1, p2, p3⟩ := drop_by hd
  have p2 : pb x o = 94 := p2
  obtain ⟨q1, q2, q3⟩ := drop_by p3
  have q2 : pb x (o + 1) = 45 := q2
  obtain ⟨r1, r2, r3⟩ := drop_by q3
  have r2 : pb x (o + 1 + 1) = 93 := r2
  exact ⟨fun h => by omega, o + 2, _, rfl, r2, r1, r3, (Goes.one p1 p2 (by omega) (by omega) (fun _ => r2)).trans (Goes.one q1 q2 (by omega) (by omega) (by omega)), fun y => rfl⟩
 ·obtain ⟨p1, p2, p3⟩ := drop_by hd
  have p2 : pb x o = 91 := p2
  obtain ⟨q1, q2, q3⟩ := drop_by p3
  have q2 : pb x (o + 1) = 93 := q2
  exact ⟨fun h => by omega, o + 1, _, rfl, q2, q1, q3, Goes.one p1 p2 (by omega) (by omega) (by omega), fun y => rfl⟩
 ·obtain ⟨p1, p2, p3⟩ := drop_by hd
  have p2 : pb x o = 91 := p2
  obtain ⟨q1, q2, q3⟩ := drop_by p3
  have q2 : pb x (o + 1) = 45 := q2
  obtain ⟨r1, r2, r3⟩ := drop_by q3
  have r2 : pb x (o + 1 + 1) = 93 := r2
  exact ⟨fun h => by omega, o + 2, _, rfl, r2, r1, r3, (Goes.one p1 p2 (by omega) (by omega) (fun _ => r2)).trans (Goes.one q1 q2 (by omega) (by omega) (by omega)), fun y => rfl⟩
 ·obtain ⟨p1, p2, p3⟩ := drop_by hd
  have p2 : pb x o = 91 := p2
  obtain ⟨q1, q2, q3⟩ := drop_by p3
  have q2 : pb x (o + 1) = 94 := q2
  obtain ⟨r1, r2, r3⟩ := drop_by q3
  have r2 : pb x (o + 1 + 1) = 93 := r2
  exact ⟨fun h => by omega, o + 2, _, rfl, r2, r1, r3, (Goes.one p1 p2 (by omega) (by omega) (by omega)).trans (Goes.one q1 q2 (by omega) (by omega) (by omega)), fun y => rfl⟩
 ·obtain ⟨p1, p2, p3⟩ := drop_by hd
  have p2 : pb x o = 91 := p2
  obtain ⟨q1, q2, q3⟩ := drop_by p3
  have q2 : pb x (o + 1) = 94 := q2
  obtain ⟨r1, r2, r3⟩ := drop_by q3
  have r2 : pb x (o + 1 + 1) = 45 := r2
  obtain ⟨s1, s2, s3⟩ := drop_by r3
  have s2 : pb x (o + 1 + 1 + 1) = 93 := s2
  exact ⟨fun h => by omega, o + 3, _, rfl, s2, s1, s3, ((Goes.one p1 p2 (by omega) (by omega) (by omega)).trans (Goes.one q1 q2 (by omega) (by omega) (fun _ => s2))).trans (Goes.one r1 r2 (by omega) (by omega) (by omega)), fun y => rfl⟩
theorem items_list (S : Nat → Bool) : (itemsP S).data.toList = (optB (S 93) 93).data.toList ++ ((rowsT (fun b => S b && !fourB b) 256 0).data.toList ++ ((optB (S 91) 91).data.toList ++ ((optB (S 94) 94).data.toList ++ (optB (S 45) 45).data.toList))) := by
 unfold itemsP
 rw [app_toList, app_toList, app_toList, app_toList]
 simp only [List.append_assoc]
theorem items_sum (S : Nat → Bool) {y : Nat} : ((false || (S 93 && decide (y = 93))) || (decide (0 ≤ y) && (S y && !fourB y)) || (S 91 && decide (y = 91)) || (S 94 && decide (y = 94)) || (S 45 && decide (y = 45))) = S y := by
 by_cases e1 : y = 93
 ·subst e1; simp [fourB]
 by_cases e2 : y = 91
 ·subst e2; simp [fourB]
 by_cases e3 : y = 94
 ·subst e3; simp [fourB]
 by_cases e4 : y = 45
 ·subst e4; simp [fourB]
 simp [fourB, e1, e2, e3, e4]
theorem items_read {S : Nat → Bool} {R : List UInt8} (hd : x.data.toList.drop f = (itemsP S).data.toList ++ 93 :: R) (hne : (itemsP S).data.toList ≠ []) :
  ∃ S', loopP x z f (x.size + 1) f (fun _ => false) = .good S' (f + (itemsP S).data.toList.length) ∧ f + (itemsP S).data.toList.length < x.size ∧ x.data.toList.drop (f + (itemsP S).data.toList.length + 1) = R ∧ ∀ y, y < 256 → S' y = S y := by
 have hlen : 0 < (itemsP S).data.toList.length := List.length_pos_iff.2 hne
 have hil := items_list S
 obtain ⟨L, hL⟩ : ∃ L, L = (itemsP S).data.toList := ⟨_, rfl⟩
 rw [← hL] at hd hlen hil ⊢
 clear hL hne
 subst hil
 simp only [List.append_assoc, List.length_append] at hd hlen ⊢
 obtain ⟨o1, ho1⟩ : ∃ o1, o1 = f + (optB (S 93) 93).data.toList.length := ⟨_, rfl⟩
 have hd1 : x.data.toList.drop o1 = (rowsT (fun b => S b && !fourB b) 256 0).data.toList ++ ((optB (S 91) 91).data.toList ++ ((optB (S 94) 94).data.toList ++ ((optB (S 45) 45).data.toList ++ 93 :: R))) := by
  rw [ho1, ← List.drop_drop, hd, List.drop_left]
 obtain ⟨o2, ho2⟩ : ∃ o2, o2 = o1 + (rowsT (fun b => S b && !fourB b) 256 0).data.toList.length := ⟨_, rfl⟩
 have hd2 : x.data.toList.drop o2 = (optB (S 91) 91).data.toList ++ ((optB (S 94) 94).data.toList ++ ((optB (S 45) 45).data.toList ++ 93 :: R)) := by
  rw [ho2, ← List.drop_drop, hd1, List.drop_left]
 have hP : ∀ c, (fun b => S b && !fourB b) c = true → fourB c = false := fun c hc => by
  simp only [Bool.and_eq_true, Bool.not_eq_true'] at hc
  exact hc.2
 have hn2 : Nx x o2 := (tail_read (z := z) (f := f) (S := S) hd2).1
 have hn1 : Nx x o1 := by
  cases hq : (rowsT (fun b => S b && !fourB b) 256 0).data.toList with
  | nil => rw [hq] at ho2; rw [show o1 = o2 by simpa using ho2.symm]; exact hn2
  | cons u r =>
   obtain ⟨c, k1, k2, k3⟩ := rowsT_first 256 0 u r hq
   rw [hq] at hd1
   have hp := (drop_by hd1).2.1
   rw [k3, u8n k1] at hp
   have := four_not (hP c k2)
   intro h45
   omega
 obtain ⟨S1, hg1, hs1⟩ : ∃ S1, Goes x z f f (fun _ => false) o1 S1 ∧ ∀ y, S1 y = (false || (S 93 && decide (y = 93))) := by
  cases h93 : S 93 with
  | false =>
   rw [h93] at ho1
   rw [show o1 = f from ho1]
   exact ⟨_, Goes.refl _ _, fun y => by simp⟩
  | true =>
   rw [h93] at ho1 hd
   have ho1 : o1 = f + 1 := ho1
   obtain ⟨p1, p2, p3⟩ := drop_by (b := 93) hd
   have p2 : pb x f = 93 := p2
   rw [ho1] at hn1 ⊢
   exact ⟨_, Goes.one p1 p2 (by omega) (by omega) hn1, fun y => by simp⟩
 obtain ⟨_, S2, hg2, hs2⟩ := rows_read (z := z) (f := f) hP 256 0 o1 S1 (by omega) hd1 (by rw [← ho2]; exact hn2)
 rw [← ho2] at hg2
 obtain ⟨_, m, S3, hm, hm1, hm2, hm3, hg3, hs3⟩ := tail_read (z := z) (f := f) (S := S2) hd2
 have hmf : m = f + ((optB (S 93) 93).data.toList.length + ((rowsT (fun b => S b && !fourB b) 256 0).data.toList.length + ((optB (S 91) 91).data.toList.length + ((optB (S 94) 94).data.toList.length + (optB (S 45) 45).data.toList.length)))) := by omega
 rw [← hmf]
 obtain ⟨k', hk', hek⟩ := ((hg1.trans hg2).trans hg3) (x.size + 1) (by omega)
 refine ⟨S3, ?_, hm2, hm3, fun y hy => ?_⟩
 ·rw [hek]
  cases k' with
  | zero => omega
  | succ k' => rw [loopP, if_neg (by omega), if_pos ⟨hm1, by omega⟩]
 ·rw [hs3 y, hs2 y hy, hs1 y]
  exact items_sum S
theorem items_ne {S : Nat → Bool} (h : (itemsP S).data.toList = []) : ∀ y, y < 256 → S y = false := by
 rw [items_list] at h
 simp only [List.append_eq_nil_iff] at h
 obtain ⟨h1, h2, h3, h4, h5⟩ := h
 have ho : ∀ (b : Bool) (n : Nat), (optB b n).data.toList = [] → b = false := fun b n hb => by cases b <;> first | rfl | (simp [optB, byS] at hb)
 intro y hy
 have hr := rowsT_none 256 0 (by omega) h2 y (Nat.zero_le _) hy
 by_cases e1 : y = 93
 ·subst e1; exact ho _ _ h1
 by_cases e2 : y = 91
 ·subst e2; exact ho _ _ h3
 by_cases e3 : y = 94
 ·subst e3; exact ho _ _ h4
 by_cases e4 : y = 45
 ·subst e4; exact ho _ _ h5
 simpa [fourB, e1, e2, e3, e4] using hr
/-- The text of items begins with '^' just where nothing else is ahead of it. -/
theorem items_hat {S : Nat → Bool} {r : List UInt8} (h : (itemsP S).data.toList = 94 :: r) : itemsP S = ⟨#[94, 45]⟩ ∨ cntb S 256 = 1 := by
 have h0 := h
 rw [items_list] at h
 have ho : ∀ (b : Bool) (n : Nat), (optB b n).data.toList = if b then [n.toUInt8] else [] := fun b n => by cases b <;> rfl
 have h93 : S 93 = false := by
  cases hs : S 93 with
  | false => rfl
  | true => rw [hs] at h; simp [optB, byS] at h
 rw [h93] at h
 have hr : (rowsT (fun b => S b && !fourB b) 256 0).data.toList = [] := by
  cases hq : (rowsT (fun b => S b && !fourB b) 256 0).data.toList with
  | nil => rfl
  | cons u q =>
   obtain ⟨c, k1, k2, k3⟩ := rowsT_first 256 0 u q hq
   rw [hq] at h
   have hu : u = 94 := by
    have := congrArg List.head? h
    simpa [optB] using this
   have := u8n k1
   rw [← k3, hu] at this
   have e94 : c = 94 := this.symm
   rw [e94] at k2
   simp [fourB] at k2
 have hall := rowsT_none 256 0 (by omega) hr
 rw [hr] at h
 have h91 : S 91 = false := by
  cases hs : S 91 with
  | false => rfl
  | true => rw [hs] at h; simp [optB, byS] at h
 have h94 : S 94 = true := by
  cases hs : S 94 with
  | true => rfl
  | false => rw [hs, h91] at h; cases hs2 : S 45 <;> rw [hs2] at h <;> simp [optB, byS] at h
 have hrest : ∀ y, y < 256 → y ≠ 94 → y ≠ 45 → S y = false := fun y hy e1 e2 => by
  have hb := hall y (Nat.zero_le _) hy
  by_cases e3 : y = 93
  ·subst e3; exact h93
  by_cases e4 : y = 91
  ·subst e4; exact h91
  simpa [fourB, e1, e2, e3, e4] using hb
 cases h45 : S 45 with
 | true =>
  refine .inl ((items_two S).2 fun b hb => ?_)
  by_cases e1 : b = 94
  ·subst e1; rw [h94]; rfl
  by_cases e2 : b = 45
  ·subst e2; rw [h45]; rfl
  rw [hrest b hb e1 e2]; simp [e1, e2]
 | false =>
  refine .inr ?_
  have : cntb S 256 = cntb (fun y => decide (y = 94)) 256 := cntb_congr 256 fun y hy => by
   by_cases e1 : y = 94
   ·subst e1; rw [h94]; rfl
   by_cases e2 : y = 45
   ·subst e2; rw [h45]; rfl
   rw [hrest y hy e1 e2]; simp [e1]
  rw [this]
  decide +kernel
/-- A bracket expression whose items are those of a set. -/
theorem read_set {tb : Bool} {S : Nat → Bool} {R : List UInt8} {o : Nat} (ho : o < x.size) (hd : x.data.toList.drop (if tb then o + 2 else o + 1) = (itemsP S).data.toList ++ 93 :: R) (hne : (itemsP S).data.toList ≠ []) (htb : pb x (o + 1) = 94 ↔ tb = true) :
  ∃ S', readP x o false false = .good S' ((if tb then o + 2 else o + 1) + (itemsP S).data.toList.length + 1) ∧ x.data.toList.drop ((if tb then o + 2 else o + 1) + (itemsP S).data.toList.length + 1) = R ∧ ∀ y, y < 256 → S' y = (if tb then !S y else S y) := by
 have h1 : (if pb x (o + 1) = 94 then o + 2 else o + 1) = if tb then o + 2 else o + 1 := by
  cases tb with
  | true => rw [if_pos (htb.2 rfl)]; rfl
  | false => rw [if_neg (fun e => by have := htb.1 e; cases this)]; rfl
 have h2 : decide (pb x (o + 1) = 94) = tb := by
  cases tb with
  | true => exact decide_eq_true (htb.2 rfl)
  | false => exact decide_eq_false (fun e => by have := htb.1 e; cases this)
 obtain ⟨S', h3, h4, h5, h6⟩ := items_read (z := o) hd hne
 unfold readP
 rw [h1, h2, h3]
 refine ⟨finP tb false false S', rfl, h5, fun y hy => ?_⟩
 unfold finP
 cases tb with
 | true => simp [h6 y hy]
 | false => simp [h6 y hy]
end
/-- What a set's text begins with. -/
def headS (c : Nat) : Prop := c < 256 ∧ c ≠ 94 ∧ c ≠ 36 ∧ c ≠ 42 ∧ c ≠ 43 ∧ c ≠ 63 ∧ c ≠ 123 ∧ c ≠ 124 ∧ c ≠ 41
theorem read_setP {x : ByteArray} {o g : Nat} {S : Nat → Bool} {R : List UInt8} (dp : Option (Nat → Nat → PR)) (hd : x.data.toList.drop o = (setP S).data.toList ++ R) :
  o < x.size ∧ headS (pb x o) ∧ atomE x false false dp o g = .ok (bytT S) (o + (setP S).data.toList.length) g ∧ x.data.toList.drop (o + (setP S).data.toList.length) = R := by
 unfold setP at hd ⊢
 by_cases c1 : cntb S 256 = 256
 ·rw [if_pos c1] at hd ⊢
  rw [byS_toList] at hd ⊢
  obtain ⟨p1, p2, p3⟩ := drop_by (r := R) hd
  have p2 : pb x o = 46 := p2
  refine ⟨p1, by unfold headS; omega, ?_, p3⟩
  unfold atomE
  rw [if_pos p2, bytT_cg (S := S) (S' := dotS false) (fun y hy => by rw [cntb_full 256 c1 y hy]; rfl)]
  rfl
 rw [if_neg c1] at hd ⊢
 by_cases c2 : cntb S 256 = 1
 ·rw [if_pos c2] at hd ⊢
  obtain ⟨f1, f2⟩ := first_one c2
  obtain ⟨b, hb⟩ : ∃ b, b = firstB S := ⟨_, rfl⟩
  rw [← hb] at f1 f2 hd ⊢
  have hS : bytT S = bytT (oneS false b) := bytT_cg f2
  rw [hS]
  unfold quote1 at hd ⊢
  by_cases hm : markE b = true
  ·rw [if_pos hm] at hd ⊢
   obtain ⟨p1, p2, p3⟩ := drop_by (b := 92) (r := b.toUInt8 :: R) hd
   obtain ⟨q1, q2, q3⟩ := drop_by p3
   rw [u8n f1] at q2
   have p2 : pb x o = 92 := p2
   refine ⟨p1, by unfold headS; omega, ?_, q3⟩
   unfold atomE
   rw [p2, q2, if_neg (by decide), if_neg (by decide), if_neg (by decide), if_pos rfl, if_pos ⟨q1, markE_punct ⟨b, f1⟩ hm⟩]
   rfl
  ·rw [if_neg hm] at hd ⊢
   rw [byS_toList] at hd ⊢
   obtain ⟨p1, p2, p3⟩ := drop_by (r := R) hd
   rw [u8n f1] at p2
   obtain ⟨n1, n2, n3, n4, n5, n6, n7, n8, n9, n10, n11, n12⟩ := notE hm
   refine ⟨p1, by rw [p2]; exact ⟨f1, n10, n11, n5, n6, n7, n8, n9, n4⟩, ?_, p3⟩
   unfold atomE
   rw [p2, if_neg n1, if_neg n2, if_neg n3, if_neg n12]
   rfl
 rw [if_neg c2] at hd ⊢
 have hfin : ∀ (tb : Bool) (S2 : Nat → Bool) (n : Nat), pb x o = 91 → o < x.size → (∃ S', readP x o false false = .good S' n ∧ x.data.toList.drop n = R ∧ ∀ y, y < 256 → S' y = S y) → o < x.size ∧ headS (pb x o) ∧ atomE x false false dp o g = .ok (bytT S) n g ∧ x.data.toList.drop n = R := fun tb S2 n h91 ho ⟨S', h1, h2, h3⟩ => by
  refine ⟨ho, by unfold headS; omega, ?_, h2⟩
  unfold atomE
  rw [h91, if_neg (by decide), if_pos rfl]
  unfold setAt
  rw [h1, ← bytT_cg h3]
 by_cases c3 : cntb S 256 = 0 ∨ 128 < cntb S 256
 ·rw [if_pos c3] at hd ⊢
  have hl2 : ((⟨#[91, 94]⟩ : ByteArray) ++ itemsP (fun b => !S b) ++ byS 93).data.toList = 91 :: 94 :: ((itemsP (fun b => !S b)).data.toList ++ [93]) := by
   rw [app_toList, app_toList]; rfl
  rw [hl2] at hd ⊢
  obtain ⟨p1, p2, p3⟩ := drop_by (b := 91) hd
  obtain ⟨q1, q2, q3⟩ := drop_by (b := 94) p3
  have p2 : pb x o = 91 := p2
  have q2 : pb x (o + 1) = 94 := q2
  have q3 : x.data.toList.drop (o + 1 + 1) = (itemsP (fun b => !S b)).data.toList ++ 93 :: R := by
   rw [q3]
   show ((itemsP (fun b => !S b)).data.toList ++ [93]) ++ R = _
   simp
  have hne : (itemsP (fun b => !S b)).data.toList ≠ [] := fun e => by
   have := items_ne e
   have hall : cntb S 256 = cntb (fun _ => true) 256 := cntb_congr 256 fun y hy => by have := this y hy; simpa using this
   apply c1
   rw [hall]
   decide +kernel
  obtain ⟨S', h1, h2, h3⟩ := read_set (tb := true) (S := fun b => !S b) (R := R) p1 q3 hne ⟨fun _ => rfl, fun _ => q2⟩
  have hn : o + (91 :: 94 :: ((itemsP (fun b => !S b)).data.toList ++ [93])).length = (if true = true then o + 2 else o + 1) + (itemsP (fun b => !S b)).data.toList.length + 1 := by
   simp; omega
  rw [hn]
  exact hfin true S _ p2 p1 ⟨S', h1, h2, fun y hy => by rw [h3 y hy]; simp⟩
 rw [if_neg c3] at hd ⊢
 by_cases c4 : itemsP S = ⟨#[94, 45]⟩
 ·rw [if_pos c4] at hd ⊢
  have hS := (items_two S).1 c4
  have hd : x.data.toList.drop o = 91 :: 45 :: 94 :: 93 :: R := hd
  obtain ⟨p1, p2, p3⟩ := drop_by hd
  obtain ⟨q1, q2, q3⟩ := drop_by p3
  obtain ⟨r1, r2, r3⟩ := drop_by q3
  obtain ⟨s1, s2, s3⟩ := drop_by r3
  have p2 : pb x o = 91 := p2
  have q2 : pb x (o + 1) = 45 := q2
  have r2 : pb x (o + 1 + 1) = 94 := r2
  have s2 : pb x (o + 1 + 1 + 1) = 93 := s2
  have hg : Goes x o (o + 1) (o + 1) (fun _ => false) (o + 3) (fun y => (false || decide (y = 45)) || decide (y = 94)) :=
   (Goes.one q1 q2 (by omega) (by omega) (by omega)).trans (Goes.one r1 r2 (by omega) (by omega) (by omega))
  obtain ⟨k', hk', hek⟩ := hg (x.size + 1) (by omega)
  refine hfin false S (o + 4) p2 p1 ⟨fun y => (false || decide (y = 45)) || decide (y = 94), ?_, s3, fun y hy => ?_⟩
  ·unfold readP
   rw [q2, if_neg (by decide), hek]
   cases k' with
   | zero => omega
   | succ k' => rw [loopP, if_neg (by omega), if_pos ⟨s2, by omega⟩]; rfl
  ·rw [hS y hy]
   show ((false || decide (y = 45)) || decide (y = 94)) = (y == 94 || y == 45)
   rw [Bool.false_or, Bool.or_comm]
   rfl
 rw [if_neg c4] at hd ⊢
 have hl2 : (byS 91 ++ itemsP S ++ byS 93).data.toList = 91 :: ((itemsP S).data.toList ++ [93]) := by
  rw [app_toList, app_toList]; rfl
 rw [hl2] at hd ⊢
 obtain ⟨p1, p2, p3⟩ := drop_by (b := 91) hd
 have p2 : pb x o = 91 := p2
 have p3 : x.data.toList.drop (o + 1) = (itemsP S).data.toList ++ 93 :: R := by
  rw [p3]
  show ((itemsP S).data.toList ++ [93]) ++ R = _
  simp
 have hne : (itemsP S).data.toList ≠ [] := fun e => by
  have := items_ne e
  have hall : cntb S 256 = cntb (fun _ => false) 256 := cntb_congr 256 this
  have h0 : cntb (fun _ => false) 256 = 0 := by decide +kernel
  exact c3 (.inl (hall.trans h0))
 have hhat : ¬ pb x (o + 1) = 94 := fun e => by
  cases hq : (itemsP S).data.toList with
  | nil => exact hne hq
  | cons u r =>
   rw [hq] at p3
   have := (drop_by p3).2.1
   rw [e] at this
   have hu : u = 94 := UInt8.toNat_inj.1 this.symm
   rw [hu] at hq
   rcases items_hat hq with h | h
   ·exact c4 h
   ·exact c2 h
 obtain ⟨S', h1, h2, h3⟩ := read_set (tb := false) (S := S) (R := R) p1 p3 hne ⟨fun e => absurd e hhat, fun e => by cases e⟩
 have hn : o + (91 :: ((itemsP S).data.toList ++ [93])).length = (if false = true then o + 2 else o + 1) + (itemsP S).data.toList.length + 1 := by
  simp; omega
 rw [hn]
 exact hfin false S _ p2 p1 ⟨S', h1, h2, fun y hy => by rw [h3 y hy]; simp⟩
end Go.Proofs.YtpkcklpjbeginaaGreatDoor

/-! ## TxtBack8 -/
namespace Go.Proofs.YtpkcklpjbeginaaGreatDoor
open Go.RowKit

/-! ### What reading yields -/
def AtP (D : Nat → Nat → T → Prop) (g g' : Nat) (t : T) : Prop := (∃ S, t = bytT S ∧ g' = g) ∨ ∃ u, t = grpT ((g + 1 : Nat) : Int) u ∧ D (g + 1) g' u
def PiP (D : Nat → Nat → T → Prop) (g g' : Nat) (t : T) : Prop := (t = begT ∧ g' = g) ∨ (t = endT ∧ g' = g) ∨ AtP D g g' t ∨
 ∃ (a : Nat) (b : Int) (u : T), t = repT a b u ∧ AtP D g g' u ∧ a ≤ 255 ∧ (b = -1 ∨ ((a : Int) ≤ b ∧ b ≤ 255)) ∧ ¬ 2000 < (repT a b u).fullSize
def PiL (D : Nat → Nat → T → Prop) (g' : Nat) : Nat → List T → Prop
 | g, [] => g' = g
 | g, t :: l => ∃ g1, PiP D g g1 t ∧ PiL D g' g1 l
def BrL (D : Nat → Nat → T → Prop) (g' : Nat) : Nat → List T → Prop
 | g, [] => g' = g
 | g, t :: l => ∃ g1 s, t = T.seq s ∧ PiL D g1 g s ∧ BrL D g' g1 l
def PaP (D : Nat → Nat → T → Prop) (g g' : Nat) (t : T) : Prop := ∃ l, l ≠ [] ∧ BrL D g' g l ∧ t = T.alt l
def PaD : Nat → Nat → Nat → T → Prop
 | 0 => PaP (fun _ _ _ => False)
 | k + 1 => PaP (PaD k)
section
variable {p : ByteArray} {ic nl : Bool} {D : Nat → Nat → T → Prop} {dp : Option (Nat → Nat → PR)}
/-- What reads the pattern in a group yields such trees. -/
def DpP (D : Nat → Nat → T → Prop) (dp : Option (Nat → Nat → PR)) : Prop := ∀ f, dp = some f → ∀ i g t j h, f i g = .ok t j h → D g h t
theorem atom_is (hD : DpP D dp) {i g j h : Nat} {t : T} (e : atomE p ic nl dp i g = .ok t j h) : AtP D g h t := by
 unfold atomE at e
 split at e
 ·injection e with e1 e2 e3
  exact .inl ⟨_, e1.symm, e3.symm⟩
 split at e
 ·unfold setAt at e
  split at e
  ·injection e with e1 e2 e3
   exact .inl ⟨_, e1.symm, e3.symm⟩
  ·cases e
 split at e
 ·unfold groupP at e
  cases dp with
  | none => cases e
  | some f =>
   simp only at e
   cases hr : f (i + 1) (g + 1) with
   | bad c pl => rw [hr] at e; cases e
   | ok u k r =>
    rw [hr] at e
    simp only at e
    split at e
    ·injection e with e1 e2 e3
     subst e3
     exact .inr ⟨u, e1.symm, hD f rfl _ _ _ _ _ hr⟩
    ·cases e
 split at e
 ·split at e
  ·injection e with e1 e2 e3
   exact .inl ⟨_, e1.symm, e3.symm⟩
  ·cases e
 ·injection e with e1 e2 e3
  exact .inl ⟨_, e1.symm, e3.symm⟩
theorem piece_is (hD : DpP D dp) {i g j h : Nat} {t : T} (e : pieceE p ic nl dp i g = .ok t j h) : PiP D g h t := by
 unfold pieceE at e
 split at e
 ·injection e with e1 e2 e3
  exact .inl ⟨e1.symm, e3.symm⟩
 split at e
 ·injection e with e1 e2 e3
  exact .inr (.inl ⟨e1.symm, e3.symm⟩)
 split at e
 ·cases e
 ·cases ha : atomE p ic nl dp i g with
  | bad c pl => rw [ha] at e; cases e
  | ok u k r =>
   rw [ha] at e
   simp only at e
   have hat := atom_is hD ha
   unfold withRep at e
   cases hr : repE p k with
   | no =>
    rw [hr] at e
    injection e with e1 e2 e3
    subst e1 e3
    exact .inr (.inr (.inl hat))
   | bad c => rw [hr] at e; cases e
   | yes a b n =>
    rw [hr] at e
    simp only at e
    split at e
    ·cases e
    ·rename_i hsz
     injection e with e1 e2 e3
     subst e3
     have hle := repE_le hr
     exact .inr (.inr (.inr ⟨a, b, u, e1.symm, hat, hle.1, hle.2, hsz⟩))
theorem branch_is (hD : DpP D dp) {deep : Bool} : ∀ (n i g : Nat) (acc : List T) (t : T) (j h : Nat), branchE p ic nl dp deep n i g acc = .ok t j h → ∃ l, t = T.seq (acc ++ l) ∧ PiL D h g l
 | 0, i, g, acc, t, j, h, e => by cases e
 | n + 1, i, g, acc, t, j, h, e => by
  rw [branchE] at e
  split at e
  ·injection e with e1 e2 e3
   exact ⟨[], by rw [List.append_nil]; exact e1.symm, e3.symm⟩
  split at e
  ·split at e
   ·injection e with e1 e2 e3
    exact ⟨[], by rw [List.append_nil]; exact e1.symm, e3.symm⟩
   ·cases e
  ·cases hp : pieceE p ic nl dp i g with
   | bad c pl => rw [hp] at e; cases e
   | ok u k r =>
    rw [hp] at e
    obtain ⟨l, h1, h2⟩ := branch_is hD n k r _ t j h e
    exact ⟨u :: l, by rw [h1, List.append_assoc]; rfl, r, piece_is hD hp, h2⟩
theorem patt_is (hD : DpP D dp) {deep : Bool} : ∀ (n i g : Nat) (acc : List T) (t : T) (j h : Nat), pattE p ic nl dp deep n i g acc = .ok t j h → ∃ l, l ≠ [] ∧ t = T.alt (acc ++ l) ∧ BrL D h g l
 | 0, i, g, acc, t, j, h, e => by cases e
 | n + 1, i, g, acc, t, j, h, e => by
  rw [pattE] at e
  cases hb : branchE p ic nl dp deep (p.size + 1) i g [] with
  | bad c pl => rw [hb] at e; cases e
  | ok u k r =>
   rw [hb] at e
   simp only at e
   obtain ⟨s, h1, h2⟩ := branch_is hD _ _ _ _ _ _ _ hb
   split at e
   ·obtain ⟨l, h3, h4, h5⟩ := patt_is hD n _ _ _ t j h e
    exact ⟨u :: l, by simp, by rw [h4, List.append_assoc]; rfl, r, s, h1, h2, h5⟩
   ·injection e with e1 e2 e3
    subst e3
    exact ⟨[u], by simp, e1.symm, r, s, h1, h2, rfl⟩
theorem deep_is : ∀ (k : Nat) (dep : Bool) (i g : Nat) (t : T) (j h : Nat), deepE p ic nl k dep i g = .ok t j h → PaD k g h t
 | 0, dep, i, g, t, j, h, e => by
  rw [deepE] at e
  obtain ⟨l, h1, h2, h3⟩ := patt_is (D := fun _ _ _ => False) (fun f hf => by cases hf) _ _ _ _ _ _ _ e
  exact ⟨l, h1, h3, h2⟩
 | k + 1, dep, i, g, t, j, h, e => by
  rw [deepE] at e
  obtain ⟨l, h1, h2, h3⟩ := patt_is (D := PaD k) (fun f hf i g t j h e => by injection hf with hf; subst hf; exact deep_is k true i g t j h e) _ _ _ _ _ _ _ e
  exact ⟨l, h1, h3, h2⟩
end

/-! ### Tidy, and how deep -/
section
variable {D : Nat → Nat → T → Prop} {B : Int}
def TdD (D : Nat → Nat → T → Prop) (B : Int) : Prop := ∀ g g' t, D g g' t → t.tidyN (g : Int) = some (g' : Int) ∧ t.nest + 1 ≤ B
theorem nest_leaf (h : Hd) (hk : h.kind ≠ 7) : (T.mk h []).nest = 0 := by
 rw [T.nest, TL.nest, if_neg hk]; rfl
theorem mx2_lim {a b c : Int} (h : a ≤ c) (k : b ≤ c) : mx2 a b ≤ c := by unfold mx2; split <;> assumption
theorem atp_tidy (hB : 0 ≤ B) (hD : TdD D B) {g g' : Nat} {t : T} (h : AtP D g g' t) : t.tidyN (g : Int) = some (g' : Int) ∧ t.nest ≤ B ∧ (t.hd.kind = 2 ∨ t.hd.kind = 7) := by
 rcases h with ⟨S, rfl, rfl⟩ | ⟨u, rfl, hu⟩
 ·refine ⟨?_, by rw [show (bytT S).nest = 0 from nest_leaf _ (by show (2 : Int) ≠ 7; decide)]; exact hB, .inl rfl⟩
  unfold bytT
  rw [T.tidyN, if_neg (by rintro ⟨e, _⟩; cases e), if_neg (by rintro ⟨e, _⟩; cases e)]
  rfl
 ·obtain ⟨h1, h2⟩ := hD _ _ _ hu
  have hg : ((g + 1 : Nat) : Int) = (g : Int) + 1 := by omega
  refine ⟨?_, ?_, .inr rfl⟩
  ·unfold grpT
   rw [T.tidyN, if_neg (by rintro ⟨e, _⟩; cases e), if_neg (by rintro ⟨_, e⟩; exact e hg), if_pos rfl, TL.tidyN, if_neg (by simp [fitsK]), ← hg, h1]
   rfl
  ·unfold grpT
   rw [T.nest, TL.nest, TL.nest, if_pos rfl]
   have : mx2 0 u.nest ≤ B - 1 := mx2_lim (by have := (u.nest_bd).1; omega) (by omega)
   omega
theorem pip_tidy (hB : 0 ≤ B) (hD : TdD D B) {g g' : Nat} {t : T} (h : PiP D g g' t) : t.tidyN (g : Int) = some (g' : Int) ∧ t.nest ≤ B ∧ t.hd.kind ≠ 1 ∧ t.hd.kind ≠ 5 ∧ t.hd.kind ≠ 6 := by
 rcases h with ⟨rfl, rfl⟩ | ⟨rfl, rfl⟩ | h | ⟨a, b, u, rfl, h, h1, h2, h3⟩
 ·exact ⟨rfl, by rw [show begT.nest = 0 from rfl]; exact hB, by decide, by decide, by decide⟩
 ·exact ⟨rfl, by rw [show endT.nest = 0 from rfl]; exact hB, by decide, by decide, by decide⟩
 ·obtain ⟨h1, h2, h3⟩ := atp_tidy hB hD h
  exact ⟨h1, h2, by omega, by omega, by omega⟩
 ·obtain ⟨k1, k2, k3⟩ := atp_tidy hB hD h
  refine ⟨?_, ?_, (show (8 : Int) ≠ 1 by decide), (show (8 : Int) ≠ 5 by decide), (show (8 : Int) ≠ 6 by decide)⟩
  ·unfold repT
   have hf : fitsK 8 u.hd.kind = true := by
    rcases k3 with e | e <;> rw [e] <;> rfl
   rw [T.tidyN, if_neg (by rintro ⟨_, e⟩; cases e), if_neg (by rintro ⟨e, _⟩; cases e), if_neg (by intro e; cases e), TL.tidyN, hf, if_neg (by decide), k1]
   rfl
  ·unfold repT
   rw [T.nest, TL.nest, TL.nest, if_neg (by intro e; cases e)]
   have := mx2_lim (a := 0) hB k2
   omega
theorem pil_tidy (hB : 0 ≤ B) (hD : TdD D B) {g' : Nat} : ∀ (l : List T) (g : Nat) (n : Int), PiL D g' g l → n ≤ B → TL.tidyN 5 l (g : Int) = some (g' : Int) ∧ TL.nest l n ≤ B
 | [], g, n, h, hn => by
  have h : g' = g := h
  subst h
  exact ⟨rfl, hn⟩
 | t :: l, g, n, ⟨g1, h1, h2⟩, hn => by
  obtain ⟨k1, k2, k3, k4, k5⟩ := pip_tidy hB hD h1
  obtain ⟨r1, r2⟩ := pil_tidy hB hD l g1 (mx2 n t.nest) h2 (mx2_lim hn k2)
  refine ⟨?_, r2⟩
  have hf : fitsK 5 t.hd.kind = true := by simp [fitsK, k3, k4, k5]
  rw [TL.tidyN, hf, if_neg (by decide), k1]
  exact r1
theorem seq_tidy (hB : 0 ≤ B) (hD : TdD D B) {g g' : Nat} {l : List T} (h : PiL D g' g l) : (T.seq l).tidyN (g : Int) = some (g' : Int) ∧ (T.seq l).nest ≤ B ∧ (T.seq l).hd.kind ≠ 6 := by
 match l, h with
 | [], h =>
  have h : g' = g := h
  subst h
  exact ⟨rfl, hB, (show (1 : Int) ≠ 6 by decide)⟩
 | [t], ⟨g1, h1, h2⟩ =>
  have h2 : g' = g1 := h2
  subst h2
  obtain ⟨k1, k2, k3, k4, k5⟩ := pip_tidy hB hD h1
  exact ⟨k1, k2, k5⟩
 | a :: b :: r, h =>
  obtain ⟨r1, r2⟩ := pil_tidy hB hD _ g 0 h hB
  show (T.mk ⟨5, 0, 0, 0, 0, 0, 0, 0, false⟩ (a :: b :: r)).tidyN _ = _ ∧ (T.mk ⟨5, 0, 0, 0, 0, 0, 0, 0, false⟩ (a :: b :: r)).nest ≤ B ∧ _
  refine ⟨?_, ?_, (show (5 : Int) ≠ 6 by decide)⟩
  ·rw [T.tidyN, if_neg (by rintro ⟨e, _⟩; cases e), if_neg (by rintro ⟨e, _⟩; cases e), if_neg (by decide)]
   exact r1
  ·rw [T.nest, if_neg (by decide)]
   omega
theorem brl_tidy (hB : 0 ≤ B) (hD : TdD D B) {g' : Nat} : ∀ (l : List T) (g : Nat) (n : Int), BrL D g' g l → n ≤ B → TL.tidyN 6 l (g : Int) = some (g' : Int) ∧ TL.nest l n ≤ B
 | [], g, n, h, hn => by
  have h : g' = g := h
  subst h
  exact ⟨rfl, hn⟩
 | t :: l, g, n, ⟨g1, s, e, h1, h2⟩, hn => by
  subst e
  obtain ⟨k1, k2, k3⟩ := seq_tidy hB hD h1
  obtain ⟨r1, r2⟩ := brl_tidy hB hD l g1 (mx2 n (T.seq s).nest) h2 (mx2_lim hn k2)
  refine ⟨?_, r2⟩
  have hf : fitsK 6 (T.seq s).hd.kind = true := by simp [fitsK, k3]
  rw [TL.tidyN, hf, if_neg (by decide), k1]
  exact r1
theorem pap_tidy (hB : 0 ≤ B) (hD : TdD D B) {g g' : Nat} {t : T} (h : PaP D g g' t) : t.tidyN (g : Int) = some (g' : Int) ∧ t.nest ≤ B := by
 obtain ⟨l, hl, h1, rfl⟩ := h
 match l, hl, h1 with
 | [t], _, ⟨g1, s, e, h1, h2⟩ =>
  have h2 : g' = g1 := h2
  subst h2 e
  obtain ⟨k1, k2, k3⟩ := seq_tidy hB hD h1
  exact ⟨k1, k2⟩
 | a :: b :: r, _, h =>
  obtain ⟨r1, r2⟩ := brl_tidy hB hD _ g 0 h hB
  show (T.mk ⟨6, 0, 0, 0, 0, 0, 0, 0, false⟩ (a :: b :: r)).tidyN _ = _ ∧ (T.mk ⟨6, 0, 0, 0, 0, 0, 0, 0, false⟩ (a :: b :: r)).nest ≤ B
  refine ⟨?_, ?_⟩
  ·rw [T.tidyN, if_neg (by rintro ⟨e, _⟩; cases e), if_neg (by rintro ⟨e, _⟩; cases e), if_neg (by decide)]
   exact r1
  ·rw [T.nest, if_neg (by decide)]
   omega
end
theorem pad_tidy : ∀ (k g g' : Nat) (t : T), PaD k g g' t → t.tidyN (g : Int) = some (g' : Int) ∧ t.nest ≤ (k : Int)
 | 0, g, g', t, h => pap_tidy (D := fun _ _ _ => False) (by omega) (fun _ _ _ h => h.elim) h
 | k + 1, g, g', t, h => pap_tidy (D := PaD k) (B := ((k + 1 : Nat) : Int)) (by omega) (fun g g' t h => by have := pad_tidy k g g' t h; exact ⟨this.1, by omega⟩) h

/-! ### The text, read again -/
/-- The bytes of trees one behind the other. -/
def catL : List T → List UInt8
 | [] => []
 | t :: l => t.txt.data.toList ++ catL l
/-- With bars between. -/
def barL : List T → List UInt8
 | [] => []
 | t :: l => 124 :: (t.txt.data.toList ++ barL l)
theorem txt2_cat : ∀ l : List T, (TL.txt2 false l).data.toList = catL l
 | [] => rfl
 | t :: l => by
  rw [TL.txt2, app_toList, app_toList, txt2_cat l]
  rfl
theorem txt2_bar : ∀ l : List T, (TL.txt2 true l).data.toList = barL l
 | [] => rfl
 | t :: l => by
  rw [TL.txt2, app_toList, app_toList, txt2_bar l]
  rfl
theorem txt_cat (l : List T) : (TL.txt false l).data.toList = catL l := by
 cases l with
 | nil => rfl
 | cons t l => rw [TL.txt, app_toList, txt2_cat]; rfl
theorem txt_bar (t : T) (l : List T) : (TL.txt true (t :: l)).data.toList = t.txt.data.toList ++ barL l := by
 rw [TL.txt, app_toList, txt2_bar]
theorem byt_txt (S : Nat → Bool) : (bytT S).txt = setP (fun b => (bytT S).hd.has b) := by
 unfold bytT
 rw [T.txt, if_neg (by intro e; cases e), if_neg (by intro e; cases e), if_pos rfl]
 rfl
theorem bytT_has (S : Nat → Bool) (y : Nat) (hy : y < 256) : (bytT S).hd.has y = S y := by
 unfold Hd.has
 have hb : ∀ k, k < 4 → ((bytT S).hd.word k).toNat = wd S k := fun k hk => by
  have : k = 0 ∨ k = 1 ∨ k = 2 ∨ k = 3 := by omega
  rcases this with e | e | e | e <;> subst e <;> rfl
 rw [hb (y / 64) (by omega), wd_bit _ _ _ (Nat.mod_lt _ (by decide)), show 64 * (y / 64) + y % 64 = y by omega]
theorem seq_txt (l : List T) : (T.seq l).txt.data.toList = catL l := by
 match l with
 | [] => rfl
 | [t] => exact (List.append_nil _).symm
 | a :: b :: r =>
  show (T.mk ⟨5, 0, 0, 0, 0, 0, 0, 0, false⟩ (a :: b :: r)).txt.data.toList = _
  rw [T.txt, if_neg (by intro e; cases e), if_neg (by intro e; cases e), if_neg (by intro e; cases e), if_neg (by intro e; cases e), if_neg (by intro e; cases e)]
  exact txt_cat _
theorem alt_txt (t : T) (l : List T) : (T.alt (t :: l)).txt.data.toList = t.txt.data.toList ++ barL l := by
 match l with
 | [] => exact (List.append_nil _).symm
 | b :: r =>
  show (T.mk ⟨6, 0, 0, 0, 0, 0, 0, 0, false⟩ (t :: b :: r)).txt.data.toList = _
  rw [T.txt, if_neg (by intro e; cases e), if_neg (by intro e; cases e), if_neg (by intro e; cases e), if_neg (by intro e; cases e), if_neg (by intro e; cases e)]
  exact txt_bar _ _
theorem grp_txt (n : Int) (t : T) : (grpT n t).txt.data.toList = 40 :: (t.txt.data.toList ++ [41]) := by
 unfold grpT
 rw [T.txt, if_neg (by intro e; cases e), if_neg (by intro e; cases e), if_neg (by intro e; cases e), if_pos rfl, app_toList, app_toList, txt_cat, catL, catL, List.append_nil]
 rfl
theorem rep_txt (a b : Int) (t : T) : (repT a b t).txt.data.toList = t.txt.data.toList ++ (repP a b).data.toList := by
 unfold repT
 rw [T.txt, if_neg (by intro e; cases e), if_neg (by intro e; cases e), if_neg (by intro e; cases e), if_neg (by intro e; cases e), if_pos rfl, app_toList, txt_cat, catL, catL, List.append_nil]

/-! ### Counts -/
theorem pbs_list {x : ByteArray} {o : Nat} {L R : List UInt8} (h : x.data.toList.drop o = L ++ R) {k : Nat} (hk : k < L.length) : o + k < x.size ∧ pb x (o + k) = (L[k]'hk).toNat := by
 have h1 : x.data.toList.drop (o + k) = L[k]'hk :: (L.drop (k + 1) ++ R) := by
  rw [← List.drop_drop, h, List.drop_append_of_le_length (by omega), List.drop_eq_getElem_cons hk]
  rfl
 have := drop_by h1
 exact ⟨this.1, this.2.1⟩
theorem find_list {x : ByteArray} {o c : Nat} {L R : List UInt8} (hc : c < 256) (h : x.data.toList.drop o = L ++ c.toUInt8 :: R) (hL : ∀ u ∈ L, u.toNat ≠ c) : findB x c o = o + L.length := by
 have h1 : x.data.toList.drop (o + L.length) = c.toUInt8 :: R := by rw [← List.drop_drop, h, List.drop_left]
 obtain ⟨p1, p2, p3⟩ := drop_by h1
 refine findB_eq (by omega) (by omega) (fun _ => by rw [p2, u8n hc]) fun k hk1 hk2 => ?_
 have := (pbs_list h (k := k - o) (by omega)).2
 rw [show o + (k - o) = k by omega] at this
 rw [this]
 exact hL _ (List.getElem_mem _)
theorem find_no {s : ByteArray} {c : Nat} {L : List UInt8} (h : s.data.toList = L) (hL : ∀ u ∈ L, u.toNat ≠ c) : findB s c 0 = s.size := by
 have hs : s.size = L.length := by rw [← h, data_len]
 refine findB_eq (Nat.zero_le _) (Nat.le_refl _) (fun h => absurd h (Nat.lt_irrefl _)) fun k hk1 hk2 => ?_
 have := (pbs_list (x := s) (o := 0) (L := L) (R := []) (by rw [List.drop_zero, List.append_nil, h]) (k := k) (by omega)).2
 rw [Nat.zero_add] at this
 rw [this]
 exact hL _ (List.getElem_mem _)
theorem dig (a : Nat) (h : a ≤ 9) : (UInt8.ofNat (48 + a)).toNat = 48 + a := by rw [UInt8.toNat_ofNat']; omega
theorem dec3 (n : Nat) (h : n ≤ 255) : Lib.decDigits n = if n < 10 then [UInt8.ofNat (48 + n)] else if n < 100 then [UInt8.ofNat (48 + n / 10), UInt8.ofNat (48 + n % 10)] else [UInt8.ofNat (48 + n / 100), UInt8.ofNat (48 + n / 10 % 10), UInt8.ofNat (48 + n % 10)] := by
 rw [Lib.decDigits]
 by_cases c1 : n < 10
 ·rw [dif_pos c1, if_pos c1]
 ·rw [dif_neg c1, if_neg c1, Lib.decDigits]
  by_cases c2 : n < 100
  ·rw [dif_pos (by omega), if_pos c2]; rfl
  ·rw [dif_neg (by omega), if_neg c2, Lib.decDigits, dif_pos (by omega), show n / 10 / 10 = n / 100 by omega]; rfl
theorem dec_dig (n : Nat) (h : n ≤ 255) : ∀ u ∈ Lib.decDigits n, 48 ≤ u.toNat ∧ u.toNat ≤ 57 := by
 rw [dec3 n h]
 have h1 := fun a (ha : a ≤ 9) => dig a ha
 intro u hu
 split at hu
 ·rw [List.mem_singleton.1 hu, h1 _ (by omega)]; omega
 split at hu
 ·rcases List.mem_cons.1 hu with rfl | hu
  ·rw [h1 _ (by omega)]; omega
  ·rw [List.mem_singleton.1 hu, h1 _ (by omega)]; omega
 ·rcases List.mem_cons.1 hu with rfl | hu
  ·rw [h1 _ (by omega)]; omega
  rcases List.mem_cons.1 hu with rfl | hu
  ·rw [h1 _ (by omega)]; omega
  ·rw [List.mem_singleton.1 hu, h1 _ (by omega)]; omega
theorem numP_dec {s : ByteArray} {n : Nat} (h : s.data.toList = Lib.decDigits n) (hn : n ≤ 255) : numP s = some n := by
 rw [dec3 n hn] at h
 have hb : ∀ (L : List UInt8), s.data.toList = L → s.size = L.length ∧ ∀ k (hk : k < L.length), pb s k = (L[k]'hk).toNat := fun L hL => by
  refine ⟨by rw [← hL, data_len], fun k hk => ?_⟩
  have := (pbs_list (x := s) (o := 0) (L := L) (R := []) (by rw [List.drop_zero, List.append_nil, hL]) hk).2
  rwa [Nat.zero_add] at this
 unfold numP
 by_cases c1 : n < 10
 ·rw [if_pos c1] at h
  obtain ⟨h1, h2⟩ := hb _ h
  have p0 : pb s 0 = 48 + n := (h2 0 (by simp)).trans (dig n (by omega))
  have hs : s.size = 1 := h1
  rw [hs, if_neg (by omega), numF, p0, if_pos (by omega), numF]
  simp only
  rw [if_pos (by omega)]
  congr 1
  omega
 rw [if_neg c1] at h
 by_cases c2 : n < 100
 ·rw [if_pos c2] at h
  obtain ⟨h1, h2⟩ := hb _ h
  have p0 : pb s 0 = 48 + n / 10 := (h2 0 (by simp)).trans (dig _ (by omega))
  have p1 : pb s (0 + 1) = 48 + n % 10 := (h2 1 (by simp)).trans (dig _ (by omega))
  have hs : s.size = 2 := h1
  rw [hs, if_neg (by omega), numF, p0, if_pos (by omega), numF, p1, if_pos (by omega), numF]
  simp only
  rw [if_pos (by omega)]
  congr 1
  omega
 ·rw [if_neg c2] at h
  obtain ⟨h1, h2⟩ := hb _ h
  have p0 : pb s 0 = 48 + n / 100 := (h2 0 (by simp)).trans (dig _ (by omega))
  have p1 : pb s (0 + 1) = 48 + n / 10 % 10 := (h2 1 (by simp)).trans (dig _ (by omega))
  have p2 : pb s (0 + 1 + 1) = 48 + n % 10 := (h2 2 (by simp)).trans (dig _ (by omega))
  have hs : s.size = 3 := h1
  rw [hs, if_neg (by omega), numF, p0, if_pos (by omega), numF, p1, if_pos (by omega), numF, p2, if_pos (by omega), numF]
  simp only
  rw [if_pos (by omega)]
  congr 1
  omega
theorem counts_one {s : ByteArray} {a : Nat} (ha : a ≤ 255) (h : s.data.toList = Lib.decDigits a) : countsP s = some (a, (a : Int)) := by
 unfold countsP
 rw [if_pos (find_no h fun u hu => by have := dec_dig a ha u hu; omega), numP_dec h ha]
theorem counts_comma {s : ByteArray} {a : Nat} {L : List UInt8} (ha : a ≤ 255) (h : s.data.toList = Lib.decDigits a ++ 44 :: L) : findB s 44 0 = (Lib.decDigits a).length ∧ s.size = (Lib.decDigits a).length + 1 + L.length ∧ numP (s.extract 0 (Lib.decDigits a).length) = some a ∧ (s.extract ((Lib.decDigits a).length + 1) s.size).data.toList = L := by
 have h1 := find_list (x := s) (o := 0) (c := 44) (L := Lib.decDigits a) (R := L) (by decide) (by rw [List.drop_zero]; exact h) (fun u hu => by have := dec_dig a ha u hu; omega)
 have h2 : s.size = (Lib.decDigits a).length + 1 + L.length := by rw [← data_len, h, List.length_append, List.length_cons]; omega
 refine ⟨by omega, h2, numP_dec ?_ ha, ?_⟩
 ·rw [extract_list, h, List.drop_zero, Nat.sub_zero, List.take_left]
 ·rw [extract_list, h, ← List.drop_drop, List.drop_left, h2]
  exact List.take_of_length_le (by simp)
theorem counts_more {s : ByteArray} {a : Nat} (ha : a ≤ 255) (h : s.data.toList = Lib.decDigits a ++ [44]) : countsP s = some (a, -1) := by
 obtain ⟨h1, h2, h3, h4⟩ := counts_comma ha h
 have h2 : s.size = (Lib.decDigits a).length + 1 := h2
 unfold countsP
 rw [h1, if_neg (by omega), h3]
 simp only
 rw [if_pos (by omega)]
theorem counts_two {s : ByteArray} {a b : Nat} (ha : a ≤ b) (hb : b ≤ 255) (h : s.data.toList = Lib.decDigits a ++ 44 :: Lib.decDigits b) : countsP s = some (a, (b : Int)) := by
 obtain ⟨h1, h2, h3, h4⟩ := counts_comma (by omega) h
 have hl : 0 < (Lib.decDigits b).length := by
  rw [dec3 b hb]; split
  ·simp
  ·split <;> simp
 unfold countsP
 rw [h1, if_neg (by omega), h3]
 simp only
 rw [if_neg (by omega), numP_dec h4 hb]
 simp only
 rw [if_pos ha]
theorem brace_back {x : ByteArray} {j : Nat} {L R : List UInt8} {a : Nat} {b : Int} (hd : x.data.toList.drop j = 123 :: (L ++ 125 :: R)) (hL : ∀ u ∈ L, u.toNat ≠ 125) (hc : ∀ s : ByteArray, s.data.toList = L → countsP s = some (a, b)) : repE x j = .yes a b (j + (L.length + 2)) ∧ x.data.toList.drop (j + (L.length + 2)) = R := by
 obtain ⟨p1, p2, p3⟩ := drop_by hd
 have p2 : pb x j = 123 := p2
 have hf1 := find_list (x := x) (o := j + 1) (c := 125) (L := L) (R := R) (by decide) p3 hL
 have hf : findB x 125 j = j + 1 + L.length := by
  rw [← hf1]
  obtain ⟨q1, q2, q3, q4⟩ := findB_spec x 125 (j + 1) (by omega)
  exact findB_eq (by omega) q2 q3 fun k hk1 hk2 => by
   by_cases e : k = j
   ·rw [e, p2]; decide
   ·exact q4 k (by omega) hk2
 have hd4 : x.data.toList.drop (j + 1 + L.length) = 125 :: R := by rw [← List.drop_drop, p3, List.drop_left]
 obtain ⟨r1, r2, r3⟩ := drop_by hd4
 have he : (x.extract (j + 1) (j + 1 + L.length)).data.toList = L := by
  rw [extract_list, p3, show j + 1 + L.length - (j + 1) = L.length by omega, List.take_left]
 unfold repE
 rw [p2, if_neg (by decide), if_neg (by decide), if_neg (by decide), if_pos rfl, hf, if_neg (by omega), hc _ he]
 refine ⟨?_, ?_⟩
 ·show RR.yes a b (j + 1 + L.length + 1) = _
  rw [show j + 1 + L.length + 1 = j + (L.length + 2) by omega]
 ·rw [show j + (L.length + 2) = j + 1 + L.length + 1 by omega]
  exact r3
theorem repE_back {x : ByteArray} {j a : Nat} {b : Int} {R : List UInt8} (ha : a ≤ 255) (hb : b = -1 ∨ ((a : Int) ≤ b ∧ b ≤ 255)) (hd : x.data.toList.drop j = (repP (a : Int) b).data.toList ++ R) : repE x j = .yes a b (j + (repP (a : Int) b).data.toList.length) ∧ x.data.toList.drop (j + (repP (a : Int) b).data.toList.length) = R := by
 have hdig := dec_dig a ha
 have h0 : ∀ (u : UInt8), (48 ≤ u.toNat ∧ u.toNat ≤ 57) → u.toNat ≠ 125 := fun u h => by omega
 unfold repP at hd ⊢
 rw [Int.toNat_natCast] at hd ⊢
 by_cases c1 : b = -1
 ·rw [if_pos c1] at hd ⊢
  subst c1
  by_cases c2 : (a : Int) = 0
  ·rw [if_pos c2] at hd ⊢
   obtain rfl : a = 0 := by omega
   obtain ⟨p1, p2, p3⟩ := drop_by (b := 42) (r := R) hd
   have p2 : pb x j = 42 := p2
   refine ⟨?_, p3⟩
   unfold repE
   rw [if_pos p2]; rfl
  rw [if_neg c2] at hd ⊢
  by_cases c3 : (a : Int) = 1
  ·rw [if_pos c3] at hd ⊢
   obtain rfl : a = 1 := by omega
   obtain ⟨p1, p2, p3⟩ := drop_by (b := 43) (r := R) hd
   have p2 : pb x j = 43 := p2
   refine ⟨?_, p3⟩
   unfold repE
   rw [if_neg (by omega), if_pos p2]; rfl
  rw [if_neg c3] at hd ⊢
  have hl : (byS 123 ++ decP a ++ (⟨#[44, 125]⟩ : ByteArray)).data.toList = 123 :: (Lib.decDigits a ++ [44, 125]) := by rw [app_toList, app_toList, decP_toList]; rfl
  rw [hl] at hd ⊢
  have hd : x.data.toList.drop j = 123 :: ((Lib.decDigits a ++ [44]) ++ 125 :: R) := by rw [hd]; simp
  have := brace_back hd (fun u hu => by
   rcases List.mem_append.1 hu with hu | hu
   ·exact h0 u (hdig u hu)
   ·rw [List.mem_singleton.1 hu]; decide) (fun s hs => counts_more ha hs)
  rw [show (123 :: (Lib.decDigits a ++ [44, 125])).length = (Lib.decDigits a ++ [44]).length + 2 by simp]
  exact this
 rw [if_neg c1] at hd ⊢
 have hb2 := hb.resolve_left c1
 obtain ⟨n, rfl⟩ : ∃ n : Nat, b = (n : Int) := ⟨b.toNat, by omega⟩
 rw [Int.toNat_natCast] at hd ⊢
 by_cases c2 : (a : Int) = 0 ∧ (n : Int) = 1
 ·rw [if_pos c2] at hd ⊢
  obtain rfl : a = 0 := by omega
  obtain rfl : n = 1 := by omega
  obtain ⟨p1, p2, p3⟩ := drop_by (b := 63) (r := R) hd
  have p2 : pb x j = 63 := p2
  refine ⟨?_, p3⟩
  unfold repE
  rw [if_neg (by omega), if_neg (by omega), if_pos p2]; rfl
 rw [if_neg c2] at hd ⊢
 by_cases c3 : (a : Int) = (n : Int)
 ·rw [if_pos c3] at hd ⊢
  obtain rfl : a = n := by omega
  have hl : (byS 123 ++ decP a ++ byS 125).data.toList = 123 :: (Lib.decDigits a ++ [125]) := by rw [app_toList, app_toList, decP_toList]; rfl
  rw [hl] at hd ⊢
  have hd : x.data.toList.drop j = 123 :: (Lib.decDigits a ++ 125 :: R) := by rw [hd]; simp
  have := brace_back hd (fun u hu => h0 u (hdig u hu)) (fun s hs => counts_one ha hs)
  rw [show (123 :: (Lib.decDigits a ++ [125])).length = (Lib.decDigits a).length + 2 by simp]
  exact this
 rw [if_neg c3] at hd ⊢
 have hl : (byS 123 ++ decP a ++ byS 44 ++ decP n ++ byS 125).data.toList = 123 :: ((Lib.decDigits a ++ 44 :: Lib.decDigits n) ++ [125]) := by rw [app_toList, app_toList, app_toList, app_toList, decP_toList, decP_toList]; simp [byS_toList]
 rw [hl] at hd ⊢
 have hd : x.data.toList.drop j = 123 :: ((Lib.decDigits a ++ 44 :: Lib.decDigits n) ++ 125 :: R) := by rw [hd]; simp
 have hdn := dec_dig n (by omega)
 have := brace_back hd (fun u hu => by
  rcases List.mem_append.1 hu with hu | hu
  ·exact h0 u (hdig u hu)
  ·rcases List.mem_cons.1 hu with rfl | hu
   ·decide
   ·exact h0 u (hdn u hu)) (fun s hs => counts_two (by omega) (by omega) hs)
 rw [show (123 :: ((Lib.decDigits a ++ 44 :: Lib.decDigits n) ++ [125])).length = (Lib.decDigits a ++ 44 :: Lib.decDigits n).length + 2 by simp; omega]
 exact this

/-! ### Back -/
section
variable {x : ByteArray} {D : Nat → Nat → T → Prop} {dp : Option (Nat → Nat → PR)}
def DpB (x : ByteArray) (D : Nat → Nat → T → Prop) (dp : Option (Nat → Nat → PR)) : Prop := ∀ g g' t o R, D g g' t → x.data.toList.drop o = t.txt.data.toList ++ 41 :: R → ∃ f, dp = some f ∧ f o g = .ok t (o + t.txt.data.toList.length) g'
theorem atp_back (H : DpB x D dp) {g g' o : Nat} {t : T} {R : List UInt8} (h : AtP D g g' t) (hd : x.data.toList.drop o = t.txt.data.toList ++ R) :
  o < x.size ∧ headS (pb x o) ∧ atomE x false false dp o g = .ok t (o + t.txt.data.toList.length) g' ∧ x.data.toList.drop (o + t.txt.data.toList.length) = R := by
 rcases h with ⟨S, rfl, rfl⟩ | ⟨u, rfl, hu⟩
 ·rw [byt_txt] at hd ⊢
  obtain ⟨h1, h2, h3, h4⟩ := read_setP (g := g') dp hd
  rw [bytT_cg (S := fun b => (bytT S).hd.has b) (S' := S) (fun y hy => bytT_has S y hy)] at h3
  exact ⟨h1, h2, h3, h4⟩
 ·rw [grp_txt] at hd ⊢
  have hd : x.data.toList.drop o = 40 :: (u.txt.data.toList ++ 41 :: R) := by rw [hd]; simp
  obtain ⟨p1, p2, p3⟩ := drop_by hd
  have p2 : pb x o = 40 := p2
  obtain ⟨f, hf1, hf2⟩ := H _ _ _ _ _ hu p3
  have hd4 : x.data.toList.drop (o + 1 + u.txt.data.toList.length) = 41 :: R := by rw [← List.drop_drop, p3, List.drop_left]
  obtain ⟨r1, r2, r3⟩ := drop_by hd4
  have hl : o + (40 :: (u.txt.data.toList ++ [41])).length = o + 1 + u.txt.data.toList.length + 1 := by simp; omega
  rw [hl]
  refine ⟨p1, by unfold headS; omega, ?_, r3⟩
  unfold atomE
  rw [p2, if_neg (by decide), if_neg (by decide), if_pos rfl, hf1]
  unfold groupP
  simp only [hf2]
  rw [if_pos r1]
theorem pip_len {g g' : Nat} {t : T} (h : PiP D g g' t) : 0 < t.txt.data.toList.length := by
 have ha : ∀ {u : T} {g g' : Nat}, AtP D g g' u → 0 < u.txt.data.toList.length := fun {u g g'} h => by
  rcases h with ⟨S, rfl, rfl⟩ | ⟨v, rfl, hv⟩
  ·rw [byt_txt, data_len]
   exact (read_setP (x := setP fun b => (bytT S).hd.has b) (o := 0) (g := 0) (R := []) none (by rw [List.drop_zero, List.append_nil])).1
  ·rw [grp_txt]; simp
 rcases h with ⟨rfl, rfl⟩ | ⟨rfl, rfl⟩ | h | ⟨a, b, u, rfl, h, _⟩
 ·exact (by decide : 0 < 1)
 ·exact (by decide : 0 < 1)
 ·exact ha h
 ·have := ha h
  rw [rep_txt, List.length_append]
  omega
/-- What a piece begins with. -/
def headP (c : Nat) : Prop := c ≠ 42 ∧ c ≠ 43 ∧ c ≠ 63 ∧ c ≠ 123 ∧ c ≠ 124 ∧ c ≠ 41
theorem rep_head {t : T} {a : Nat} {b : Int} {R : List UInt8} {o : Nat} (hd : x.data.toList.drop o = (repT (a : Int) b t).txt.data.toList ++ R) : x.data.toList.drop o = t.txt.data.toList ++ ((repP (a : Int) b).data.toList ++ R) := by
 rw [rep_txt, List.append_assoc] at hd
 exact hd
theorem pip_head (H : DpB x D dp) {g g' o : Nat} {t : T} {R : List UInt8} (h : PiP D g g' t) (hd : x.data.toList.drop o = t.txt.data.toList ++ R) : o < x.size ∧ headP (pb x o) := by
 rcases h with ⟨rfl, rfl⟩ | ⟨rfl, rfl⟩ | h | ⟨a, b, u, rfl, h, _⟩
 ·obtain ⟨p1, p2, p3⟩ := drop_by (b := 94) (r := R) hd
  have p2 : pb x o = 94 := p2
  exact ⟨p1, by unfold headP; omega⟩
 ·obtain ⟨p1, p2, p3⟩ := drop_by (b := 36) (r := R) hd
  have p2 : pb x o = 36 := p2
  exact ⟨p1, by unfold headP; omega⟩
 ·obtain ⟨h1, h2, _⟩ := atp_back H h hd
  exact ⟨h1, by unfold headS at h2; unfold headP; omega⟩
 ·obtain ⟨h1, h2, _⟩ := atp_back H h (rep_head hd)
  exact ⟨h1, by unfold headS at h2; unfold headP; omega⟩
def Nrep (x : ByteArray) (e : Nat) : Prop := ¬ (pb x e = 42 ∨ pb x e = 43 ∨ pb x e = 63 ∨ pb x e = 123)
theorem pip_back (H : DpB x D dp) {g g' o : Nat} {t : T} {R : List UInt8} (h : PiP D g g' t) (hd : x.data.toList.drop o = t.txt.data.toList ++ R) (hn : Nrep x (o + t.txt.data.toList.length)) :
  pieceE x false false dp o g = .ok t (o + t.txt.data.toList.length) g' ∧ x.data.toList.drop (o + t.txt.data.toList.length) = R := by
 rcases h with ⟨rfl, rfl⟩ | ⟨rfl, rfl⟩ | h | ⟨a, b, u, rfl, h, h1, h2, h3⟩
 ·obtain ⟨p1, p2, p3⟩ := drop_by (b := 94) (r := R) hd
  have p2 : pb x o = 94 := p2
  refine ⟨?_, p3⟩
  unfold pieceE
  rw [if_pos p2]; rfl
 ·obtain ⟨p1, p2, p3⟩ := drop_by (b := 36) (r := R) hd
  have p2 : pb x o = 36 := p2
  refine ⟨?_, p3⟩
  unfold pieceE
  rw [if_neg (by omega), if_pos p2]; rfl
 ·obtain ⟨q1, q2, q3, q4⟩ := atp_back H h hd
  refine ⟨?_, q4⟩
  unfold headS at q2
  unfold pieceE
  rw [if_neg (by omega), if_neg (by omega), if_neg (by omega), q3]
  simp only [repE_run hn, withRep]
 ·have hd2 := rep_head hd
  obtain ⟨q1, q2, q3, q4⟩ := atp_back H h hd2
  obtain ⟨r1, r2⟩ := repE_back h1 h2 q4
  have hl : o + (repT (a : Int) b u).txt.data.toList.length = o + u.txt.data.toList.length + (repP (a : Int) b).data.toList.length := by rw [rep_txt, List.length_append]; omega
  rw [hl]
  refine ⟨?_, r2⟩
  unfold headS at q2
  unfold pieceE
  rw [if_neg (by omega), if_neg (by omega), if_neg (by omega), q3]
  simp only [r1, withRep]
  rw [if_neg h3]
def Stop (x : ByteArray) (deep : Bool) (e : Nat) : Prop := ¬ e < x.size ∨ (pb x e = 41 ∧ deep = true)
theorem pil_back (H : DpB x D dp) (deep : Bool) {g' : Nat} {R : List UInt8} : ∀ (l : List T) (o g f : Nat) (acc : List T), PiL D g' g l → x.data.toList.drop o = catL l ++ R → (pb x (o + (catL l).length) = 124 ∨ Stop x deep (o + (catL l).length)) → x.size - o < f → o ≤ x.size →
  branchE x false false dp deep f o g acc = .ok (T.seq (acc ++ l)) (o + (catL l).length) g' ∧ x.data.toList.drop (o + (catL l).length) = R ∧ o + (catL l).length ≤ x.size
 | [], o, g, 0, acc, h, hd, hs, hf, ho => by omega
 | [], o, g, f + 1, acc, h, hd, hs, hf, ho => by
  have h : g' = g := h
  subst h
  have hs : pb x o = 124 ∨ Stop x deep o := hs
  refine ⟨?_, hd, ho⟩
  rw [branchE, List.append_nil]
  by_cases c1 : ¬ o < x.size ∨ pb x o = 124
  ·rw [if_pos c1]; rfl
  ·rw [if_neg c1]
   have h2 : pb x o = 41 ∧ deep = true := by
    rcases hs with hs | hs | hs
    ·exact absurd (.inr hs) c1
    ·exact absurd (.inl hs) c1
    ·exact hs
   rw [if_pos h2.1, if_pos h2.2]; rfl
 | t :: l, o, g, 0, acc, h, hd, hs, hf, ho => by omega
 | t :: l, o, g, f + 1, acc, ⟨g1, h1, h2⟩, hd, hs, hf, ho => by
  have hc : catL (t :: l) = t.txt.data.toList ++ catL l := rfl
  rw [hc, List.length_append, ← Nat.add_assoc] at hs ⊢
  rw [hc, List.append_assoc] at hd
  have hd2 : x.data.toList.drop (o + t.txt.data.toList.length) = catL l ++ R := by rw [← List.drop_drop, hd, List.drop_left]
  obtain ⟨p1, p2⟩ := pip_head H h1 hd
  have hn : Nrep x (o + t.txt.data.toList.length) := by
   unfold Nrep
   cases l with
   | nil =>
    have hs : pb x (o + t.txt.data.toList.length) = 124 ∨ Stop x deep (o + t.txt.data.toList.length) := hs
    rcases hs with hs | hs | hs
    ·omega
    ·rw [pb_none hs]; omega
    ·omega
   | cons t2 l2 =>
    obtain ⟨g2, k1, k2⟩ := h2
    have hc2 : catL (t2 :: l2) = t2.txt.data.toList ++ catL l2 := rfl
    rw [hc2, List.append_assoc] at hd2
    obtain ⟨q1, q2⟩ := pip_head H k1 hd2
    unfold headP at q2
    omega
  obtain ⟨q1, q2⟩ := pip_back H h1 hd hn
  unfold headP at p2
  have hlt : o < o + t.txt.data.toList.length ∧ o + t.txt.data.toList.length ≤ x.size := by
   have hfi := pip_len h1
   exact ⟨by omega, by
    have hl := congrArg List.length hd
    rw [List.length_drop, data_len, List.length_append] at hl
    omega⟩
  obtain ⟨r1, r2, r3⟩ := pil_back H deep l (o + t.txt.data.toList.length) g1 f (acc ++ [t]) h2 hd2 hs (by omega) (by omega)
  refine ⟨?_, r2, r3⟩
  rw [branchE, if_neg (by omega), if_neg (by omega), q1]
  simp only
  rw [r1, List.append_assoc]
  rfl
theorem brl_back (H : DpB x D dp) (deep : Bool) {g' : Nat} {R : List UInt8} : ∀ (l : List T) (t : T) (o g f : Nat) (acc : List T), BrL D g' g (t :: l) → x.data.toList.drop o = t.txt.data.toList ++ (barL l ++ R) → Stop x deep (o + (t.txt.data.toList ++ barL l).length) → x.size - o < f → o ≤ x.size →
  pattE x false false dp deep f o g acc = .ok (T.alt (acc ++ t :: l)) (o + (t.txt.data.toList ++ barL l).length) g'
 | l, t, o, g, 0, acc, h, hd, hs, hf, ho => by omega
 | l, t, o, g, f + 1, acc, ⟨g1, s, e, h1, h2⟩, hd, hs, hf, ho => by
  subst e
  rw [seq_txt] at hd hs ⊢
  have hd2 : x.data.toList.drop (o + (catL s).length) = barL l ++ R := by rw [← List.drop_drop, hd, List.drop_left]
  cases l with
  | nil =>
   have h2 : g' = g1 := h2
   subst h2
   have hs : Stop x deep (o + (catL s).length) := by simpa [barL] using hs
   obtain ⟨r1, r2, r3⟩ := pil_back H deep s o g (x.size + 1) [] h1 hd (.inr hs) (by omega) ho
   have hl : o + (catL s ++ barL []).length = o + (catL s).length := by simp [barL]
   rw [pattE, r1, hl]
   simp only
   rw [if_neg]
   ·rfl
   ·rcases hs with hs | hs
    ·rw [pb_none hs]; decide
    ·omega
  | cons t2 l2 =>
   have hb2 : barL (t2 :: l2) = 124 :: (t2.txt.data.toList ++ barL l2) := rfl
   rw [hb2] at hd2
   obtain ⟨p1, p2, p3⟩ := drop_by (b := 124) (r := (t2.txt.data.toList ++ barL l2) ++ R) hd2
   have p2 : pb x (o + (catL s).length) = 124 := p2
   rw [List.append_assoc] at p3
   have hl : o + (catL s ++ barL (t2 :: l2)).length = o + (catL s).length + 1 + (t2.txt.data.toList ++ barL l2).length := by rw [hb2, List.length_append, List.length_cons]; omega
   rw [hl] at hs ⊢
   obtain ⟨r1, r2, r3⟩ := pil_back H deep s o g (x.size + 1) [] h1 hd (.inl p2) (by omega) ho
   have := brl_back H deep l2 t2 (o + (catL s).length + 1) g1 f (acc ++ [T.seq s]) h2 p3 hs (by omega) (by omega)
   rw [pattE, r1]
   simp only
   rw [if_pos p2, List.nil_append, this, List.append_assoc]
   rfl
theorem pap_back (H : DpB x D dp) (deep : Bool) {g g' o : Nat} {t : T} {R : List UInt8} (h : PaP D g g' t) (hd : x.data.toList.drop o = t.txt.data.toList ++ R) (hs : Stop x deep (o + t.txt.data.toList.length)) (ho : o ≤ x.size) : pattE x false false dp deep (x.size + 1) o g [] = .ok t (o + t.txt.data.toList.length) g' := by
 obtain ⟨l, hl, h1, rfl⟩ := h
 cases l with
 | nil => exact absurd rfl hl
 | cons t l =>
  rw [alt_txt] at hd hs ⊢
  rw [List.append_assoc] at hd
  exact brl_back H deep l t o g (x.size + 1) [] h1 hd hs (by omega) ho
theorem pad_back : ∀ (k : Nat) (deep : Bool) (g g' o : Nat) (t : T) (R : List UInt8), PaD k g g' t → x.data.toList.drop o = t.txt.data.toList ++ R → Stop x deep (o + t.txt.data.toList.length) → o ≤ x.size → deepE x false false k deep o g = .ok t (o + t.txt.data.toList.length) g'
 | 0, deep, g, g', o, t, R, h, hd, hs, ho => by
  rw [deepE]
  exact pap_back (D := fun _ _ _ => False) (fun _ _ _ _ _ h => h.elim) deep h hd hs ho
 | k + 1, deep, g, g', o, t, R, h, hd, hs, ho => by
  rw [deepE]
  refine pap_back (D := PaD k) (fun g g' t o R h hd => ⟨_, rfl, ?_⟩) deep h hd hs ho
  have hd4 : x.data.toList.drop (o + t.txt.data.toList.length) = 41 :: R := by rw [← List.drop_drop, hd, List.drop_left]
  obtain ⟨r1, r2, r3⟩ := drop_by hd4
  have r2 : pb x (o + t.txt.data.toList.length) = 41 := r2
  exact pad_back k true g g' o t (41 :: R) h hd (.inr ⟨r2, rfl⟩) (by omega)
end
/-- The tree of a pattern is tidy, and its text is read as it. -/
theorem parse_back {p : ByteArray} {ic nl : Bool} {t : T} {j n : Nat} (h : parseE p ic nl = .ok t j n) : t.tidyN 0 = some (n : Int) ∧ t.nest ≤ 32 ∧ (t.txt.size ≤ 1024 → parseE t.txt false false = .ok t t.txt.size n) := by
 obtain ⟨h1, h2, h3, h4⟩ := parse_in h
 have h5 := deep_is 32 false 0 0 t p.size n h1
 obtain ⟨h6, h7⟩ := pad_tidy 32 0 n t h5
 refine ⟨h6, h7, fun hs => ?_⟩
 have hl : t.txt.data.toList.length = t.txt.size := data_len _
 have h8 := pad_back (x := t.txt) 32 false 0 n 0 t [] h5 (by rw [List.drop_zero, List.append_nil]) (.inl (by omega)) (Nat.zero_le _)
 rw [hl, Nat.zero_add] at h8
 unfold parseE
 rw [if_neg (by omega), h8]
 simp only [wholeP]
 rw [if_neg (by omega)]
end Go.Proofs.YtpkcklpjbeginaaGreatDoor
