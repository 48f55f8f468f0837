/- EscP6: What reading yields at a backslash, in plain Lean.
LetP7: Letters and digits are one tree in both kinds of patterns; marks of the extended ones are bytes of the basic ones, in plain Lean.
QuoteP8: A text quoted is read as that text, in both kinds of patterns, in plain Lean.
SetBack8: A set's text is read as that set, in plain Lean.
TxtBack8: The tree of any pattern is tidy, and read from its own text, in plain Lean. -/
import Derived.Test.YtpkcklpjbeginaaGreatDoorEreP
import Derived.Test.YtpkcklpjbeginaaGreatDoorSpellP
import Derived.Test.YtpkcklpjbeginaaGreatDoorRep8
import Derived.Test.YtpkcklpjbeginaaGreatDoorJoinP6
set_option linter.unusedSimpArgs false
set_option linter.unusedVariables false
set_option linter.unnecessarySimpa false

/-! ## EscP6 -/
namespace Go.Proofs.YtpkcklpjbeginaaGreatDoor
open Go.RowKit

/-- Which bytes are punct. -/
theorem punct_is : ∀ b : Fin 256, punct5 b.val = (decide (32 < b.val) && decide (b.val < 127) && !(decide (48 ≤ b.val) && decide (b.val ≤ 57)) && !(decide (65 ≤ b.val) && decide (b.val ≤ 90)) && !(decide (97 ≤ b.val) && decide (b.val ≤ 122))) := by
 unfold punct5 memb5
 rw [ByteArray.toList_eq]
 decide +kernel
end Go.Proofs.YtpkcklpjbeginaaGreatDoor

/-! ## LetP7 -/
namespace Go.Proofs.YtpkcklpjbeginaaGreatDoor
open Go.RowKit

theorem bytT_size (S : Nat → Bool) : (bytT S).size = 1 := by rfl
theorem lf_size : ∀ (l : List T) (n : Int), (∀ t ∈ l, ∃ S, t = bytT S) → 0 ≤ n → n + l.length ≤ 2001 → TL.size l n = n + l.length
 | [], n, h, h0, hn => by simp [TL.size]
 | t :: l, n, h, h0, hn => by
  obtain ⟨S, hS⟩ := h t (by simp)
  rw [List.length_cons] at hn ⊢
  have e : mn2 (n + t.size) 2001 = n + 1 := by
   rw [hS, bytT_size]
   unfold mn2
   split <;> omega
  rw [TL.size, e, lf_size l (n + 1) (fun u hu => h u (by simp [hu])) (by omega) (by omega)]
  omega
theorem seq_full {l : List T} (h : ∀ t ∈ l, ∃ S, t = bytT S) (hn : l.length ≤ 1500) : ¬ 2000 < (T.seq l).fullSize := by
 have h1 : (T.seq l).size ≤ 2000 := by
  match l, h, hn with
  | [], _, _ => exact (by decide : (T.seq ([] : List T)).size ≤ 2000)
  | [t], h, _ =>
   obtain ⟨S, hS⟩ := h t (by simp)
   rw [hS]
   show (bytT S).size ≤ 2000
   rw [bytT_size]
   omega
  | a :: b :: r, h, hn =>
   show T.size (.mk ⟨5, 0, 0, 0, 0, 0, 0, 0, false⟩ (a :: b :: r)) ≤ 2000
   rw [T.size, if_neg (by rintro ⟨e, _⟩; cases e), lf_size _ 0 h (by omega) (by omega)]
   have hg : Hd.grow ⟨5, 0, 0, 0, 0, 0, 0, 0, false⟩ (0 + ((a :: b :: r).length : Int)) = 0 + ((a :: b :: r).length : Int) + 1 := rfl
   rw [hg]
   unfold mn2
   split <;> omega
 unfold T.fullSize
 split <;> omega
section
variable {p : ByteArray} {ic nl : Bool}
theorem repE_run {j : Nat} (h : ¬ (pb p j = 42 ∨ pb p j = 43 ∨ pb p j = 63 ∨ pb p j = 123)) : repE p j = .no := by
 unfold repE
 rw [if_neg (fun e => h (.inl e)), if_neg (fun e => h (.inr (.inl e))), if_neg (fun e => h (.inr (.inr (.inl e)))), if_neg (fun e => h (.inr (.inr (.inr e))))]
theorem whole_run {l : List T} (h : ∀ t ∈ l, ∃ S, t = bytT S) (hn : l.length ≤ 1500) : wholeP p (.ok (T.seq l) p.size 0) = .ok (T.seq l) p.size 0 := by
 simp only [wholeP]
 rw [if_neg (seq_full h hn)]
/-- A mark of the extended patterns that the basic ones have not. -/
def mark (c : Nat) : Prop := c = 43 ∨ c = 63 ∨ c = 124 ∨ c = 40 ∨ c = 41 ∨ c = 123 ∨ c = 125
variable {x : ByteArray} {c : Nat}
end
end Go.Proofs.YtpkcklpjbeginaaGreatDoor

/-! ## QuoteP8 -/
namespace Go.Proofs.YtpkcklpjbeginaaGreatDoor
open Go.RowKit

/-- The marks of basic patterns. -/
def markB (b : Nat) : Bool := b == 46 || b == 91 || b == 42 || b == 94 || b == 36 || b == 92
/-- A text with a backslash ahead of each mark. -/
def quoteL (mk : Nat → Bool) : List UInt8 → List UInt8
 | [] => []
 | b :: r => (if mk b.toNat then [92, b] else [b]) ++ quoteL mk r
def quoteS (mk : Nat → Bool) (s : ByteArray) : ByteArray := ⟨(quoteL mk s.data.toList).toArray⟩
def byL (l : List UInt8) : List T := l.map fun b => bytT (oneS false b.toNat)
theorem quoteS_list (mk : Nat → Bool) (s : ByteArray) : (quoteS mk s).data.toList = quoteL mk s.data.toList := rfl
theorem quoteL_len (mk : Nat → Bool) : ∀ l : List UInt8, l.length ≤ (quoteL mk l).length ∧ (quoteL mk l).length ≤ 2 * l.length
 | [] => by simp [quoteL]
 | b :: r => by
  have := quoteL_len mk r
  rw [quoteL]
  split <;> simp <;> omega
theorem byL_lf (l : List UInt8) : ∀ t ∈ byL l, ∃ S, t = bytT S := fun t ht => by
 obtain ⟨b, _, rfl⟩ := List.mem_map.1 ht
 exact ⟨_, rfl⟩
theorem drop_by {x : ByteArray} {o : Nat} {b : UInt8} {r : List UInt8} (h : x.data.toList.drop o = b :: r) : o < x.size ∧ pb x o = b.toNat ∧ x.data.toList.drop (o + 1) = r := by
 have h0 : x.data.toList[o]? = some b := by
  have : (x.data.toList.drop o)[0]? = some b := by rw [h]; rfl
  rwa [List.getElem?_drop, Nat.add_zero] at this
 rw [data_at] at h0
 by_cases ho : o < x.size
 ·rw [if_pos ho] at h0
  refine ⟨ho, ?_, ?_⟩
  ·have := Option.some.inj h0
   rw [← this]
   have hl := pb_lt ho
   show pb x o = (UInt8.ofNat (pb x o)).toNat
   rw [UInt8.toNat_ofNat']
   omega
  ·rw [← List.drop_drop, h]; rfl
 ·rw [if_neg ho] at h0; cases h0
theorem drop_over {x : ByteArray} {o : Nat} (h : x.data.toList.drop o = []) : x.size ≤ o := by
 have := List.drop_eq_nil_iff.1 h
 rwa [data_len] at this
theorem markE_punct : ∀ b : Fin 256, markE b.val = true → punct5 b.val = true := by
 intro b h
 rw [punct_is]
 revert b
 decide +kernel
theorem markB_markE : ∀ b : Fin 256, markB b.val = true → markE b.val = true := by decide +kernel
theorem u8_fin (b : UInt8) : b.toNat < 256 := b.toNat_lt
theorem quote_head {mk : Nat → Bool} {r : List UInt8} {x : ByteArray} {o c : Nat} (h : x.data.toList.drop o = quoteL mk r) (hc : mk c = true) (h9 : c ≠ 92) (h256 : c ≠ 256) : pb x o ≠ c := by
 intro e
 cases r with
 | nil =>
  have := drop_over (h.trans rfl)
  rw [pb_none (by omega)] at e
  exact h256 e.symm
 | cons b r =>
  rw [quoteL] at h
  by_cases hb : mk b.toNat = true
  ·rw [if_pos hb] at h
   have := (drop_by (r := b :: quoteL mk r) h).2.1
   rw [this] at e
   exact h9 e.symm
  ·rw [if_neg hb] at h
   have := (drop_by (r := quoteL mk r) h).2.1
   rw [this] at e
   rw [e] at hb
   exact hb hc
section
variable {x : ByteArray} {nl : Bool}
theorem notE {b : Nat} (h : ¬ markE b = true) : b ≠ 46 ∧ b ≠ 91 ∧ b ≠ 40 ∧ b ≠ 41 ∧ b ≠ 42 ∧ b ≠ 43 ∧ b ≠ 63 ∧ b ≠ 123 ∧ b ≠ 124 ∧ b ≠ 94 ∧ b ≠ 36 ∧ b ≠ 92 := by
 refine ⟨?_, ?_, ?_, ?_, ?_, ?_, ?_, ?_, ?_, ?_, ?_, ?_⟩ <;> (rintro rfl; exact h rfl)
theorem notB {b : Nat} (h : ¬ markB b = true) : b ≠ 46 ∧ b ≠ 91 ∧ b ≠ 42 ∧ b ≠ 94 ∧ b ≠ 36 ∧ b ≠ 92 := by
 refine ⟨?_, ?_, ?_, ?_, ?_, ?_⟩ <;> (rintro rfl; exact h rfl)
theorem branch_quote (dp : Option (Nat → Nat → PR)) (deep : Bool) (g : Nat) : ∀ (l : List UInt8) (o f : Nat) (acc : List T), x.data.toList.drop o = quoteL markE l → o ≤ x.size → l.length < f → branchE x false nl dp deep f o g acc = .ok (T.seq (acc ++ byL l)) x.size g
 | [], o, f + 1, acc, h, ho, hf => by
  have := drop_over (h.trans rfl)
  rw [branchE, if_pos (.inl (by omega)), show o = x.size by omega]
  simp [byL]
 | b :: r, o, f + 1, acc, h, ho, hf => by
  rw [List.length_cons] at hf
  rw [quoteL] at h
  have hfin : ∀ o2, x.data.toList.drop o2 = quoteL markE r → o2 ≤ x.size → repE x o2 = .no ∧ branchE x false nl dp deep f o2 g (acc ++ [bytT (oneS false b.toNat)]) = .ok (T.seq (acc ++ byL (b :: r))) x.size g := fun o2 h2 ho2 => by
   refine ⟨repE_run ?_, ?_⟩
   ·rintro (e | e | e | e)
    ·exact quote_head h2 (by decide) (by decide) (by decide) e
    ·exact quote_head h2 (by decide) (by decide) (by decide) e
    ·exact quote_head h2 (by decide) (by decide) (by decide) e
    ·exact quote_head h2 (by decide) (by decide) (by decide) e
   ·rw [branch_quote dp deep g r o2 f _ h2 ho2 (by omega), List.append_assoc]
    rfl
  by_cases hb : markE b.toNat = true
  ·rw [if_pos hb] at h
   obtain ⟨h1, h2, h3⟩ := drop_by (r := b :: quoteL markE r) h
   obtain ⟨k1, k2, k3⟩ := drop_by h3
   have hpu := markE_punct ⟨b.toNat, u8_fin b⟩ hb
   have h2' : pb x o = 92 := h2
   have hat : atomE x false nl dp o g = .ok (bytT (oneS false b.toNat)) (o + 2) g := by
    unfold atomE
    rw [h2', k2, if_neg (by decide), if_neg (by decide), if_neg (by decide), if_pos rfl, if_pos ⟨k1, hpu⟩]
   obtain ⟨r1, r2⟩ := hfin (o + 2) k3 (by omega)
   rw [branchE, h2', if_neg (by omega), if_neg (by decide)]
   unfold pieceE
   rw [h2', if_neg (by decide), if_neg (by decide), if_neg (by decide), hat]
   simp only [r1, withRep]
   exact r2
  ·rw [if_neg hb] at h
   obtain ⟨h1, h2, h3⟩ := drop_by (r := quoteL markE r) h
   obtain ⟨n1, n2, n3, n4, n5, n6, n7, n8, n9, n10, n11, n12⟩ := notE hb
   have hat : atomE x false nl dp o g = .ok (bytT (oneS false b.toNat)) (o + 1) g := by
    unfold atomE
    rw [h2, if_neg n1, if_neg n2, if_neg n3, if_neg n12]
   obtain ⟨r1, r2⟩ := hfin (o + 1) h3 (by omega)
   rw [branchE, h2, if_neg (by omega), if_neg n4]
   unfold pieceE
   rw [h2, if_neg n10, if_neg n11, if_neg (by omega), hat]
   simp only [r1, withRep]
   exact r2
theorem pattB_quote (dp : Option (Nat → Nat → PR)) (deep : Bool) (g : Nat) : ∀ (l : List UInt8) (o f : Nat) (front star : Bool) (acc : List T), x.data.toList.drop o = quoteL markB l → o ≤ x.size → l.length < f → pattB x false nl dp deep f front star o g acc = .ok (T.seq (acc ++ byL l)) x.size g
 | [], o, f + 1, front, star, acc, h, ho, hf => by
  have := drop_over (h.trans rfl)
  rw [pattB, if_pos (.inl (by omega)), show o = x.size by omega]
  simp [byL]
 | b :: r, o, f + 1, front, star, acc, h, ho, hf => by
  rw [List.length_cons] at hf
  rw [quoteL] at h
  have hrep : ∀ o2, x.data.toList.drop o2 = quoteL markB r → repB x o2 = .no := fun o2 h2 => by
   unfold repB
   rw [if_neg (quote_head h2 (by decide) (by decide) (by decide)), if_neg]
   rintro ⟨e1, e2⟩
   cases r with
   | nil =>
    have := drop_over (h2.trans rfl)
    rw [pb_none (by omega)] at e1
    cases e1
   | cons b2 r2 =>
    rw [quoteL] at h2
    by_cases hb2 : markB b2.toNat = true
    ·rw [if_pos hb2] at h2
     obtain ⟨q1, q2, q3⟩ := drop_by (r := b2 :: quoteL markB r2) h2
     have q4 := (drop_by q3).2.1
     rw [q4] at e2
     rw [e2] at hb2
     exact absurd hb2 (by decide)
    ·rw [if_neg hb2] at h2
     have q2 := (drop_by (r := quoteL markB r2) h2).2.1
     rw [q2] at e1
     exact (notB hb2).2.2.2.2.2 e1
  have hfin : ∀ o2, x.data.toList.drop o2 = quoteL markB r → o2 ≤ x.size → pattB x false nl dp deep f false false o2 g (acc ++ [bytT (oneS false b.toNat)]) = .ok (T.seq (acc ++ byL (b :: r))) x.size g := fun o2 h2 ho2 => by
   rw [pattB_quote dp deep g r o2 f false false _ h2 ho2 (by omega), List.append_assoc]
   rfl
  by_cases hb : markB b.toNat = true
  ·rw [if_pos hb] at h
   obtain ⟨h1, h2, h3⟩ := drop_by (r := b :: quoteL markB r) h
   obtain ⟨k1, k2, k3⟩ := drop_by h3
   have hpu := markE_punct ⟨b.toNat, u8_fin b⟩ (markB_markE ⟨b.toNat, u8_fin b⟩ hb)
   have h2' : pb x o = 92 := h2
   have m1 : b.toNat ≠ 40 ∧ b.toNat ≠ 41 ∧ b.toNat ≠ 123 ∧ b.toNat ≠ 125 := by
    refine ⟨?_, ?_, ?_, ?_⟩ <;> (intro e; rw [e] at hb; exact absurd hb (by decide))
   have hat : atomB x false nl dp star o g = .ok (bytT (oneS false b.toNat)) (o + 2) g := by
    unfold atomB
    rw [h2', k2, if_neg (by decide), if_neg (by decide), if_pos rfl, if_pos ⟨k1, hpu⟩, if_neg m1.1, if_neg m1.2.1, if_neg m1.2.2.1, if_neg m1.2.2.2]
   rw [pattB, h2', k2, if_neg (by omega), if_neg (by omega), if_neg (by omega)]
   unfold pieceB
   rw [hat]
   simp only [hrep (o + 2) k3, withRep]
   exact hfin (o + 2) k3 (by omega)
  ·rw [if_neg hb] at h
   obtain ⟨h1, h2, h3⟩ := drop_by (r := quoteL markB r) h
   obtain ⟨n1, n2, n3, n4, n5, n6⟩ := notB hb
   have hat : atomB x false nl dp star o g = .ok (bytT (oneS false b.toNat)) (o + 1) g := by
    unfold atomB
    rw [h2, if_neg n1, if_neg n2, if_neg n6, if_neg (by omega)]
   rw [pattB, h2, if_neg (by omega), if_neg (by omega), if_neg (by omega)]
   unfold pieceB
   rw [hat]
   simp only [hrep (o + 1) h3, withRep]
   exact hfin (o + 1) h3 (by omega)
end
theorem quoteS_size (mk : Nat → Bool) (s : ByteArray) : s.size ≤ (quoteS mk s).size ∧ (quoteS mk s).size ≤ 2 * s.size := by
 have := quoteL_len mk s.data.toList
 rwa [← quoteS_list, data_len, data_len] at this
/-- The quoted text, read. -/
theorem parseE_quote (s : ByteArray) (nl : Bool) (h : (quoteS markE s).size ≤ 1024) : parseE (quoteS markE s) false nl = .ok (T.seq (byL s.data.toList)) (quoteS markE s).size 0 := by
 have hz := quoteS_size markE s
 have hln : (byL s.data.toList).length ≤ 1500 := by unfold byL; rw [List.length_map, data_len]; omega
 unfold parseE
 rw [if_neg (by omega), deepE, pattE, branch_quote _ _ _ s.data.toList 0 _ _ (by rw [List.drop_zero]; rfl) (Nat.zero_le _) (by rw [data_len]; omega)]
 simp only [List.nil_append]
 rw [pb_none (by omega), if_neg (by decide), show ∀ t : T, T.alt [t] = t from fun _ => rfl]
 exact whole_run (byL_lf _) hln
theorem parseB_quote (s : ByteArray) (nl : Bool) (h : (quoteS markB s).size ≤ 1024) : parseB (quoteS markB s) false nl = .ok (T.seq (byL s.data.toList)) (quoteS markB s).size 0 := by
 have hz := quoteS_size markB s
 have hln : (byL s.data.toList).length ≤ 1500 := by unfold byL; rw [List.length_map, data_len]; omega
 unfold parseB
 rw [if_neg (by omega), deepB, pattB_quote _ _ _ s.data.toList 0 _ _ _ _ (by rw [List.drop_zero]; rfl) (Nat.zero_le _) (by rw [data_len]; omega)]
 rw [List.nil_append]
 exact whole_run (byL_lf _) hln
theorem parseE_long {p : ByteArray} {ic nl : Bool} (h : 1024 < p.size) : parseE p ic nl = .bad 11 1024 := by
 unfold parseE; rw [if_pos h]
/-- The basic text is not longer. -/
theorem quoteL_le : ∀ l : List UInt8, (quoteL markB l).length ≤ (quoteL markE l).length
 | [] => Nat.le_refl _
 | b :: r => by
  have := quoteL_le r
  have h1 := markB_markE ⟨b.toNat, u8_fin b⟩
  simp only at h1
  rw [quoteL, quoteL]
  by_cases hb : markB b.toNat = true
  ·rw [if_pos hb, if_pos (h1 hb)]
   simp; omega
  ·rw [if_neg hb]
   split <;> simp <;> omega
theorem quoteS_le (s : ByteArray) : (quoteS markB s).size ≤ (quoteS markE s).size := by
 have := quoteL_le s.data.toList
 rwa [← quoteS_list, ← quoteS_list, data_len, data_len] at this
end Go.Proofs.YtpkcklpjbeginaaGreatDoor

/-! ## SetBack8 -/
namespace Go.Proofs.YtpkcklpjbeginaaGreatDoor
open Go.RowKit

/-! ### Items -/
section
variable {x : ByteArray} {z f : Nat}
theorem item_one {i : Nat} {pl : Int} (h1 : pb x i = 91 → pb x (i + 1) ≠ 46 ∧ pb x (i + 1) ≠ 61 ∧ pb x (i + 1) ≠ 58) (h2 : pb x (i + 1) = 45 → pb x (i + 2) = 93) : itemP x i pl = .good (fun y => decide (y = pb x i)) (i + 1) := by
 unfold itemP
 rw [if_neg (fun e => by have := h1 e.1; omega), if_neg (fun e => by have := h1 e.1; omega), if_neg (fun e => e.2.2 (h2 e.1))]
/-- Reading goes on at another place, with another set. -/
def Goes (x : ByteArray) (z f i : Nat) (S : Nat → Bool) (j : Nat) (S' : Nat → Bool) : Prop := ∀ k, x.size - i < k → ∃ k', x.size - j < k' ∧ loopP x z f k i S = loopP x z f k' j S'
theorem Goes.refl (i : Nat) (S : Nat → Bool) : Goes x z f i S i S := fun k hk => ⟨k, hk, rfl⟩
theorem Goes.trans {i j l : Nat} {S S1 S2 : Nat → Bool} (h : Goes x z f i S j S1) (k : Goes x z f j S1 l S2) : Goes x z f i S l S2 := fun n hn => by
 obtain ⟨n1, h1, e1⟩ := h n hn
 obtain ⟨n2, h2, e2⟩ := k n1 h1
 exact ⟨n2, h2, e1.trans e2⟩
theorem Goes.item {i j : Nat} {S T : Nat → Bool} (hi : i < x.size) (hn : ¬ (pb x i = 93 ∧ f < i)) (hj : i < j) (h : itemP x i (z : Int) = .good T j) : Goes x z f i S j (fun y => S y || T y) := fun k hk => by
 cases k with
 | zero => omega
 | succ k => exact ⟨k, by omega, by rw [loopP, if_neg (by omega), if_neg hn, h]⟩
theorem Goes.one {i c : Nat} {S : Nat → Bool} (hi : i < x.size) (hc : pb x i = c) (hn : ¬ (c = 93 ∧ f < i)) (h1 : c = 91 → pb x (i + 1) ≠ 46 ∧ pb x (i + 1) ≠ 61 ∧ pb x (i + 1) ≠ 58) (h2 : pb x (i + 1) = 45 → pb x (i + 2) = 93) : Goes x z f i S (i + 1) (fun y => S y || decide (y = c)) := by
 subst hc
 exact Goes.item hi hn (by omega) (item_one h1 h2)
end
end Go.Proofs.YtpkcklpjbeginaaGreatDoor

/-! ## TxtBack8 -/
namespace Go.Proofs.YtpkcklpjbeginaaGreatDoor
open Go.RowKit

/-! ### What reading yields -/
section
variable {p : ByteArray} {ic nl : Bool} {D : Nat → Nat → T → Prop} {dp : Option (Nat → Nat → PR)}
end

/-! ### Tidy, and how deep -/
section
variable {D : Nat → Nat → T → Prop} {B : Int}
end
/-! ### The text, read again -/
/-- The bytes of trees one behind the other. -/
def catL : List T → List UInt8
 | [] => []
 | t :: l => t.txt.data.toList ++ catL l
/-- With bars between. -/
def barL : List T → List UInt8
 | [] => []
 | t :: l => 124 :: (t.txt.data.toList ++ barL l)
theorem txt2_cat : ∀ l : List T, (TL.txt2 false l).data.toList = catL l
 | [] => rfl
 | t :: l => by
  rw [TL.txt2, app_toList, app_toList, txt2_cat l]
  rfl
theorem txt2_bar : ∀ l : List T, (TL.txt2 true l).data.toList = barL l
 | [] => rfl
 | t :: l => by
  rw [TL.txt2, app_toList, app_toList, txt2_bar l]
  rfl
theorem txt_cat (l : List T) : (TL.txt false l).data.toList = catL l := by
 cases l with
 | nil => rfl
 | cons t l => rw [TL.txt, app_toList, txt2_cat]; rfl
theorem txt_bar (t : T) (l : List T) : (TL.txt true (t :: l)).data.toList = t.txt.data.toList ++ barL l := by
 rw [TL.txt, app_toList, txt2_bar]
theorem grp_txt (n : Int) (t : T) : (grpT n t).txt.data.toList = 40 :: (t.txt.data.toList ++ [41]) := by
 unfold grpT
 rw [T.txt, if_neg (by intro e; cases e), if_neg (by intro e; cases e), if_neg (by intro e; cases e), if_pos rfl, app_toList, app_toList, txt_cat, catL, catL, List.append_nil]
 rfl
theorem rep_txt (a b : Int) (t : T) : (repT a b t).txt.data.toList = t.txt.data.toList ++ (repP a b).data.toList := by
 unfold repT
 rw [T.txt, if_neg (by intro e; cases e), if_neg (by intro e; cases e), if_neg (by intro e; cases e), if_neg (by intro e; cases e), if_pos rfl, app_toList, txt_cat, catL, catL, List.append_nil]

/-! ### Counts -/
theorem dec3 (n : Nat) (h : n ≤ 255) : Lib.decDigits n = if n < 10 then [UInt8.ofNat (48 + n)] else if n < 100 then [UInt8.ofNat (48 + n / 10), UInt8.ofNat (48 + n % 10)] else [UInt8.ofNat (48 + n / 100), UInt8.ofNat (48 + n / 10 % 10), UInt8.ofNat (48 + n % 10)] := by
 rw [Lib.decDigits]
 by_cases c1 : n < 10
 ·rw [dif_pos c1, if_pos c1]
 ·rw [dif_neg c1, if_neg c1, Lib.decDigits]
  by_cases c2 : n < 100
  ·rw [dif_pos (by omega), if_pos c2]; rfl
  ·rw [dif_neg (by omega), if_neg c2, Lib.decDigits, dif_pos (by omega), show n / 10 / 10 = n / 100 by omega]; rfl
/-! ### Back -/
section
variable {x : ByteArray} {D : Nat → Nat → T → Prop} {dp : Option (Nat → Nat → PR)}
def Stop (x : ByteArray) (deep : Bool) (e : Nat) : Prop := ¬ e < x.size ∨ (pb x e = 41 ∧ deep = true)
end
end Go.Proofs.YtpkcklpjbeginaaGreatDoor
