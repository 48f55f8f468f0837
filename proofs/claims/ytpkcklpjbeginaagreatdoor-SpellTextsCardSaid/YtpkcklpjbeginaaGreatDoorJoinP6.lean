/- A pattern that stands in another one is read there as it is alone, its groups' numbers so many more, in plain Lean. -/
import Derived.Test.YtpkcklpjbeginaaGreatDoorRightP6
set_option linter.unusedSimpArgs false
set_option linter.unusedVariables false
namespace Go.Proofs.YtpkcklpjbeginaaGreatDoor
open Go.RowKit

mutual
/-- A tree with all its groups' numbers so many more. -/
def T.raise (n : Int) : T → T
 | .mk h l => .mk (if h.kind = 7 then { h with num := IntKind.i64.wrap (h.num + n) } else h) (TL.raise n l)
def TL.raise (n : Int) : List T → List T
 | [] => []
 | t :: ts => t.raise n :: TL.raise n ts
end
theorem TL.raise_snoc (n : Int) (l : List T) (t : T) : TL.raise n (l ++ [t]) = TL.raise n l ++ [t.raise n] := by
 induction l with
 | nil => simp [TL.raise]
 | cons x l ih => simp [TL.raise, ih]
theorem TL.raise_length (n : Int) (l : List T) : (TL.raise n l).length = l.length := by
 induction l with
 | nil => rfl
 | cons x l ih => simp [TL.raise, ih]
theorem Hd.raise_same (h : Hd) (n : Int) : ∀ h', h' = (if h.kind = 7 then { h with num := IntKind.i64.wrap (h.num + n) } else h) → h'.kind = h.kind ∧ h'.min = h.min ∧ h'.max = h.max := by
 intro h' e
 subst e
 split <;> exact ⟨rfl, rfl, rfl⟩
mutual
theorem T.raise_size (n : Int) : ∀ t : T, (t.raise n).size = t.size
 | .mk h l => by
  obtain ⟨k1, k2, k3⟩ := Hd.raise_same h n _ rfl
  have hl := TL.raise_size n l 0
  simp only [T.raise, T.size, Hd.grow, Hd.rounds, k1, k2, k3, hl]
theorem TL.raise_size (n : Int) : ∀ (l : List T) (m : Int), TL.size (TL.raise n l) m = TL.size l m
 | [], m => rfl
 | t :: ts, m => by simp only [TL.raise, TL.size, T.raise_size n t]; exact TL.raise_size n ts _
end
/-- t' is t, its groups' numbers so many more; both are right trees. -/
structure Up (g0 : Nat) (t t' : T) : Prop where
 r : t.raise g0 = t'
 z : g0 = 0 → t' = t
 f : t.form = true
 f' : t'.form = true
structure UpL (g0 : Nat) (l l' : List T) : Prop where
 r : TL.raise g0 l = l'
 z : g0 = 0 → l' = l
 f : TL.form l = true
 f' : TL.form l' = true
theorem Up.s {g0 : Nat} {t t' : T} (h : Up g0 t t') : t'.size = t.size := by rw [← h.r, T.raise_size]
theorem UpL.len {g0 : Nat} {l l' : List T} (h : UpL g0 l l') : l'.length = l.length := by rw [← h.r, TL.raise_length]
theorem Up.leaf (g0 : Nat) (h : Hd) (hk : h.kind ≠ 7) (hf : (T.mk h []).form = true) : Up g0 (.mk h []) (.mk h []) :=
 ⟨by simp only [T.raise, TL.raise, if_neg hk], fun _ => rfl, hf, hf⟩
theorem UpL.nil (g0 : Nat) : UpL g0 [] [] := ⟨rfl, fun _ => rfl, rfl, rfl⟩
theorem UpL.snoc {g0 : Nat} {l l' : List T} {t t' : T} (h : UpL g0 l l') (k : Up g0 t t') : UpL g0 (l ++ [t]) (l' ++ [t']) :=
 ⟨by rw [TL.raise_snoc, h.r, k.r], fun e => by rw [h.z e, k.z e], TL.form_snoc _ _ h.f k.f, TL.form_snoc _ _ h.f' k.f'⟩
theorem row_form {k : Int} {l : List T} (hk : k = 5 ∨ k = 6) (h : TL.form l = true) (hl : 1 < l.length) : (T.mk ⟨k, 0, 0, 0, 0, 0, 0, 0, false⟩ l).form = true := by
 rw [T.form_eq]
 simp only [T.hd, T.subs, h, Bool.and_true]
 rcases hk with rfl | rfl <;> simp [Hd.formed, Hd.noSet, Hd.plain] <;> omega
theorem Up.row {g0 : Nat} {k : Int} {l l' : List T} (hk : k = 5 ∨ k = 6) (h : UpL g0 l l') (hl : 1 < l.length) : Up g0 (.mk ⟨k, 0, 0, 0, 0, 0, 0, 0, false⟩ l) (.mk ⟨k, 0, 0, 0, 0, 0, 0, 0, false⟩ l') := by
 refine ⟨?_, fun e => by rw [h.z e], row_form hk h.f hl, row_form hk h.f' (by rw [h.len]; exact hl)⟩
 have : ¬ k = 7 := by omega
 simp only [T.raise, if_neg this, h.r]
theorem UpL.one {g0 : Nat} {t : T} {l' : List T} (h : UpL g0 [t] l') : ∃ t', l' = [t'] ∧ Up g0 t t' := by
 have hr := h.r
 simp only [TL.raise] at hr
 subst hr
 refine ⟨t.raise g0, rfl, rfl, fun e => by have := h.z e; injection this, ?_, ?_⟩
 ·have := h.f; simpa only [TL.form, Bool.and_true] using this
 ·have := h.f'; simpa only [TL.form, Bool.and_true] using this
theorem Up.seq {g0 : Nat} {l l' : List T} (h : UpL g0 l l') : Up g0 (T.seq l) (T.seq l') := by
 match l, h with
 | [], h => have := h.r; simp only [TL.raise] at this; subst this; exact Up.leaf g0 _ (by decide) rfl
 | [t], h => obtain ⟨t', rfl, h1⟩ := h.one; exact h1
 | a :: b :: r, h =>
  have h1 := Up.row (k := 5) (.inl rfl) h (by simp)
  have h2 := h.r
  simp only [TL.raise] at h2
  subst h2
  exact h1
/-! ### A text within another one -/
/-- p stands in x from o on; behind it x ends, or goes on with a bar or a closing bracket. -/
structure Emb (x p : ByteArray) (o v : Nat) : Prop where
 size : o + p.size ≤ x.size
 at_ : ∀ i, i < p.size → pb x (o + i) = pb p i
 stop : pb x (o + p.size) = v
 ok : v = 256 ∨ v = 124 ∨ v = 41 ∨ v = 92
section
variable {x p : ByteArray} {o v : Nat}
theorem Emb.eq (h : Emb x p o v) {i c : Nat} (hc : pb p i = c) (h2 : c < 256) : pb x (o + i) = c := by
 rw [h.at_ i (pb_ins hc h2)]; exact hc
theorem Emb.ne (h : Emb x p o v) {i c : Nat} (hi : i ≤ p.size) (hv : v ≠ c) (hc : pb p i ≠ c) : pb x (o + i) ≠ c := by
 by_cases hlt : i < p.size
 ·rw [h.at_ i hlt]; exact hc
 ·rw [show i = p.size by omega, h.stop]; exact hv
theorem Emb.iff (h : Emb x p o v) {i c : Nat} (hi : i ≤ p.size) (hv : v ≠ c) (h2 : c < 256) : pb x (o + i) = c ↔ pb p i = c :=
 ⟨fun e => Decidable.byContradiction fun hn => h.ne hi hv hn e, fun e => h.eq e h2⟩
theorem Emb.cut (h : Emb x p o v) {a b : Nat} (hb : b ≤ p.size) : x.extract (o + a) (o + b) = p.extract a b := by
 have hz := h.size
 apply ByteArray.ext
 apply Array.toList_inj.1
 rw [extract_list, extract_list]
 refine List.ext_getElem ?_ fun k h1 h2 => ?_
 ·simp only [List.length_take, List.length_drop, data_len]; omega
 ·simp only [List.length_take, List.length_drop, data_len] at h1 h2
  rw [List.getElem_take, List.getElem_take, List.getElem_drop, List.getElem_drop]
  have hk := h.at_ (a + k) (by omega)
  rw [pb_at (by omega), pb_at (by omega)] at hk
  have := UInt8.toNat_inj.1 hk
  simp only [ByteArray.getElem_eq_getElem_data] at this
  simp only [Array.getElem_toList]
  simpa only [Nat.add_assoc] using this
theorem Emb.clo (h : Emb x p o v) : ∀ (n k : Nat), p.size ≤ k + n → 0 ≤ Proofs.YtpkcklpjbeginaaGreatDoor.clo p k → Proofs.YtpkcklpjbeginaaGreatDoor.clo x (o + k) = o + Proofs.YtpkcklpjbeginaaGreatDoor.clo p k
 | 0, k, hn, hc => by have := clo_in hc; omega
 | n + 1, k, hn, hc => by
  have hin := clo_in hc
  have hz := h.size
  have e1 := h.at_ k (by omega)
  have e2 := h.at_ (k + 1) (by omega)
  by_cases hh : pb p k = 58 ∧ pb p (k + 1) = 93
  ·rw [clo_here hh.1 hh.2, clo_here (by rw [e1]; exact hh.1) (by rw [Nat.add_assoc, e2]; exact hh.2)]
   omega
  ·rw [clo_next (by omega) hh] at hc ⊢
   rw [clo_next (p := x) (by omega) (by rw [e1, Nat.add_assoc, e2]; exact hh)]
   exact h.clo n (k + 1) (by omega) hc
theorem loopP_hit {z f : Nat} : ∀ (n i : Nat) (S S' : Nat → Bool) (m : Nat), loopP p z f n i S = .good S' m → pb p m = 93 ∧ i ≤ m
 | 0, i, S, S', m, h => by cases h
 | n + 1, i, S, S', m, h => by
  rw [loopP] at h
  split at h
  ·cases h
  ·split at h
   ·rename_i hc
    injection h with _ h2
    rw [← h2]
    exact ⟨hc.1, Nat.le_refl _⟩
   ·cases hi : itemP p i z with
    | bad g y => rw [hi] at h; cases h
    | good T j =>
     rw [hi] at h
     have h1 := loopP_hit n j _ S' m h
     have h2 := itemP_next (by omega) hi
     exact ⟨h1.1, by omega⟩
theorem Emb.item (h : Emb x p o v) {i : Nat} {pl pl' : Int} {S : Nat → Bool} {n : Nat} (hi : i < p.size) (hl : i + 2 = p.size → pb p (i + 1) ≠ 45) (hg : itemP p i pl = .good S n) : itemP x (o + i) pl' = .good S (o + n) := by
 have hv := h.ok
 have hz := h.size
 have e0 := h.at_ i hi
 have q46 := h.iff (i := i + 1) (c := 46) (by omega) (by omega) (by decide)
 have q61 := h.iff (i := i + 1) (c := 61) (by omega) (by omega) (by decide)
 have q58 := h.iff (i := i + 1) (c := 58) (by omega) (by omega) (by decide)
 have q45 := h.iff (i := i + 1) (c := 45) (by omega) (by omega) (by decide)
 unfold itemP at hg ⊢
 simp only [Nat.add_assoc] at *
 rw [e0]
 by_cases c1 : pb p i = 91 ∧ (pb p (i + 1) = 46 ∨ pb p (i + 1) = 61)
 ·rw [if_pos c1] at hg; cases hg
 rw [if_neg c1] at hg
 rw [if_neg (by rw [q46, q61]; exact c1)]
 by_cases c2 : pb p i = 91 ∧ pb p (i + 1) = 58
 ·rw [if_pos c2] at hg
  rw [if_pos (by rw [q58]; exact c2)]
  unfold namedP at hg ⊢
  simp only [Nat.add_assoc] at *
  by_cases c3 : Proofs.YtpkcklpjbeginaaGreatDoor.clo p (i + 2) < 0
  ·rw [if_pos c3] at hg; cases hg
  rw [if_neg c3] at hg
  have hcl := h.clo p.size (i + 2) (by omega) (by omega)
  have hin := clo_in (p := p) (k := i + 2) (by omega)
  obtain ⟨q, hq⟩ : ∃ q : Nat, Proofs.YtpkcklpjbeginaaGreatDoor.clo p (i + 2) = q := ⟨(Proofs.YtpkcklpjbeginaaGreatDoor.clo p (i + 2)).toNat, by omega⟩
  rw [hq] at hcl hg hin
  rw [hcl, if_neg (by omega), show ((o : Int) + (q : Int)).toNat = o + q by omega]
  rw [show ((q : Nat) : Int).toNat = q from rfl] at hg
  rw [h.cut (a := i + 2) (b := q) (by omega)]
  split at hg
  ·rename_i hs
   rw [if_pos hs]
   injection hg with g1 g2
   rw [g1, ← g2, Nat.add_assoc]
  ·cases hg
 rw [if_neg c2] at hg
 rw [if_neg (by rw [q58]; exact c2)]
 by_cases c4 : pb p (i + 1) = 45 ∧ i + 2 < p.size ∧ pb p (i + 2) ≠ 93
 ·have e2 := h.at_ (i + 2) c4.2.1
  have r46 := h.iff (i := i + 3) (c := 46) (by omega) (by omega) (by decide)
  have r61 := h.iff (i := i + 3) (c := 61) (by omega) (by omega) (by decide)
  have r58 := h.iff (i := i + 3) (c := 58) (by omega) (by omega) (by decide)
  rw [if_pos c4] at hg
  rw [if_pos (by rw [q45, e2]; exact ⟨c4.1, by omega, c4.2.2⟩), e2]
  by_cases c5 : pb p (i + 2) = 91 ∧ (pb p (i + 3) = 46 ∨ pb p (i + 3) = 61)
  ·rw [if_pos c5] at hg; cases hg
  rw [if_neg c5] at hg
  rw [if_neg (by rw [r46, r61]; exact c5)]
  by_cases c6 : (pb p (i + 2) = 91 ∧ pb p (i + 3) = 58) ∨ pb p (i + 2) < pb p i
  ·rw [if_pos c6] at hg; cases hg
  rw [if_neg c6] at hg
  rw [if_neg (by rw [r58]; exact c6)]
  injection hg with g1 g2
  rw [g1, ← g2]
 ·rw [if_neg c4] at hg
  rw [if_neg ?_]
  ·injection hg with g1 g2
   rw [g1, ← g2]
  ·rintro ⟨d1, d2, d3⟩
   rw [q45] at d1
   have hi1 := pb_ins d1 (by decide)
   by_cases d4 : i + 2 < p.size
   ·rw [h.at_ _ d4] at d3
    exact c4 ⟨d1, d4, d3⟩
   ·exact hl (by omega) d1
theorem Emb.loop (h : Emb x p o v) {z z' f : Nat} : ∀ (n n' i : Nat) (S S' : Nat → Bool) (m : Nat), n ≤ n' → loopP p z f n i S = .good S' m → loopP x z' (o + f) n' (o + i) S = .good S' (o + m)
 | 0, _, i, S, S', m, _, e => by cases e
 | n + 1, 0, i, S, S', m, hn, e => by omega
 | n + 1, n' + 1, i, S, S', m, hn, e => by
  have hz := h.size
  have hnx := loopP_next _ _ _ _ _ e
  rw [loopP] at e ⊢
  by_cases c1 : p.size ≤ i
  ·rw [if_pos c1] at e; cases e
  rw [if_neg c1] at e
  rw [if_neg (by omega), h.at_ i (by omega)]
  by_cases c2 : pb p i = 93 ∧ f < i
  ·rw [if_pos c2] at e
   rw [if_pos ⟨c2.1, by omega⟩]
   injection e with e1 e2
   rw [e1, e2]
  rw [if_neg c2] at e
  rw [if_neg (fun hh => c2 ⟨hh.1, by omega⟩)]
  cases hi : itemP p i z with
  | bad g y => rw [hi] at e; cases e
  | good T j =>
   rw [hi] at e
   have hj := itemP_next (by omega) hi
   rw [h.item (pl' := (z' : Int)) (by omega) (fun e2 e45 => ?_) hi]
   ·exact h.loop n n' j _ S' m (by omega) e
   ·have hh := loopP_hit n j _ S' m e
    have hm := loopP_next n j _ S' m e
    have : m = i + 1 := by omega
    rw [this, e45] at hh
    omega
theorem Emb.read (h : Emb x p o v) {i : Nat} {ic nl : Bool} {S : Nat → Bool} {n : Nat} (hg : readP p i ic nl = .good S n) : readP x (o + i) ic nl = .good S (o + n) := by
 have hn := readP_next hg
 have hz := h.size
 have e1 := h.at_ (i + 1) (by omega)
 unfold readP at hg ⊢
 rw [Nat.add_assoc, e1]
 obtain ⟨tb, htb⟩ : ∃ tb, tb = decide (pb p (i + 1) = 94) := ⟨_, rfl⟩
 obtain ⟨st, hst⟩ : ∃ st, st = (if pb p (i + 1) = 94 then i + 2 else i + 1) := ⟨_, rfl⟩
 have hst2 : (if pb p (i + 1) = 94 then o + i + 2 else o + (i + 1)) = o + st := by rw [hst]; split <;> omega
 rw [← htb, ← hst] at hg
 rw [← htb, hst2]
 cases hl : loopP p i st (p.size + 1) st (fun _ => false) with
 | bad g y => rw [hl] at hg; cases hg
 | good S' m =>
  rw [hl] at hg
  rw [h.loop (p.size + 1) (x.size + 1) st _ S' m (by omega) hl]
  simp only [outP, R5.good.injEq] at hg ⊢
  exact ⟨hg.1, by omega⟩
theorem Emb.set (h : Emb x p o v) {i g j q g0 : Nat} {ic nl : Bool} {t : T} (hg : setAt p ic nl i g = .ok t j q) : q = g ∧ ∃ S, t = bytT S ∧ setAt x ic nl (o + i) (g0 + g) = .ok (bytT S) (o + j) (g0 + g) := by
 unfold setAt at hg ⊢
 cases hr : readP p i ic nl with
 | bad c pl => rw [hr] at hg; cases hg
 | good S n =>
  rw [hr] at hg
  rw [h.read hr]
  injection hg with e1 e2 e3
  exact ⟨e3.symm, S, e1.symm, by rw [e2]⟩
variable {weak : Prop} {g0 : Nat} {dp dx : Option (Nat → Nat → PR)} {ic nl : Bool}
end
section
variable {x p q : ByteArray} {ic nl : Bool}
end
end Go.Proofs.YtpkcklpjbeginaaGreatDoor
