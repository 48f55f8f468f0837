/- A pattern that stands in another one is read there as it is alone, its groups' numbers so many more, in plain Lean. -/
import Derived.Test.YtfehmfifjidjjaaDoorRightP6
set_option linter.unusedSimpArgs false
set_option linter.unusedVariables false
namespace Go.Proofs.YtfehmfifjidjjaaDoor
open Go.RowKit

mutual
/-- A tree with all its groups' numbers so many more. -/
def T.raise (n : Int) : T → T
  | .mk h l => .mk (if h.kind = 7 then { h with num := IntKind.i64.wrap (h.num + n) } else h) (TL.raise n l)
def TL.raise (n : Int) : List T → List T
  | [] => []
  | t :: ts => t.raise n :: TL.raise n ts
end
theorem TL.raise_snoc (n : Int) (l : List T) (t : T) : TL.raise n (l ++ [t]) = TL.raise n l ++ [t.raise n] := by
  induction l with
  | nil => simp [TL.raise]
  | cons x l ih => simp [TL.raise, ih]
theorem TL.raise_length (n : Int) (l : List T) : (TL.raise n l).length = l.length := by
  induction l with
  | nil => rfl
  | cons x l ih => simp [TL.raise, ih]
theorem Hd.raise_same (h : Hd) (n : Int) : ∀ h', h' = (if h.kind = 7 then { h with num := IntKind.i64.wrap (h.num + n) } else h) → h'.kind = h.kind ∧ h'.min = h.min ∧ h'.max = h.max := by
  intro h' e
  subst e
  split <;> exact ⟨rfl, rfl, rfl⟩
mutual
theorem T.raise_size (n : Int) : ∀ t : T, (t.raise n).size = t.size
  | .mk h l => by
    obtain ⟨k1, k2, k3⟩ := Hd.raise_same h n _ rfl
    have hl := TL.raise_size n l 0
    simp only [T.raise, T.size, Hd.grow, Hd.rounds, k1, k2, k3, hl]
theorem TL.raise_size (n : Int) : ∀ (l : List T) (m : Int), TL.size (TL.raise n l) m = TL.size l m
  | [], m => rfl
  | t :: ts, m => by simp only [TL.raise, TL.size, T.raise_size n t]; exact TL.raise_size n ts _
end
/-- t' is t, its groups' numbers so many more; both are right trees. -/
structure Up (g0 : Nat) (t t' : T) : Prop where
  r : t.raise g0 = t'
  z : g0 = 0 → t' = t
  f : t.form = true
  f' : t'.form = true
structure UpL (g0 : Nat) (l l' : List T) : Prop where
  r : TL.raise g0 l = l'
  z : g0 = 0 → l' = l
  f : TL.form l = true
  f' : TL.form l' = true
theorem Up.s {g0 : Nat} {t t' : T} (h : Up g0 t t') : t'.size = t.size := by rw [← h.r, T.raise_size]
theorem UpL.len {g0 : Nat} {l l' : List T} (h : UpL g0 l l') : l'.length = l.length := by rw [← h.r, TL.raise_length]
theorem Up.full {g0 : Nat} {t t' : T} (h : Up g0 t t') : t'.fullSize = t.fullSize := by unfold T.fullSize; rw [h.f, h.f', h.s]
theorem Up.leaf (g0 : Nat) (h : Hd) (hk : h.kind ≠ 7) (hf : (T.mk h []).form = true) : Up g0 (.mk h []) (.mk h []) :=
  ⟨by simp only [T.raise, TL.raise, if_neg hk], fun _ => rfl, hf, hf⟩
theorem Up.byt (g0 : Nat) (S : Nat → Bool) : Up g0 (bytT S) (bytT S) := Up.leaf g0 _ (show ((2 : Int) ≠ 7) by decide) rfl
theorem Up.beg (g0 : Nat) : Up g0 begT begT := Up.leaf g0 _ (by decide) rfl
theorem Up.end_ (g0 : Nat) : Up g0 endT endT := Up.leaf g0 _ (by decide) rfl
theorem grp_form {t : T} {n : Nat} (h : t.form = true) (h1 : 1 ≤ n) (h2 : n ≤ 999) : (grpT (n : Int) t).form = true := by
  rw [T.form_eq]
  simp only [grpT, T.hd, T.subs, TL.form, h, Bool.and_true]
  simp [Hd.formed, Hd.noSet, Hd.plain]
  omega
theorem Up.grp {g0 g : Nat} {t t' : T} (h : Up g0 t t') (hg : g0 + g ≤ 998) : Up g0 (grpT ((g + 1 : Nat) : Int) t) (grpT ((g0 + g + 1 : Nat) : Int) t') := by
  refine ⟨?_, fun e => ?_, grp_form h.f (by omega) (by omega), grp_form h.f' (by omega) (by omega)⟩
  · have hw : IntKind.i64.wrap (((g + 1 : Nat) : Int) + (g0 : Int)) = ((g0 + g + 1 : Nat) : Int) := by rw [wrapI (by omega) (by omega)]; omega
    simp only [grpT, T.raise, TL.raise, if_true, hw, h.r]
  · subst e
    rw [h.z rfl, Nat.zero_add]
theorem rep_form {t : T} {a : Nat} {b : Int} (h : t.form = true) (ha : a ≤ 255) (hb : b = -1 ∨ ((a : Int) ≤ b ∧ b ≤ 255)) : (repT (a : Int) b t).form = true := by
  rw [T.form_eq]
  simp only [repT, T.hd, T.subs, TL.form, h, Bool.and_true]
  simp [Hd.formed, Hd.noSet, Hd.plain]
  omega
theorem Up.rep {g0 a : Nat} {b : Int} {t t' : T} (h : Up g0 t t') (ha : a ≤ 255) (hb : b = -1 ∨ ((a : Int) ≤ b ∧ b ≤ 255)) : Up g0 (repT (a : Int) b t) (repT (a : Int) b t') := by
  refine ⟨?_, fun e => by rw [h.z e], rep_form h.f ha hb, rep_form h.f' ha hb⟩
  simp [repT, T.raise, TL.raise, h.r]
theorem UpL.nil (g0 : Nat) : UpL g0 [] [] := ⟨rfl, fun _ => rfl, rfl, rfl⟩
theorem UpL.snoc {g0 : Nat} {l l' : List T} {t t' : T} (h : UpL g0 l l') (k : Up g0 t t') : UpL g0 (l ++ [t]) (l' ++ [t']) :=
  ⟨by rw [TL.raise_snoc, h.r, k.r], fun e => by rw [h.z e, k.z e], TL.form_snoc _ _ h.f k.f, TL.form_snoc _ _ h.f' k.f'⟩
theorem row_form {k : Int} {l : List T} (hk : k = 5 ∨ k = 6) (h : TL.form l = true) (hl : 1 < l.length) : (T.mk ⟨k, 0, 0, 0, 0, 0, 0, 0, false⟩ l).form = true := by
  rw [T.form_eq]
  simp only [T.hd, T.subs, h, Bool.and_true]
  rcases hk with rfl | rfl <;> simp [Hd.formed, Hd.noSet, Hd.plain] <;> omega
theorem Up.row {g0 : Nat} {k : Int} {l l' : List T} (hk : k = 5 ∨ k = 6) (h : UpL g0 l l') (hl : 1 < l.length) : Up g0 (.mk ⟨k, 0, 0, 0, 0, 0, 0, 0, false⟩ l) (.mk ⟨k, 0, 0, 0, 0, 0, 0, 0, false⟩ l') := by
  refine ⟨?_, fun e => by rw [h.z e], row_form hk h.f hl, row_form hk h.f' (by rw [h.len]; exact hl)⟩
  have : ¬ k = 7 := by omega
  simp only [T.raise, if_neg this, h.r]
theorem UpL.one {g0 : Nat} {t : T} {l' : List T} (h : UpL g0 [t] l') : ∃ t', l' = [t'] ∧ Up g0 t t' := by
  have hr := h.r
  simp only [TL.raise] at hr
  subst hr
  refine ⟨t.raise g0, rfl, rfl, fun e => by have := h.z e; injection this, ?_, ?_⟩
  · have := h.f; simpa only [TL.form, Bool.and_true] using this
  · have := h.f'; simpa only [TL.form, Bool.and_true] using this
theorem Up.seq {g0 : Nat} {l l' : List T} (h : UpL g0 l l') : Up g0 (T.seq l) (T.seq l') := by
  match l, h with
  | [], h => have := h.r; simp only [TL.raise] at this; subst this; exact Up.leaf g0 _ (by decide) rfl
  | [t], h => obtain ⟨t', rfl, h1⟩ := h.one; exact h1
  | a :: b :: r, h =>
    have h1 := Up.row (k := 5) (.inl rfl) h (by simp)
    have h2 := h.r
    simp only [TL.raise] at h2
    subst h2
    exact h1
theorem Up.alt {g0 : Nat} {l l' : List T} (hl : l ≠ []) (h : UpL g0 l l') : Up g0 (T.alt l) (T.alt l') := by
  match l, h with
  | [], h => exact absurd rfl hl
  | [t], h => obtain ⟨t', rfl, h1⟩ := h.one; exact h1
  | a :: b :: r, h =>
    have h1 := Up.row (k := 6) (.inr rfl) h (by simp)
    have h2 := h.r
    simp only [TL.raise] at h2
    subst h2
    exact h1

/-! ### A text within another one -/
/-- p stands in x from o on; behind it x ends, or goes on with a bar or a closing bracket. -/
structure Emb (x p : ByteArray) (o v : Nat) : Prop where
  size : o + p.size ≤ x.size
  at_ : ∀ i, i < p.size → pb x (o + i) = pb p i
  stop : pb x (o + p.size) = v
  ok : v = 256 ∨ v = 124 ∨ v = 41
section
variable {x p : ByteArray} {o v : Nat}
theorem Emb.eq (h : Emb x p o v) {i c : Nat} (hc : pb p i = c) (h2 : c < 256) : pb x (o + i) = c := by
  rw [h.at_ i (pb_ins hc h2)]; exact hc
theorem Emb.ne (h : Emb x p o v) {i c : Nat} (hi : i ≤ p.size) (hv : v ≠ c) (hc : pb p i ≠ c) : pb x (o + i) ≠ c := by
  by_cases hlt : i < p.size
  · rw [h.at_ i hlt]; exact hc
  · rw [show i = p.size by omega, h.stop]; exact hv
theorem Emb.iff (h : Emb x p o v) {i c : Nat} (hi : i ≤ p.size) (hv : v ≠ c) (h2 : c < 256) : pb x (o + i) = c ↔ pb p i = c :=
  ⟨fun e => Decidable.byContradiction fun hn => h.ne hi hv hn e, fun e => h.eq e h2⟩
theorem Emb.cut (h : Emb x p o v) {a b : Nat} (hb : b ≤ p.size) : x.extract (o + a) (o + b) = p.extract a b := by
  have hz := h.size
  apply ByteArray.ext
  apply Array.toList_inj.1
  rw [extract_list, extract_list]
  refine List.ext_getElem ?_ fun k h1 h2 => ?_
  · simp only [List.length_take, List.length_drop, data_len]; omega
  · simp only [List.length_take, List.length_drop, data_len] at h1 h2
    rw [List.getElem_take, List.getElem_take, List.getElem_drop, List.getElem_drop]
    have hk := h.at_ (a + k) (by omega)
    rw [pb_at (by omega), pb_at (by omega)] at hk
    have := UInt8.toNat_inj.1 hk
    simp only [ByteArray.getElem_eq_getElem_data] at this
    simp only [Array.getElem_toList]
    simpa only [Nat.add_assoc] using this
theorem Emb.clo (h : Emb x p o v) : ∀ (n k : Nat), p.size ≤ k + n → 0 ≤ Proofs.YtfehmfifjidjjaaDoor.clo p k → Proofs.YtfehmfifjidjjaaDoor.clo x (o + k) = o + Proofs.YtfehmfifjidjjaaDoor.clo p k
  | 0, k, hn, hc => by have := clo_in hc; omega
  | n + 1, k, hn, hc => by
    have hin := clo_in hc
    have hz := h.size
    have e1 := h.at_ k (by omega)
    have e2 := h.at_ (k + 1) (by omega)
    by_cases hh : pb p k = 58 ∧ pb p (k + 1) = 93
    · rw [clo_here hh.1 hh.2, clo_here (by rw [e1]; exact hh.1) (by rw [Nat.add_assoc, e2]; exact hh.2)]
      omega
    · rw [clo_next (by omega) hh] at hc ⊢
      rw [clo_next (p := x) (by omega) (by rw [e1, Nat.add_assoc, e2]; exact hh)]
      exact h.clo n (k + 1) (by omega) hc
theorem Emb.find (h : Emb x p o v) {c i : Nat} (hc : c < 256) (hi : i ≤ p.size) (hf : findB p c i < p.size) : findB x c (o + i) = o + findB p c i := by
  obtain ⟨h1, h2, h3, h4⟩ := findB_spec p c i hi
  have hz := h.size
  refine findB_eq (by omega) (by omega) (fun _ => by rw [h.at_ _ hf]; exact h3 hf) fun k hk1 hk2 => ?_
  have := h4 (k - o) (by omega) (by omega)
  rw [show k = o + (k - o) by omega, h.at_ _ (by omega)]
  exact this
theorem loopP_hit {z f : Nat} : ∀ (n i : Nat) (S S' : Nat → Bool) (m : Nat), loopP p z f n i S = .good S' m → pb p m = 93 ∧ i ≤ m
  | 0, i, S, S', m, h => by cases h
  | n + 1, i, S, S', m, h => by
    rw [loopP] at h
    split at h
    · cases h
    · split at h
      · rename_i hc
        injection h with _ h2
        rw [← h2]
        exact ⟨hc.1, Nat.le_refl _⟩
      · cases hi : itemP p i z with
        | bad g y => rw [hi] at h; cases h
        | good T j =>
          rw [hi] at h
          have h1 := loopP_hit n j _ S' m h
          have h2 := itemP_next (by omega) hi
          exact ⟨h1.1, by omega⟩
theorem Emb.item (h : Emb x p o v) {i : Nat} {pl pl' : Int} {S : Nat → Bool} {n : Nat} (hi : i < p.size) (hl : i + 2 = p.size → pb p (i + 1) ≠ 45) (hg : itemP p i pl = .good S n) : itemP x (o + i) pl' = .good S (o + n) := by
  have hv := h.ok
  have hz := h.size
  have e0 := h.at_ i hi
  have q46 := h.iff (i := i + 1) (c := 46) (by omega) (by omega) (by decide)
  have q61 := h.iff (i := i + 1) (c := 61) (by omega) (by omega) (by decide)
  have q58 := h.iff (i := i + 1) (c := 58) (by omega) (by omega) (by decide)
  have q45 := h.iff (i := i + 1) (c := 45) (by omega) (by omega) (by decide)
  unfold itemP at hg ⊢
  simp only [Nat.add_assoc] at *
  rw [e0]
  by_cases c1 : pb p i = 91 ∧ (pb p (i + 1) = 46 ∨ pb p (i + 1) = 61)
  · rw [if_pos c1] at hg; cases hg
  rw [if_neg c1] at hg
  rw [if_neg (by rw [q46, q61]; exact c1)]
  by_cases c2 : pb p i = 91 ∧ pb p (i + 1) = 58
  · rw [if_pos c2] at hg
    rw [if_pos (by rw [q58]; exact c2)]
    unfold namedP at hg ⊢
    simp only [Nat.add_assoc] at *
    by_cases c3 : Proofs.YtfehmfifjidjjaaDoor.clo p (i + 2) < 0
    · rw [if_pos c3] at hg; cases hg
    rw [if_neg c3] at hg
    have hcl := h.clo p.size (i + 2) (by omega) (by omega)
    have hin := clo_in (p := p) (k := i + 2) (by omega)
    obtain ⟨q, hq⟩ : ∃ q : Nat, Proofs.YtfehmfifjidjjaaDoor.clo p (i + 2) = q := ⟨(Proofs.YtfehmfifjidjjaaDoor.clo p (i + 2)).toNat, by omega⟩
    rw [hq] at hcl hg hin
    rw [hcl, if_neg (by omega), show ((o : Int) + (q : Int)).toNat = o + q by omega]
    rw [show ((q : Nat) : Int).toNat = q from rfl] at hg
    rw [h.cut (a := i + 2) (b := q) (by omega)]
    split at hg
    · rename_i hs
      rw [if_pos hs]
      injection hg with g1 g2
      rw [g1, ← g2, Nat.add_assoc]
    · cases hg
  rw [if_neg c2] at hg
  rw [if_neg (by rw [q58]; exact c2)]
  by_cases c4 : pb p (i + 1) = 45 ∧ i + 2 < p.size ∧ pb p (i + 2) ≠ 93
  · have e2 := h.at_ (i + 2) c4.2.1
    have r46 := h.iff (i := i + 3) (c := 46) (by omega) (by omega) (by decide)
    have r61 := h.iff (i := i + 3) (c := 61) (by omega) (by omega) (by decide)
    have r58 := h.iff (i := i + 3) (c := 58) (by omega) (by omega) (by decide)
    rw [if_pos c4] at hg
    rw [if_pos (by rw [q45, e2]; exact ⟨c4.1, by omega, c4.2.2⟩), e2]
    by_cases c5 : pb p (i + 2) = 91 ∧ (pb p (i + 3) = 46 ∨ pb p (i + 3) = 61)
    · rw [if_pos c5] at hg; cases hg
    rw [if_neg c5] at hg
    rw [if_neg (by rw [r46, r61]; exact c5)]
    by_cases c6 : (pb p (i + 2) = 91 ∧ pb p (i + 3) = 58) ∨ pb p (i + 2) < pb p i
    · rw [if_pos c6] at hg; cases hg
    rw [if_neg c6] at hg
    rw [if_neg (by rw [r58]; exact c6)]
    injection hg with g1 g2
    rw [g1, ← g2]
  · rw [if_neg c4] at hg
    rw [if_neg ?_]
    · injection hg with g1 g2
      rw [g1, ← g2]
    · rintro ⟨d1, d2, d3⟩
      rw [q45] at d1
      have hi1 := pb_ins d1 (by decide)
      by_cases d4 : i + 2 < p.size
      · rw [h.at_ _ d4] at d3
        exact c4 ⟨d1, d4, d3⟩
      · exact hl (by omega) d1
theorem Emb.loop (h : Emb x p o v) {z z' f : Nat} : ∀ (n n' i : Nat) (S S' : Nat → Bool) (m : Nat), n ≤ n' → loopP p z f n i S = .good S' m → loopP x z' (o + f) n' (o + i) S = .good S' (o + m)
  | 0, _, i, S, S', m, _, e => by cases e
  | n + 1, 0, i, S, S', m, hn, e => by omega
  | n + 1, n' + 1, i, S, S', m, hn, e => by
    have hz := h.size
    have hnx := loopP_next _ _ _ _ _ e
    rw [loopP] at e ⊢
    by_cases c1 : p.size ≤ i
    · rw [if_pos c1] at e; cases e
    rw [if_neg c1] at e
    rw [if_neg (by omega), h.at_ i (by omega)]
    by_cases c2 : pb p i = 93 ∧ f < i
    · rw [if_pos c2] at e
      rw [if_pos ⟨c2.1, by omega⟩]
      injection e with e1 e2
      rw [e1, e2]
    rw [if_neg c2] at e
    rw [if_neg (fun hh => c2 ⟨hh.1, by omega⟩)]
    cases hi : itemP p i z with
    | bad g y => rw [hi] at e; cases e
    | good T j =>
      rw [hi] at e
      have hj := itemP_next (by omega) hi
      rw [h.item (pl' := (z' : Int)) (by omega) (fun e2 e45 => ?_) hi]
      · exact h.loop n n' j _ S' m (by omega) e
      · have hh := loopP_hit n j _ S' m e
        have hm := loopP_next n j _ S' m e
        have : m = i + 1 := by omega
        rw [this, e45] at hh
        omega
theorem Emb.read (h : Emb x p o v) {i : Nat} {ic nl : Bool} {S : Nat → Bool} {n : Nat} (hg : readP p i ic nl = .good S n) : readP x (o + i) ic nl = .good S (o + n) := by
  have hn := readP_next hg
  have hz := h.size
  have e1 := h.at_ (i + 1) (by omega)
  unfold readP at hg ⊢
  rw [Nat.add_assoc, e1]
  obtain ⟨tb, htb⟩ : ∃ tb, tb = decide (pb p (i + 1) = 94) := ⟨_, rfl⟩
  obtain ⟨st, hst⟩ : ∃ st, st = (if pb p (i + 1) = 94 then i + 2 else i + 1) := ⟨_, rfl⟩
  have hst2 : (if pb p (i + 1) = 94 then o + i + 2 else o + (i + 1)) = o + st := by rw [hst]; split <;> omega
  rw [← htb, ← hst] at hg
  rw [← htb, hst2]
  cases hl : loopP p i st (p.size + 1) st (fun _ => false) with
  | bad g y => rw [hl] at hg; cases hg
  | good S' m =>
    rw [hl] at hg
    rw [h.loop (p.size + 1) (x.size + 1) st _ S' m (by omega) hl]
    simp only [outP, R5.good.injEq] at hg ⊢
    exact ⟨hg.1, by omega⟩
theorem Emb.set (h : Emb x p o v) {i g j q g0 : Nat} {ic nl : Bool} {t : T} (hg : setAt p ic nl i g = .ok t j q) : q = g ∧ ∃ S, t = bytT S ∧ setAt x ic nl (o + i) (g0 + g) = .ok (bytT S) (o + j) (g0 + g) := by
  unfold setAt at hg ⊢
  cases hr : readP p i ic nl with
  | bad c pl => rw [hr] at hg; cases hg
  | good S n =>
    rw [hr] at hg
    rw [h.read hr]
    injection hg with e1 e2 e3
    exact ⟨e3.symm, S, e1.symm, by rw [e2]⟩
theorem Emb.repE (h : Emb x p o v) {i : Nat} (hi : i ≤ p.size) : (Proofs.YtfehmfifjidjjaaDoor.repE p i = .no → Proofs.YtfehmfifjidjjaaDoor.repE x (o + i) = .no) ∧ ∀ a b n, Proofs.YtfehmfifjidjjaaDoor.repE p i = .yes a b n → Proofs.YtfehmfifjidjjaaDoor.repE x (o + i) = .yes a b (o + n) := by
  have hv := h.ok
  have hz := h.size
  have q42 := h.iff (i := i) (c := 42) hi (by omega) (by decide)
  have q43 := h.iff (i := i) (c := 43) hi (by omega) (by decide)
  have q63 := h.iff (i := i) (c := 63) hi (by omega) (by decide)
  have q123 := h.iff (i := i) (c := 123) hi (by omega) (by decide)
  unfold Proofs.YtfehmfifjidjjaaDoor.repE
  by_cases c1 : pb p i = 42
  · rw [if_pos c1, if_pos (q42.2 c1)]
    exact ⟨fun e => (by cases e), fun a b n e => by injection e with e1 e2 e3; subst e1 e2 e3; rw [Nat.add_assoc]⟩
  rw [if_neg c1, if_neg (fun e => c1 (q42.1 e))]
  by_cases c2 : pb p i = 43
  · rw [if_pos c2, if_pos (q43.2 c2)]
    exact ⟨fun e => (by cases e), fun a b n e => by injection e with e1 e2 e3; subst e1 e2 e3; rw [Nat.add_assoc]⟩
  rw [if_neg c2, if_neg (fun e => c2 (q43.1 e))]
  by_cases c3 : pb p i = 63
  · rw [if_pos c3, if_pos (q63.2 c3)]
    exact ⟨fun e => (by cases e), fun a b n e => by injection e with e1 e2 e3; subst e1 e2 e3; rw [Nat.add_assoc]⟩
  rw [if_neg c3, if_neg (fun e => c3 (q63.1 e))]
  by_cases c4 : pb p i = 123
  · rw [if_pos c4, if_pos (q123.2 c4)]
    obtain ⟨h1, h2⟩ := findB_le p 125 i hi
    by_cases c5 : findB p 125 i = p.size
    · rw [if_pos c5]
      exact ⟨fun e => (by cases e), fun a b n e => (by cases e)⟩
    · have hf := h.find (c := 125) (by decide) hi (by omega)
      rw [if_neg c5, hf, if_neg (by omega), Nat.add_assoc, h.cut h2]
      cases hcn : countsP (p.extract (i + 1) (findB p 125 i)) with
      | none => exact ⟨fun e => (by cases e), fun a b n e => (by cases e)⟩
      | some ab => exact ⟨fun e => (by cases e), fun a b n e => by injection e with e1 e2 e3; rw [← e1, ← e2, ← e3, Nat.add_assoc]⟩
  · rw [if_neg c4, if_neg (fun e => c4 (q123.1 e))]
    exact ⟨fun _ => rfl, fun a b n e => (by cases e)⟩
/-- What is read in x, of what p alone answers: the same further on; or (weak) groups are too deep. -/
def Res (weak : Prop) (o g0 : Nat) (t : T) (j h : Nat) (r : PR) : Prop := (∃ t', r = .ok t' (o + j) (g0 + h) ∧ Up g0 t t') ∨ (weak ∧ ∃ pl, r = .bad 10 pl)
def DR (weak : Prop) (p : ByteArray) (o g0 : Nat) (dp dx : Option (Nat → Nat → PR)) : Prop := ∀ fp, dp = some fp →
  (∃ fx, dx = some fx ∧ ∀ i g t j h, i ≤ p.size → j < p.size → g0 + h ≤ 998 → fp i g = .ok t j h → Res weak o g0 t j h (fx (o + i) (g0 + g))) ∨ (weak ∧ dx = none)
variable {weak : Prop} {g0 : Nat} {dp dx : Option (Nat → Nat → PR)} {ic nl : Bool}
theorem group_sh (h : Emb x p o v) (hd : DR weak p o g0 dp dx) (hf : ∀ f, dp = some f → ∀ i g, i ≤ p.size → (f i g).Fine p i g 0) {i g j q : Nat} {t : T} (hi : i < p.size) (hq : g0 + q ≤ 998) (hg : groupP p 1 dp i g = .ok t j q) : Res weak o g0 t j q (groupP x 1 dx (o + i) (g0 + g)) := by
  have hz := h.size
  unfold groupP at hg
  cases dp with
  | none => cases hg
  | some fp =>
    have hfi := hf fp rfl (i + 1) (g + 1) (by omega)
    simp only at hg
    cases hr : fp (i + 1) (g + 1) with
    | bad c pl => rw [hr] at hg; cases hg
    | ok t1 j1 h1 =>
      rw [hr] at hg hfi
      simp only at hg
      split at hg
      · rename_i hj
        injection hg with e1 e2 e3
        simp only [PR.Fine] at hfi
        rcases hd fp rfl with ⟨fx, rfl, hx⟩ | ⟨hw, rfl⟩
        · have hx1 := hx (i + 1) (g + 1) t1 j1 h1 (by omega) hj (by omega) hr
          have hx2 : Res weak o g0 t1 j1 h1 (fx (o + i + 1) (g0 + g + 1)) := hx1
          unfold groupP
          rcases hx2 with ⟨t', ht', hu⟩ | ⟨hw, pl, hb⟩
          · simp only [ht', if_pos (show o + j1 < x.size by omega)]
            refine .inl ⟨grpT ((g0 + g + 1 : Nat) : Int) t', by rw [← e2, ← e3, Nat.add_assoc, Nat.add_assoc], ?_⟩
            rw [← e1]
            exact hu.grp (by omega)
          · exact .inr ⟨hw, pl, by simp only [hb]⟩
        · exact .inr ⟨hw, _, rfl⟩
      · cases hg
theorem atom_sh (h : Emb x p o v) (hd : DR weak p o g0 dp dx) (hf : ∀ f, dp = some f → ∀ i g, i ≤ p.size → (f i g).Fine p i g 0) {i g j q : Nat} {t : T} (hi : i < p.size) (hq : g0 + q ≤ 998) (hg : atomE p ic nl dp i g = .ok t j q) : Res weak o g0 t j q (atomE x ic nl dx (o + i) (g0 + g)) := by
  have hz := h.size
  have e0 := h.at_ i hi
  unfold atomE at hg ⊢
  rw [e0]
  by_cases c1 : pb p i = 46
  · rw [if_pos c1] at hg ⊢
    injection hg with e1 e2 e3
    exact .inl ⟨_, by rw [← e2, ← e3, Nat.add_assoc], by rw [← e1]; exact Up.byt _ _⟩
  rw [if_neg c1] at hg ⊢
  by_cases c2 : pb p i = 91
  · rw [if_pos c2] at hg ⊢
    obtain ⟨rfl, S, rfl, hs⟩ := h.set (g0 := g0) hg
    exact .inl ⟨_, hs, Up.byt _ _⟩
  rw [if_neg c2] at hg ⊢
  by_cases c3 : pb p i = 40
  · rw [if_pos c3] at hg ⊢
    exact group_sh h hd hf hi hq hg
  rw [if_neg c3] at hg ⊢
  by_cases c4 : pb p i = 92
  · rw [if_pos c4] at hg ⊢
    split at hg
    · rename_i hc
      rw [Nat.add_assoc, h.at_ _ hc.1, if_pos ⟨by omega, hc.2⟩]
      injection hg with e1 e2 e3
      exact .inl ⟨_, by rw [← e2, ← e3, Nat.add_assoc], by rw [← e1]; exact Up.byt _ _⟩
    · cases hg
  rw [if_neg c4] at hg ⊢
  injection hg with e1 e2 e3
  exact .inl ⟨_, by rw [← e2, ← e3, Nat.add_assoc], by rw [← e1]; exact Up.byt _ _⟩
theorem piece_sh (h : Emb x p o v) (hd : DR weak p o g0 dp dx) (hf : ∀ f, dp = some f → ∀ i g, i ≤ p.size → (f i g).Fine p i g 0) {i g j q : Nat} {t : T} (hi : i < p.size) (hq : g0 + q ≤ 998) (hg : pieceE p ic nl dp i g = .ok t j q) : Res weak o g0 t j q (pieceE x ic nl dx (o + i) (g0 + g)) := by
  have hz := h.size
  have e0 := h.at_ i hi
  unfold pieceE at hg ⊢
  rw [e0]
  by_cases c1 : pb p i = 94
  · rw [if_pos c1] at hg ⊢
    injection hg with e1 e2 e3
    exact .inl ⟨_, by rw [← e2, ← e3, Nat.add_assoc], by rw [← e1]; exact Up.beg _⟩
  rw [if_neg c1] at hg ⊢
  by_cases c2 : pb p i = 36
  · rw [if_pos c2] at hg ⊢
    injection hg with e1 e2 e3
    exact .inl ⟨_, by rw [← e2, ← e3, Nat.add_assoc], by rw [← e1]; exact Up.end_ _⟩
  rw [if_neg c2] at hg ⊢
  by_cases c3 : pb p i = 42 ∨ pb p i = 43 ∨ pb p i = 63 ∨ pb p i = 123
  · rw [if_pos c3] at hg; cases hg
  rw [if_neg c3] at hg ⊢
  have hfa := atomE_fine (ic := ic) (nl := nl) hf (g := g) hi
  cases ha : atomE p ic nl dp i g with
  | bad c pl => rw [ha] at hg; cases hg
  | ok t1 j1 h1 =>
    rw [ha] at hg hfa
    simp only at hg
    simp only [PR.Fine] at hfa
    obtain ⟨hr1, hr2⟩ := h.repE (i := j1) (by omega)
    have hle := fun a b n => repE_le (p := p) (i := j1) (a := a) (b := b) (n := n)
    unfold withRep at hg
    cases hr : Proofs.YtfehmfifjidjjaaDoor.repE p j1 with
    | no =>
      rw [hr] at hg
      simp only at hg
      injection hg with e1 e2 e3
      subst e1 e2 e3
      rcases atom_sh h hd hf hi hq ha with ⟨t', ht', hu⟩ | ⟨hw, pl, hb⟩
      · refine .inl ⟨t', ?_, hu⟩
        simp only [ht', hr1 hr]
        rfl
      · exact .inr ⟨hw, pl, by simp only [hb]⟩
    | bad c => rw [hr] at hg; cases hg
    | yes a b n =>
      rw [hr] at hg
      simp only at hg
      split at hg
      · cases hg
      · rename_i hsz
        injection hg with e1 e2 e3
        subst e2 e3
        rcases atom_sh h hd hf hi hq ha with ⟨t', ht', hu⟩ | ⟨hw, pl, hb⟩
        · have hur := hu.rep (hle a b n hr).1 (hle a b n hr).2
          refine .inl ⟨repT a b t', ?_, by rw [← e1]; exact hur⟩
          simp only [ht', hr2 a b n hr]
          unfold withRep
          simp only
          rw [if_neg (by rw [hur.full]; exact hsz)]
        · exact .inr ⟨hw, pl, by simp only [hb]⟩
theorem branch_sh (h : Emb x p o v) (hd : DR weak p o g0 dp dx) (hf : ∀ f, dp = some f → ∀ i g, i ≤ p.size → (f i g).Fine p i g 0) {dep dex : Bool} (hdd : dep = true → dex = true) (h41 : v = 41 → dex = true) : ∀ (n n' i g : Nat) (acc acc' : List T) (t : T) (j q : Nat), n ≤ n' → i ≤ p.size → g0 + q ≤ 998 → UpL g0 acc acc' →
    branchE p ic nl dp dep n i g acc = .ok t j q → Res weak o g0 t j q (branchE x ic nl dx dex n' (o + i) (g0 + g) acc')
  | 0, _, i, g, acc, acc', t, j, q, _, _, _, _, e => by cases e
  | n + 1, 0, i, g, acc, acc', t, j, q, hn, _, _, _, e => by omega
  | n + 1, n' + 1, i, g, acc, acc', t, j, q, hn, hi, hq, hac, e => by
    have hz := h.size
    have hv := h.ok
    have hfb := branchE_fine (ic := ic) (nl := nl) (deep := dep) hf (n + 1) i g acc t j q hi e
    rw [branchE] at e ⊢
    by_cases c1 : ¬ i < p.size ∨ pb p i = 124
    · rw [if_pos c1] at e
      injection e with e1 e2 e3
      subst e1 e2 e3
      have hfin : Res weak o g0 (T.seq acc) i g (.ok (T.seq acc') (o + i) (g0 + g)) := .inl ⟨_, rfl, Up.seq hac⟩
      by_cases c2 : i < p.size
      · have c3 : pb p i = 124 := c1.resolve_left (fun hh => hh c2)
        rw [if_pos (.inr (by rw [h.at_ i c2]; exact c3))]
        exact hfin
      · have hip : i = p.size := by omega
        rw [hip] at hfin ⊢
        rcases hv with rfl | rfl | rfl
        · rw [if_pos (.inl (fun hh => by have := pb_lt hh; rw [h.stop] at this; omega))]
          exact hfin
        · rw [if_pos (.inr h.stop)]
          exact hfin
        · rw [h.stop, if_neg, if_pos rfl, if_pos (h41 rfl)]
          · exact hfin
          · have := pb_ins h.stop (by decide)
            omega
    rw [if_neg c1] at e
    have hip : i < p.size := Decidable.byContradiction fun hh => c1 (.inl hh)
    rw [if_neg (by rw [h.at_ i hip]; intro hh; rcases hh with hh | hh; exact hh (by omega); exact c1 (.inr hh)), h.at_ i hip]
    by_cases c2 : pb p i = 41
    · rw [if_pos c2] at e ⊢
      cases hdp : dep with
      | false => rw [hdp] at e; cases e
      | true =>
        rw [hdp] at e
        rw [if_pos rfl] at e
        rw [if_pos (hdd hdp)]
        injection e with e1 e2 e3
        subst e1 e2 e3
        exact .inl ⟨_, rfl, Up.seq hac⟩
    rw [if_neg c2] at e ⊢
    have hfp := pieceE_fine (ic := ic) (nl := nl) hf (g := g) hip
    cases hp : pieceE p ic nl dp i g with
    | bad c pl => rw [hp] at e; cases e
    | ok u k r =>
      rw [hp] at e hfp
      simp only at e
      simp only [PR.Fine] at hfp
      have hfr := branchE_fine (ic := ic) (nl := nl) (deep := dep) hf n k r (acc ++ [u]) t j q (by omega) e
      rcases piece_sh h hd hf hip (by omega) hp with ⟨u', hu', hup⟩ | ⟨hw, pl, hb⟩
      · simp only [hu']
        exact branch_sh h hd hf hdd h41 n n' k r (acc ++ [u]) (acc' ++ [u']) t j q (by omega) (by omega) hq (hac.snoc hup) e
      · exact .inr ⟨hw, pl, by simp only [hb]⟩
theorem patt_sh (h : Emb x p o v) (hd : DR weak p o g0 dp dx) (hf : ∀ f, dp = some f → ∀ i g, i ≤ p.size → (f i g).Fine p i g 0) {dep dex : Bool} (hdd : dep = true → dex = true) (h41 : v = 41 → dex = true) : ∀ (n n' i g : Nat) (acc acc' : List T) (t : T) (j q : Nat), n ≤ n' → i ≤ p.size → g0 + q ≤ 998 → UpL g0 acc acc' → (j < p.size ∨ v ≠ 124) →
    pattE p ic nl dp dep n i g acc = .ok t j q → Res weak o g0 t j q (pattE x ic nl dx dex n' (o + i) (g0 + g) acc')
  | 0, _, i, g, acc, acc', t, j, q, _, _, _, _, _, e => by cases e
  | n + 1, 0, i, g, acc, acc', t, j, q, hn, _, _, _, _, e => by omega
  | n + 1, n' + 1, i, g, acc, acc', t, j, q, hn, hi, hq, hac, hjv, e => by
    have hz := h.size
    rw [pattE] at e ⊢
    cases hb : branchE p ic nl dp dep (p.size + 1) i g [] with
    | bad c pl => rw [hb] at e; cases e
    | ok u k r =>
      rw [hb] at e
      simp only at e
      have hfb := branchE_fine (ic := ic) (nl := nl) (deep := dep) hf _ _ _ _ _ _ _ hi hb
      by_cases c1 : pb p k = 124
      · rw [if_pos c1] at e
        have hk := pb_ins c1 (by decide)
        have hfp := pattE_fine (ic := ic) (nl := nl) (deep := dep) hf n (k + 1) r (acc ++ [u]) t j q (by omega) e
        rcases branch_sh h hd hf hdd h41 (p.size + 1) (x.size + 1) i g [] [] u k r (by omega) hi (by omega) (UpL.nil _) hb with ⟨u', hu', hup⟩ | ⟨hw, pl, hbb⟩
        · simp only [hu']
          rw [if_pos (h.eq c1 (by decide))]
          exact patt_sh h hd hf hdd h41 n n' (k + 1) r (acc ++ [u]) (acc' ++ [u']) t j q (by omega) (by omega) hq (hac.snoc hup) hjv e
        · exact .inr ⟨hw, pl, by simp only [hbb]⟩
      · rw [if_neg c1] at e
        injection e with e1 e2 e3
        subst e1 e2 e3
        rcases branch_sh h hd hf hdd h41 (p.size + 1) (x.size + 1) i g [] [] u k r (by omega) hi hq (UpL.nil _) hb with ⟨u', hu', hup⟩ | ⟨hw, pl, hbb⟩
        · simp only [hu']
          rw [if_neg]
          · exact .inl ⟨_, rfl, Up.alt (by simp) (hac.snoc hup)⟩
          · rcases hjv with hjv | hjv
            · rw [h.at_ k hjv]; exact c1
            · exact h.ne (by omega) hjv c1
        · exact .inr ⟨hw, pl, by simp only [hbb]⟩
theorem deep_sh (h : Emb x p o v) {dep dex : Bool} (hdd : dep = true → dex = true) (h41 : v = 41 → dex = true) : ∀ (k k' i g : Nat) (t : T) (j q : Nat), (k ≤ k' ∨ weak) → i ≤ p.size → g0 + q ≤ 998 → (j < p.size ∨ v ≠ 124) →
    deepE p ic nl k dep i g = .ok t j q → Res weak o g0 t j q (deepE x ic nl k' dex (o + i) (g0 + g)) := by
  intro k
  induction k generalizing dep dex with
  | zero =>
    intro k' i g t j q hk hi hq hjv e
    rw [deepE] at e
    cases k' <;> rw [deepE] <;> exact patt_sh h (fun fp hfp => by cases hfp) (fun fp hfp => by cases hfp) hdd h41 (p.size + 1) (x.size + 1) i g [] [] t j q (by have := h.size; omega) hi hq (UpL.nil _) hjv e
  | succ k ih =>
    intro k' i g t j q hk hi hq hjv e
    rw [deepE] at e
    have hfine : ∀ f, some (deepE p ic nl k true) = some f → ∀ i g, i ≤ p.size → (f i g).Fine p i g 0 := fun f hf i g hi => by
      injection hf with hf
      subst hf
      exact deepE_fine k true i g hi
    cases k' with
    | zero =>
      rw [deepE]
      refine patt_sh h (fun fp hfp => .inr ⟨hk.resolve_left (by omega), rfl⟩) hfine hdd h41 (p.size + 1) (x.size + 1) i g [] [] t j q (by have := h.size; omega) hi hq (UpL.nil _) hjv e
    | succ k' =>
      rw [deepE]
      refine patt_sh h (fun fp hfp => .inl ⟨_, rfl, fun i g t j q hi hj hq e => ?_⟩) hfine hdd h41 (p.size + 1) (x.size + 1) i g [] [] t j q (by have := h.size; omega) hi hq (UpL.nil _) hjv e
      injection hfp with hfp
      subst hfp
      exact ih (dep := true) (dex := true) (fun _ => rfl) (fun _ => rfl) k' i g t j q (hk.imp (fun h => by omega) id) hi hq (.inl hj) e
end
section
variable {x p q : ByteArray} {ic nl : Bool}
theorem branchE_stop {dp : Option (Nat → Nat → PR)} {deep : Bool} {n i g : Nat} {acc : List T} (hn : 0 < n) (h : ¬ i < p.size ∨ pb p i = 124) : branchE p ic nl dp deep n i g acc = .ok (T.seq acc) i g := by
  cases n with
  | zero => omega
  | succ n => rw [branchE, if_pos h]
theorem branch_end {dp : Option (Nat → Nat → PR)} : ∀ (n i g : Nat) (acc : List T) (t : T) (j h : Nat), branchE p ic nl dp false n i g acc = .ok t j h → ¬ j < p.size ∨ pb p j = 124
  | 0, i, g, acc, t, j, h, e => by cases e
  | n + 1, i, g, acc, t, j, h, e => by
    rw [branchE] at e
    split at e
    · rename_i hc
      injection e with e1 e2 e3
      rw [← e2]; exact hc
    · split at e
      · cases e
      · split at e
        · cases e
        · exact branch_end n _ _ _ t j h e
theorem patt_end {dp : Option (Nat → Nat → PR)} : ∀ (n i g : Nat) (acc : List T) (t : T) (j h : Nat), pattE p ic nl dp false n i g acc = .ok t j h → ¬ j < p.size
  | 0, i, g, acc, t, j, h, e => by cases e
  | n + 1, i, g, acc, t, j, h, e => by
    rw [pattE] at e
    cases hb : branchE p ic nl dp false (p.size + 1) i g [] with
    | bad c pl => rw [hb] at e; cases e
    | ok u k r =>
      rw [hb] at e
      simp only at e
      have := branch_end _ _ _ _ _ _ _ hb
      split at e
      · exact patt_end n _ _ _ t j h e
      · rename_i hc
        injection e with e1 e2 e3
        rw [← e2]; exact this.resolve_right hc
theorem patt_many {dp : Option (Nat → Nat → PR)} {deep : Bool} : ∀ (n i g : Nat) (acc : List T) (t : T) (j h : Nat), acc ≠ [] → pattE p ic nl dp deep n i g acc = .ok t j h → t.hd.kind = 6
  | 0, i, g, acc, t, j, h, _, e => by cases e
  | n + 1, i, g, acc, t, j, h, ha, e => by
    rw [pattE] at e
    split at e
    · cases e
    · split at e
      · exact patt_many n _ _ _ t j h (by simp) e
      · injection e with e1 e2 e3
        rw [← e1]
        match acc, ha with
        | [a], _ => rfl
        | a :: b :: r, _ => rfl
theorem patt_one {dp : Option (Nat → Nat → PR)} {deep : Bool} {n i g j h : Nat} {t : T} (e : pattE p ic nl dp deep n i g [] = .ok t j h) (ht : t.hd.kind ≠ 6) : branchE p ic nl dp deep (p.size + 1) i g [] = .ok t j h := by
  cases n with
  | zero => cases e
  | succ n =>
    rw [pattE] at e
    cases hb : branchE p ic nl dp deep (p.size + 1) i g [] with
    | bad c pl => rw [hb] at e; cases e
    | ok u k r =>
      rw [hb] at e
      simp only at e
      split at e
      · exact absurd (patt_many n _ _ _ t j h (by simp) e) ht
      · exact e
theorem parse_in {t : T} {j n : Nat} (h : parseE p ic nl = .ok t j n) : deepE p ic nl 32 false 0 0 = .ok t p.size n ∧ p.size ≤ 1024 ∧ 2 * n ≤ p.size ∧ t.fullSize ≤ 2000 := by
  unfold parseE at h
  split at h
  · cases h
  · rename_i hs
    cases hd : deepE p ic nl 32 false 0 0 with
    | bad c pl => rw [hd] at h; cases h
    | ok u k r =>
      rw [hd] at h
      simp only [wholeP] at h
      split at h
      · cases h
      · rename_i hz
        injection h with e1 e2 e3
        subst e1 e2 e3
        have h1 := deepE_fine (ic := ic) (nl := nl) (p := p) 32 false 0 0 (Nat.zero_le _)
        have h2 := deepE_gd (ic := ic) (nl := nl) (p := p) (by omega) 32 false 0 0 0 rfl (Nat.zero_le _) (by omega)
        have h3 : ¬ k < p.size := by
          rw [deepE] at hd
          exact patt_end _ _ _ _ _ _ _ hd
        rw [hd] at h1 h2
        simp only [PR.Fine] at h1
        simp only [PR.Gd] at h2
        have : k = p.size := by omega
        subst this
        exact ⟨rfl, by omega, by have := h2.2; omega, by omega⟩
/-- A pattern in brackets. -/
theorem join_group {t : T} {j n : Nat} (h : parseE p ic nl = .ok t j n) (hx : Emb x p 1 41) (h0 : pb x 0 = 40) (hs : x.size = p.size + 2) (hs2 : x.size ≤ 1024) :
    match parseE x ic nl with
    | .bad c _ => c = 9 ∨ c = 10
    | .ok t' _ k => k = n + 1 ∧ t' = grpT 1 (t.raise 1) := by
  obtain ⟨hd, hp, hn, hf⟩ := parse_in h
  have hr := deep_sh (weak := True) (ic := ic) (nl := nl) (g0 := 1) hx (dep := false) (dex := true) (fun _ => rfl) (fun _ => rfl) 32 31 0 0 t p.size n (.inr trivial) (Nat.zero_le _) (by omega) (.inr (by decide)) hd
  have hr2 : Res True 1 1 t p.size n (deepE x ic nl 31 true 1 1) := hr
  have hG : (∃ t', groupP x 1 (some (deepE x ic nl 31 true)) 0 0 = .ok (grpT 1 t') (p.size + 2) (n + 1) ∧ Up 1 t t') ∨ ∃ pl, groupP x 1 (some (deepE x ic nl 31 true)) 0 0 = .bad 10 pl := by
    rcases hr2 with ⟨t', ht', hu⟩ | ⟨_, pl, hb⟩
    · refine .inl ⟨t', ?_, hu⟩
      unfold groupP
      simp only [Nat.zero_add, ht']
      rw [if_pos (by omega)]
      congr 1 <;> omega
    · refine .inr ⟨pl, ?_⟩
      unfold groupP
      simp only [Nat.zero_add, hb]
  have hat : atomE x ic nl (some (deepE x ic nl 31 true)) 0 0 = groupP x 1 (some (deepE x ic nl 31 true)) 0 0 := by
    unfold atomE
    rw [h0]; rfl
  have hpi : pieceE x ic nl (some (deepE x ic nl 31 true)) 0 0 = (match groupP x 1 (some (deepE x ic nl 31 true)) 0 0 with
      | .bad c pl => .bad c pl
      | .ok t j h => withRep (repE x j) t j h) := by
    unfold pieceE
    rw [h0, hat]; rfl
  have hrn : repE x (p.size + 2) = .no := by
    unfold repE
    rw [pb_none (by omega)]; rfl
  have hxs : 0 < x.size := by omega
  have hbr : branchE x ic nl (some (deepE x ic nl 31 true)) false (x.size + 1) 0 0 [] = (match pieceE x ic nl (some (deepE x ic nl 31 true)) 0 0 with
      | .bad c pl => .bad c pl
      | .ok t j h => branchE x ic nl (some (deepE x ic nl 31 true)) false x.size j h ([] ++ [t])) := by
    rw [branchE, h0, if_neg (by omega), if_neg (by decide)]; rfl
  unfold parseE
  rw [if_neg (by omega), deepE, pattE, hbr, hpi]
  rcases hG with ⟨t', ht', hu⟩ | ⟨pl, hb⟩
  · rw [ht']
    simp only [hrn, withRep]
    rw [branchE_stop hxs (.inl (by omega))]
    simp only
    rw [pb_none (by omega), if_neg (by decide)]
    have hw : ∀ u : T, wholeP x (.ok u (p.size + 2) (n + 1)) = if 2000 < u.fullSize then .bad 9 x.size else .ok u (p.size + 2) (n + 1) := fun u => rfl
    rw [show T.alt ([] ++ [T.seq ([] ++ [grpT 1 t'])]) = grpT 1 t' from rfl, hw]
    by_cases hbig : 2000 < (grpT 1 t').fullSize
    · rw [if_pos hbig]
      exact .inl rfl
    · rw [if_neg hbig]
      exact ⟨rfl, by rw [← hu.r]; rfl⟩
  · rw [hb]
    exact .inr rfl
/-- Two patterns with a bar between. -/
theorem join_alt {t u : T} {j j' n m : Nat} (h : parseE p ic nl = .ok t j n) (h' : parseE q ic nl = .ok u j' m) (ht : t.hd.kind ≠ 6) (hu : u.hd.kind ≠ 6) (hx : Emb x p 0 124) (hx' : Emb x q (p.size + 1) 256) (hs : x.size = p.size + 1 + q.size) (hs2 : x.size ≤ 1024) :
    parseE x ic nl = if 2000 < (T.mk ⟨6, 0, 0, 0, 0, 0, 0, 0, false⟩ [t, u.raise n]).fullSize then .bad 9 x.size else .ok (T.mk ⟨6, 0, 0, 0, 0, 0, 0, 0, false⟩ [t, u.raise n]) x.size (n + m) := by
  obtain ⟨hd, hp, hn, hf⟩ := parse_in h
  obtain ⟨hd', hp', hn', hf'⟩ := parse_in h'
  rw [deepE] at hd hd'
  have hb := patt_one hd ht
  have hb' := patt_one hd' hu
  have hDR : ∀ (p : ByteArray) (o v g0 : Nat), Emb x p o v → DR False p o g0 (some (deepE p ic nl 31 true)) (some (deepE x ic nl 31 true)) := fun p o v g0 hx fp hfp => by
    refine .inl ⟨_, rfl, fun i g t j h hi hj hq e => ?_⟩
    injection hfp with hfp
    subst hfp
    exact deep_sh hx (dep := true) (dex := true) (fun _ => rfl) (fun _ => rfl) 31 31 i g t j h (.inl (Nat.le_refl _)) hi hq (.inl hj) e
  have hfine : ∀ (p : ByteArray) (f : Nat → Nat → PR), some (deepE p ic nl 31 true) = some f → ∀ i g, i ≤ p.size → (f i g).Fine p i g 0 := fun p f hf i g hi => by
    injection hf with hf
    subst hf
    exact deepE_fine 31 true i g hi
  have r1 := branch_sh (weak := False) (g0 := 0) (dex := false) hx (hDR p 0 124 0 hx) (hfine p) (by simp) (by decide) (p.size + 1) (x.size + 1) 0 0 [] [] t p.size n (by omega) (Nat.zero_le _) (by omega) (UpL.nil _) hb
  have r2 := branch_sh (weak := False) (g0 := n) (dex := false) hx' (hDR q (p.size + 1) 256 n hx') (hfine q) (by simp) (by decide) (q.size + 1) (x.size + 1) 0 0 [] [] u q.size m (by omega) (Nat.zero_le _) (by omega) (UpL.nil _) hb'
  obtain ⟨t', ht', hut⟩ := r1.resolve_right (fun hh => hh.1)
  obtain ⟨u', hu', huu⟩ := r2.resolve_right (fun hh => hh.1)
  have et := hut.z rfl
  subst et
  have eu := huu.r
  have ht2 : branchE x ic nl (some (deepE x ic nl 31 true)) false (x.size + 1) 0 0 [] = .ok t' p.size n := by
    have := ht'
    simp only [Nat.zero_add] at this
    exact this
  have hu2 : branchE x ic nl (some (deepE x ic nl 31 true)) false (x.size + 1) (p.size + 1) n [] = .ok u' x.size (n + m) := by
    have := hu'
    rw [hs]
    rw [hs] at this
    exact this
  obtain ⟨k, hk⟩ : ∃ k, x.size = k + 1 := ⟨p.size + q.size, by omega⟩
  unfold parseE
  rw [if_neg (by omega), deepE, pattE, ht2]
  simp only
  have h124 : pb x p.size = 124 := by have := hx.stop; rwa [Nat.zero_add] at this
  rw [if_pos h124]
  obtain ⟨s, hse⟩ : ∃ s, s = x.size := ⟨_, rfl⟩
  have hpa : pattE x ic nl (some (deepE x ic nl 31 true)) false x.size (p.size + 1) n ([] ++ [t']) = .ok (T.alt ([] ++ [t'] ++ [u'])) x.size (n + m) := by
    have : ∀ f, f = k + 1 → pattE x ic nl (some (deepE x ic nl 31 true)) false f (p.size + 1) n ([] ++ [t']) = .ok (T.alt ([] ++ [t'] ++ [u'])) x.size (n + m) := fun f hf => by
      subst hf
      rw [pattE, hu2]
      simp only
      rw [pb_none (Nat.lt_irrefl _), if_neg (by decide)]
    exact this _ hk
  rw [hpa, eu]
  rfl
end
end Go.Proofs.YtfehmfifjidjjaaDoor
