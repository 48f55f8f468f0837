/- What reading an extended pattern yields is a right, tidy tree, its groups numbered from the left; a fault's place is one of the pattern's, in plain Lean. -/
import Derived.Test.YtpkcklpjbeginaaGreatDoorEreP
set_option linter.unusedSimpArgs false
set_option linter.unusedVariables false
namespace Go.Proofs.YtpkcklpjbeginaaGreatDoor
open Go.RowKit

mutual
/-- What the law's tidy answers: the greatest group met so far; -1: the tree is not tidy. -/
def T.tid (na : Bool) : T → Int → Bool → Int
 | .mk h l, g, r => if (na && h.kind == 6) || h.bare || (r && h.kind == 8) then -1
  else if h.kind = 7 then (if h.num ≠ g + 1 then -1 else TL.tid na (h.kind == 8) l (g + 1))
  else TL.tid na (h.kind == 8) l g
def TL.tid (na k8 : Bool) : List T → Int → Int
 | [], g => g
 | t :: ts, g => if 0 ≤ g then TL.tid na k8 ts (t.tid na g k8) else g
end
/-- A tree that was read, g groups met ahead of it, h behind. -/
structure Gd (na : Bool) (t : T) (g h : Nat) (D : Int) : Prop where
 form : t.form = true
 dep : t.depth ≤ D
 tid : t.tid na g false = h
 tid8 : t.hd.kind ≠ 8 → t.tid na g true = h
 ge : g ≤ h
structure LGd (na : Bool) (l : List T) (g h : Nat) (D : Int) : Prop where
 form : TL.form l = true
 dep : ∀ t, t ∈ l → t.depth ≤ D
 tid : TL.tid na false l g = h
 ge : g ≤ h
theorem TL.tid_snoc (na k8 : Bool) (l : List T) (t : T) (g : Int) (h : 0 ≤ TL.tid na k8 l g) : TL.tid na k8 (l ++ [t]) g = t.tid na (TL.tid na k8 l g) k8 := by
 induction l generalizing g with
 | nil => simp only [List.nil_append, TL.tid] at h ⊢; rw [if_pos h]
 | cons x l ih =>
  simp only [List.cons_append, TL.tid] at h ⊢
  by_cases hg : 0 ≤ g
  ·rw [if_pos hg] at h ⊢
   rw [if_pos hg]
   exact ih _ h
  ·rw [if_neg hg] at h; omega
theorem TL.form_snoc (l : List T) (t : T) (h1 : TL.form l = true) (h2 : t.form = true) : TL.form (l ++ [t]) = true := by
 induction l with
 | nil => simp [TL.form, h2]
 | cons x l ih =>
  simp only [List.cons_append, TL.form, Bool.and_eq_true] at h1 ⊢
  exact ⟨h1.1, ih h1.2⟩
theorem LGd.nil (na : Bool) (g : Nat) (D : Int) : LGd na [] g g D := ⟨rfl, (fun t ht => by cases ht), rfl, Nat.le_refl _⟩
theorem LGd.snoc {na : Bool} {l : List T} {t : T} {g h k : Nat} {D : Int} (h1 : LGd na l g h D) (h2 : Gd na t h k D) : LGd na (l ++ [t]) g k D := by
 refine ⟨TL.form_snoc l t h1.form h2.form, fun s hs => ?_, ?_, Nat.le_trans h1.ge h2.ge⟩
 ·rcases List.mem_append.1 hs with hs | hs
  ·exact h1.dep s hs
  ·rw [List.mem_singleton.1 hs]; exact h2.dep
 ·rw [TL.tid_snoc na false l t _ (by rw [h1.tid]; omega), h1.tid, h2.tid]
theorem TL.depth_le : ∀ (l : List T) (n D : Int), n ≤ D → (∀ t, t ∈ l → t.depth ≤ D) → TL.depth l n ≤ D
 | [], n, D, h, _ => h
 | t :: ts, n, D, h, hl => by
  rw [TL.depth]
  exact TL.depth_le ts _ D (mx2_le h (hl t (List.mem_cons_self))) fun s hs => hl s (List.mem_cons_of_mem _ hs)
theorem node_depth (h : Hd) (l : List T) (D : Int) (hD : 0 ≤ D) (hl : ∀ t, t ∈ l → t.depth ≤ D) : (T.mk h l).depth ≤ D + 2 ∧ (h.kind ≠ 8 → (T.mk h l).depth ≤ D + 1) := by
 have h1 := TL.depth_le l 0 D hD hl
 rw [T.depth]
 refine ⟨by split <;> omega, fun hk => ?_⟩
 have : h.deeper l.length = false := by unfold Hd.deeper; simp [hk]
 rw [this]
 simp
 omega
theorem Gd.mono {na : Bool} {t : T} {g h : Nat} {D D' : Int} (h1 : Gd na t g h D) (hD : D ≤ D') : Gd na t g h D' := ⟨h1.form, by have := h1.dep; omega, h1.tid, h1.tid8, h1.ge⟩
theorem Gd.byt (na : Bool) (S : Nat → Bool) (g : Nat) : Gd na (bytT S) g g 1 := by
 refine ⟨rfl, Int.le_of_eq rfl, ?_, fun _ => ?_, Nat.le_refl _⟩ <;> simp [bytT, T.tid, TL.tid]
theorem Gd.beg (na : Bool) (g : Nat) : Gd na begT g g 1 := by
 refine ⟨rfl, Int.le_of_eq rfl, ?_, fun _ => ?_, Nat.le_refl _⟩ <;> simp [begT, T.tid, TL.tid]
theorem Gd.end_ (na : Bool) (g : Nat) : Gd na endT g g 1 := by
 refine ⟨rfl, Int.le_of_eq rfl, ?_, fun _ => ?_, Nat.le_refl _⟩ <;> simp [endT, T.tid, TL.tid]
theorem Gd.grp {na : Bool} {t : T} {g h : Nat} {D : Int} (h1 : Gd na t (g + 1) h D) (hg : g < 999) (hD : 0 ≤ D) : Gd na (grpT ((g + 1 : Nat) : Int) t) g h (D + 1) := by
 have ht : t.tid na ((g : Int) + 1) false = (h : Int) := h1.tid
 refine ⟨?_, ((node_depth _ [t] D hD (fun s hs => by rw [List.mem_singleton.1 hs]; exact h1.dep)).2 (show (7 : Int) ≠ 8 by decide)), ?_, fun _ => ?_, by have := h1.ge; omega⟩
 ·rw [T.form_eq]
  simp only [grpT, T.hd, T.subs, TL.form, h1.form, Bool.and_true]
  simp [Hd.formed, Hd.noSet, Hd.plain]
  omega
 ·simp [grpT, T.tid, TL.tid, ht]
  omega
 ·simp [grpT, T.tid, TL.tid, ht]
  omega
theorem Gd.rep {na : Bool} {t : T} {g h a : Nat} {b D : Int} (h1 : Gd na t g h D) (hk : t.hd.kind ≠ 8) (ha : a ≤ 255) (hb : b = -1 ∨ ((a : Int) ≤ b ∧ b ≤ 255)) (hD : 0 ≤ D) : Gd na (repT (a : Int) b t) g h (D + 2) := by
 have ht := h1.tid8 hk
 refine ⟨?_, ((node_depth _ [t] D hD (fun s hs => by rw [List.mem_singleton.1 hs]; exact h1.dep)).1), ?_, fun h8 => absurd rfl h8, h1.ge⟩
 ·rw [T.form_eq]
  simp only [repT, T.hd, T.subs, TL.form, h1.form, Bool.and_true]
  simp [Hd.formed, Hd.noSet, Hd.plain]
  omega
 ·simp [repT, T.tid, TL.tid, ht]
theorem Gd.seq {na : Bool} {l : List T} {g h : Nat} {D : Int} (h1 : LGd na l g h D) (hD : 0 ≤ D) : Gd na (T.seq l) g h (D + 1) := by
 match l, h1 with
 | [], h1 =>
  have he : g = h := by have := h1.tid; simp only [TL.tid] at this; omega
  subst he
  refine ⟨rfl, ?_, ?_, fun _ => ?_, Nat.le_refl _⟩
  ·have : (T.seq []).depth = 1 := rfl
   omega
  ·simp [T.seq, T.tid, TL.tid]
  ·simp [T.seq, T.tid, TL.tid]
 | [t], h1 =>
  have h2 := h1.tid
  simp only [TL.tid] at h2
  rw [if_pos (by omega)] at h2
  have h3 := h1.form
  simp only [TL.form, Bool.and_true] at h3
  refine ⟨h3, by have := h1.dep t (List.mem_singleton.2 rfl); show t.depth ≤ D + 1; omega, h2, fun hk => ?_, h1.ge⟩
  have : ∀ (t : T), t.hd.kind ≠ 8 → t.tid na g true = t.tid na g false := fun t hk => by
   cases t with
   | mk hh l => simp only [T.hd] at hk; simp [T.tid, hk]
  show t.tid na g true = h
  rw [this t hk]; exact h2
 | x :: y :: r, h1 =>
  have h2 := h1.tid
  refine ⟨?_, ((node_depth _ (x :: y :: r) D hD h1.dep).2 (by decide)), ?_, fun _ => ?_, h1.ge⟩
  ·rw [T.form_eq]
   simp only [T.seq, T.hd, T.subs, h1.form, Bool.and_true]
   simp [Hd.formed, Hd.noSet, Hd.plain]
   omega
  ·simp [T.seq, T.tid, h2]
  ·simp [T.seq, T.tid, h2]
theorem Gd.alt {l : List T} {g h : Nat} {D : Int} (h1 : LGd false l g h D) (hl : l ≠ []) (hD : 0 ≤ D) : Gd false (T.alt l) g h (D + 1) := by
 match l, h1 with
 | [], h1 => exact absurd rfl hl
 | [t], h1 =>
  have h2 := h1.tid
  simp only [TL.tid] at h2
  rw [if_pos (by omega)] at h2
  have h3 := h1.form
  simp only [TL.form, Bool.and_true] at h3
  refine ⟨h3, by have := h1.dep t (List.mem_singleton.2 rfl); show t.depth ≤ D + 1; omega, h2, fun hk => ?_, h1.ge⟩
  have : ∀ (t : T), t.hd.kind ≠ 8 → t.tid false g true = t.tid false g false := fun t hk => by
   cases t with
   | mk hh l => simp only [T.hd] at hk; simp [T.tid, hk]
  show t.tid false g true = h
  rw [this t hk]; exact h2
 | x :: y :: r, h1 =>
  have h2 := h1.tid
  refine ⟨?_, ((node_depth _ (x :: y :: r) D hD h1.dep).2 (by decide)), ?_, fun _ => ?_, h1.ge⟩
  ·rw [T.form_eq]
   simp only [T.alt, T.hd, T.subs, h1.form, Bool.and_true]
   simp [Hd.formed, Hd.noSet, Hd.plain]
   omega
  ·simp [T.alt, T.tid, h2]
  ·simp [T.alt, T.tid, h2]
/-- What reading yields is good. -/
def PR.Gd (na : Bool) (r : PR) (p : ByteArray) (g dd : Nat) (D : Int) : Prop := match r with
 | .ok t j h => Proofs.YtpkcklpjbeginaaGreatDoor.Gd na t g h D ∧ 2 * h ≤ j + dd
 | .bad _ pl => 0 ≤ pl ∧ pl ≤ p.size
theorem itemP_place {p : ByteArray} {i z : Nat} (hi : i < p.size) (hz : z ≤ p.size) {c : Nat} {pl : Int} (h : itemP p i (z : Int) = .bad c pl) : 0 ≤ pl ∧ pl ≤ p.size := by
 unfold itemP at h
 split at h
 ·injection h with _ h; omega
 ·split at h
  ·unfold namedP at h
   split at h
   ·injection h with _ h; omega
   ·split at h
    ·cases h
    ·injection h with _ h; omega
  ·split at h
   ·split at h
    ·injection h with _ h; omega
    ·split at h
     ·injection h with _ h; omega
     ·cases h
   ·cases h
theorem loopP_place {p : ByteArray} {z f : Nat} (hz : z ≤ p.size) : ∀ (n i : Nat) (S : Nat → Bool) (c : Nat) (pl : Int), loopP p z f n i S = .bad c pl → 0 ≤ pl ∧ pl ≤ p.size
 | 0, i, S, c, pl, h => by injection h with _ h; omega
 | n + 1, i, S, c, pl, h => by
  rw [loopP] at h
  split at h
  ·injection h with _ h; omega
  ·split at h
   ·cases h
   ·split at h
    ·rename_i g y hi
     injection h with h1 h2
     subst h2
     exact itemP_place (by omega) hz hi
    ·exact loopP_place hz n _ _ c pl h
theorem readP_place {p : ByteArray} {z : Nat} (hz : z ≤ p.size) {ic nl : Bool} {c : Nat} {pl : Int} (h : readP p z ic nl = .bad c pl) : 0 ≤ pl ∧ pl ≤ p.size := by
 unfold readP at h
 obtain ⟨st, hst⟩ : ∃ st, st = (if pb p (z + 1) = 94 then z + 2 else z + 1) := ⟨_, rfl⟩
 rw [← hst] at h
 clear hst
 cases hl : loopP p z st (p.size + 1) st (fun _ => false) with
 | good S m => rw [hl] at h; cases h
 | bad c2 pl2 =>
  rw [hl] at h
  simp only [outP, R5.bad.injEq] at h
  rw [← h.2]
  exact loopP_place hz _ _ _ _ _ hl
theorem setAt_gd (na : Bool) (p : ByteArray) (ic nl : Bool) (i g dd : Nat) (hi : i < p.size) (hg : 2 * g ≤ i + dd) : (setAt p ic nl i g).Gd na p g dd 1 ∧ ∀ t j h, setAt p ic nl i g = .ok t j h → t.hd.kind ≠ 8 := by
 unfold setAt
 cases h : readP p i ic nl with
 | bad c pl => exact ⟨readP_place (by omega) h, fun t j h e => by cases e⟩
 | good S n => exact ⟨⟨Gd.byt na S g, by have := readP_next h; omega⟩, fun t j h e => by injection e with e; rw [← e]; exact (by first | (show (2 : Int) ≠ 8; decide) | (show (7 : Int) ≠ 8; decide))⟩
/-- What the deeper reader yields. -/
def DGd (na : Bool) (p : ByteArray) (deeper : Option (Nat → Nat → PR)) (dd : Nat) (D : Int) : Prop := ∀ f, deeper = some f → ∀ i g, i ≤ p.size → 2 * g ≤ i + (dd + 1) → (f i g).Gd na p g (dd + 1) D
theorem groupP_gd {na : Bool} {p : ByteArray} {m dd : Nat} {deeper : Option (Nat → Nat → PR)} {D : Int} (hdd : dd ≤ 32) (hD : 0 ≤ D) (hd : DGd na p deeper dd D) (hp : p.size ≤ 1024) {i g : Nat} (hm : 1 ≤ m) (hi : i + m ≤ p.size) (hg : 2 * g ≤ i + dd) : (groupP p m deeper i g).Gd na p g dd (D + 1) ∧ ∀ t j h, groupP p m deeper i g = .ok t j h → t.hd.kind ≠ 8 := by
 unfold groupP
 split
 ·exact ⟨⟨by omega, by omega⟩, fun t j h e => by cases e⟩
 ·rename_i f
  have h1 := hd f rfl (i + m) (g + 1) (by omega) (by omega)
  cases hf : f (i + m) (g + 1) with
  | bad c pl => rw [hf] at h1; exact ⟨h1, fun t j h e => by cases e⟩
  | ok t j h =>
   rw [hf] at h1
   simp only
   split
   ·exact ⟨⟨Gd.grp h1.1 (by omega) hD, by have := h1.2; omega⟩, fun t j h e => by injection e with e; rw [← e]; exact (by first | (show (2 : Int) ≠ 8; decide) | (show (7 : Int) ≠ 8; decide))⟩
   ·exact ⟨⟨by omega, by omega⟩, fun t j h e => by cases e⟩
theorem numP_le {s : ByteArray} {n : Nat} (h : numP s = some n) : n ≤ 255 := by
 unfold numP at h
 split at h
 ·cases h
 ·split at h
  ·cases h
  ·split at h
   ·have := Option.some.inj h; omega
   ·cases h
theorem countsP_le {s : ByteArray} {a : Nat} {b : Int} (h : countsP s = some (a, b)) : a ≤ 255 ∧ (b = -1 ∨ ((a : Int) ≤ b ∧ b ≤ 255)) := by
 unfold countsP at h
 split at h
 ·split at h
  ·cases h
  ·rename_i n hn
   have := numP_le hn
   simp only [Option.some.injEq, Prod.mk.injEq] at h
   omega
 ·split at h
  ·cases h
  ·rename_i n hn
   have := numP_le hn
   split at h
   ·simp only [Option.some.injEq, Prod.mk.injEq] at h
    omega
   ·split at h
    ·cases h
    ·rename_i k hk
     have := numP_le hk
     split at h
     ·simp only [Option.some.injEq, Prod.mk.injEq] at h
      omega
     ·cases h
theorem repE_le {p : ByteArray} {i a n : Nat} {b : Int} (h : repE p i = .yes a b n) : a ≤ 255 ∧ (b = -1 ∨ ((a : Int) ≤ b ∧ b ≤ 255)) := by
 unfold repE at h
 split at h
 ·injection h; omega
 split at h
 ·injection h; omega
 split at h
 ·injection h; omega
 split at h
 ·split at h
  ·cases h
  ·split at h
   ·cases h
   ·rename_i a' b' hc
    have := countsP_le hc
    injection h; omega
 ·cases h
theorem withRep_gd {na : Bool} {p : ByteArray} {r : RR} {t : T} {g j h dd : Nat} {D : Int} (hD : 0 ≤ D) (hn : ∀ a b n, r = .yes a b n → j < n ∧ n ≤ p.size) (hr : ∀ a b n, r = .yes a b n → a ≤ 255 ∧ (b = -1 ∨ ((a : Int) ≤ b ∧ b ≤ 255))) (ht : Gd na t g h D) (h2 : 2 * h ≤ j + dd) (hk : t.hd.kind ≠ 8) (hj : j ≤ p.size) : (withRep r t j h).Gd na p g dd (D + 2) := by
 unfold withRep
 split
 ·exact ⟨ht.mono (by omega), h2⟩
 ·exact ⟨by omega, by omega⟩
 ·rename_i a b n
  have hn2 := hn a b n rfl
  have := hr a b n rfl
  split
  ·exact ⟨by omega, by omega⟩
  ·exact ⟨Gd.rep ht hk this.1 this.2 hD, by omega⟩
theorem atomE_gd {p : ByteArray} {ic nl : Bool} {deeper : Option (Nat → Nat → PR)} {dd : Nat} {D : Int} (hdd : dd ≤ 32) (hD : 0 ≤ D) (hd : DGd false p deeper dd D) (hp : p.size ≤ 1024) {i g : Nat} (hi : i < p.size) (hg : 2 * g ≤ i + dd) : (atomE p ic nl deeper i g).Gd false p g dd (D + 1) ∧ ∀ t j h, atomE p ic nl deeper i g = .ok t j h → t.hd.kind ≠ 8 := by
 have h1 : ∀ (S : Nat → Bool) (n : Nat), i ≤ n → (PR.ok (bytT S) n g).Gd false p g dd (D + 1) ∧ ∀ t j h, PR.ok (bytT S) n g = .ok t j h → t.hd.kind ≠ 8 := fun S n hn =>
  ⟨⟨(Gd.byt false S g).mono (by omega), by omega⟩, fun t j h e => by injection e with e; rw [← e]; exact (by first | (show (2 : Int) ≠ 8; decide) | (show (7 : Int) ≠ 8; decide))⟩
 unfold atomE
 split
 ·exact h1 _ _ (by omega)
 ·split
  ·have h2 := setAt_gd false p ic nl i g dd hi hg
   refine ⟨?_, h2.2⟩
   cases hs : setAt p ic nl i g with
   | bad c pl => rw [hs] at h2; exact h2.1
   | ok t j h => rw [hs] at h2; exact ⟨Gd.mono h2.1.1 (by omega), h2.1.2⟩
  ·split
   ·exact groupP_gd hdd hD hd hp (Nat.le_refl _) (by omega) hg
   ·split
    ·split
     ·exact h1 _ _ (by omega)
     ·exact ⟨⟨by omega, by omega⟩, fun t j h e => by cases e⟩
    ·exact h1 _ _ (by omega)
theorem pieceE_gd {p : ByteArray} {ic nl : Bool} {deeper : Option (Nat → Nat → PR)} {dd : Nat} {D : Int} (hdd : dd ≤ 32) (hD : 0 ≤ D) (hd : DGd false p deeper dd D) (hf : ∀ f, deeper = some f → ∀ i g, i ≤ p.size → (f i g).Fine p i g 0) (hp : p.size ≤ 1024) {i g : Nat} (hi : i < p.size) (hg : 2 * g ≤ i + dd) : (pieceE p ic nl deeper i g).Gd false p g dd (D + 3) := by
 unfold pieceE
 split
 ·exact ⟨(Gd.beg false g).mono (by omega), by omega⟩
 ·split
  ·exact ⟨(Gd.end_ false g).mono (by omega), by omega⟩
  ·split
   ·exact ⟨by omega, by omega⟩
   ·have h := atomE_gd (ic := ic) (nl := nl) hdd hD hd hp hi hg
    have hfi := atomE_fine (ic := ic) (nl := nl) hf (g := g) hi
    cases ha : atomE p ic nl deeper i g with
    | bad c pl => rw [ha] at h; exact h.1
    | ok t j q =>
     rw [ha] at h hfi
     simp only [PR.Fine] at hfi
     have := withRep_gd (p := p) (r := repE p j) (by omega) (fun a b n e => repE_next e) (fun a b n e => repE_le e) h.1.1 h.1.2 (h.2 t j q rfl) (by omega)
     rw [show D + 1 + 2 = D + 3 by omega] at this
     exact this
theorem branchE_gd {p : ByteArray} {ic nl : Bool} {deeper : Option (Nat → Nat → PR)} {deep : Bool} {dd : Nat} {D : Int} (hdd : dd ≤ 32) (hD : 0 ≤ D) (hd : DGd false p deeper dd D) (hf : ∀ f, deeper = some f → ∀ i g, i ≤ p.size → (f i g).Fine p i g 0) (hp : p.size ≤ 1024) : ∀ (n i g g0 : Nat) (acc : List T), i ≤ p.size → 2 * g ≤ i + dd → LGd false acc g0 g (D + 3) → (branchE p ic nl deeper deep n i g acc).Gd false p g0 dd (D + 4)
 | 0, i, g, g0, acc, hi, hg, hl => ⟨by omega, by omega⟩
 | n + 1, i, g, g0, acc, hi, hg, hl => by
  rw [branchE]
  split
  ·exact ⟨(Gd.seq hl (by omega)).mono (by omega), by omega⟩
  ·split
   ·split
    ·exact ⟨(Gd.seq hl (by omega)).mono (by omega), by omega⟩
    ·exact ⟨by omega, by omega⟩
   ·have hpi := pieceE_gd (ic := ic) (nl := nl) hdd hD hd hf hp (i := i) (g := g) (by omega) hg
    have hfi := pieceE_fine (ic := ic) (nl := nl) hf (i := i) (g := g) (by omega)
    cases ha : pieceE p ic nl deeper i g with
    | bad c pl => rw [ha] at hpi; exact hpi
    | ok t j h =>
     rw [ha] at hpi hfi
     simp only [PR.Fine] at hfi
     exact branchE_gd hdd hD hd hf hp n j h g0 (acc ++ [t]) (by omega) hpi.2 (hl.snoc hpi.1)
theorem pattE_gd {p : ByteArray} {ic nl : Bool} {deeper : Option (Nat → Nat → PR)} {deep : Bool} {dd : Nat} {D : Int} (hdd : dd ≤ 32) (hD : 0 ≤ D) (hd : DGd false p deeper dd D) (hf : ∀ f, deeper = some f → ∀ i g, i ≤ p.size → (f i g).Fine p i g 0) (hp : p.size ≤ 1024) : ∀ (n i g g0 : Nat) (acc : List T), i ≤ p.size → 2 * g ≤ i + dd → LGd false acc g0 g (D + 4) → (pattE p ic nl deeper deep n i g acc).Gd false p g0 dd (D + 5)
 | 0, i, g, g0, acc, hi, hg, hl => ⟨by omega, by omega⟩
 | n + 1, i, g, g0, acc, hi, hg, hl => by
  rw [pattE]
  have hb := branchE_gd (ic := ic) (nl := nl) (deep := deep) hdd hD hd hf hp (p.size + 1) i g g [] hi hg (LGd.nil false g _)
  cases ha : branchE p ic nl deeper deep (p.size + 1) i g [] with
  | bad c pl => rw [ha] at hb; exact hb
  | ok t j h =>
   rw [ha] at hb
   have hfi := branchE_fine hf (p.size + 1) i g [] t j h hi ha
   simp only
   split
   ·rename_i hc
    have := pb_ins hc (by decide)
    exact pattE_gd hdd hD hd hf hp n (j + 1) h g0 (acc ++ [t]) (by omega) (by have := hb.2; omega) (hl.snoc hb.1)
   ·exact ⟨(Gd.alt (hl.snoc hb.1) (by simp) (by omega)).mono (by omega), hb.2⟩
theorem deepE_gd {p : ByteArray} {ic nl : Bool} (hp : p.size ≤ 1024) : ∀ (k : Nat) (d : Bool) (i g dd : Nat), dd + k = 32 → i ≤ p.size → 2 * g ≤ i + dd → (deepE p ic nl k d i g).Gd false p g dd (5 * (k + 1))
 | 0, d, i, g, dd, hk, hi, hg => by
  have := pattE_gd (p := p) (ic := ic) (nl := nl) (deep := d) (D := 0) (dd := dd) (by omega) (by omega) (deeper := none) (fun f e => by cases e) (fun f e => by cases e) hp (p.size + 1) i g g [] hi hg (LGd.nil false g _)
  exact this
 | k + 1, d, i, g, dd, hk, hi, hg => by
  have := pattE_gd (p := p) (ic := ic) (nl := nl) (deep := d) (D := 5 * ((k : Int) + 1)) (dd := dd) (by omega) (by omega) (deeper := some (deepE p ic nl k true)) (fun f e i g hi hg => by injection e with e; subst e; exact deepE_gd hp k true i g (dd + 1) (by omega) hi hg) (fun f e i g hi => by injection e with e; subst e; exact deepE_fine k true i g hi) hp (p.size + 1) i g g [] hi hg (LGd.nil false g _)
  rw [show 5 * ((k : Int) + 1) + 5 = 5 * (((k + 1 : Nat) : Int) + 1) by omega] at this
  exact this
theorem form_size {t : T} (h : t.form = true) (h2 : ¬ 2000 < t.fullSize) : ¬ 2000 < t.size := by
 unfold T.fullSize at h2
 rw [if_pos h] at h2
 exact h2
/-- What ere.Parse answers. -/
theorem parseE_right (p : ByteArray) (ic nl : Bool) : match parseE p ic nl with
  | .ok t _ g => p.size ≤ 1024 ∧ t.check = none ∧ t.tid false 0 false = (g : Int) ∧ g ≤ 1024 ∧ t.nodes ≤ 10000
  | .bad _ pl => 0 ≤ pl ∧ pl ≤ p.size := by
 unfold parseE
 by_cases hp : 1024 < p.size
 ·rw [if_pos hp]; exact ⟨by omega, by omega⟩
 ·rw [if_neg hp]
  have h1 := deepE_gd (p := p) (ic := ic) (nl := nl) (by omega) 32 false 0 0 0 rfl (Nat.zero_le _) (Nat.le_refl _)
  have h2 := deepE_fine (p := p) (ic := ic) (nl := nl) 32 false 0 0 (Nat.zero_le _)
  cases hr : deepE p ic nl 32 false 0 0 with
  | bad c pl => rw [hr] at h1; exact h1
  | ok t j q =>
   rw [hr] at h1 h2
   simp only [PR.Fine] at h2
   simp only [wholeP]
   by_cases hb : 2000 < t.fullSize
   ·rw [if_pos hb]; exact ⟨by omega, by omega⟩
   ·rw [if_neg hb]
    refine ⟨by omega, ?_, h1.1.tid, by omega, by omega⟩
    unfold T.check
    rw [if_pos h1.1.form, if_neg (by have := h1.1.dep; omega), if_neg (form_size h1.1.form hb)]
end Go.Proofs.YtpkcklpjbeginaaGreatDoor
