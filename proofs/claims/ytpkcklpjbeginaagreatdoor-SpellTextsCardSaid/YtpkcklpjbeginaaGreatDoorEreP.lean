/- EreP: Patterns read into trees, in plain Lean: what reading from a place on yields.
CutP: Where a byte, or two bytes, first stand in a text, in plain Lean: what the library's index and cut answer.
Rd6: The readers of patterns as they lie in memory: what a call of theirs keeps; lists of trees that are built beside a reader. -/
import Derived.Test.YtpkcklpjbeginaaGreatDoorRead5
import Derived.Test.YtpkcklpjbeginaaGreatDoorMake2
import Derived.Test.YtpkcklpjbeginaaGreatDoorCheck
import Derived.Lib.IndexMore
import Derived.Test.YtpkcklpjbeginaaGreatDoorInts
import Derived.Test.YtpkcklpjbeginaaGreatDoorAsFault
set_option linter.unusedSimpArgs false
set_option linter.unusedVariables false
set_option linter.unnecessarySimpa false

/-! ## EreP -/
namespace Go.Proofs.YtpkcklpjbeginaaGreatDoor
open Go.RowKit

/-- What reading yields: a tree and where it goes on (the place, the groups met so far), or the first fault and its place. -/
inductive PR where
 | ok (t : T) (i g : Nat)
 | bad (c : Nat) (pl : Int)
def bytT (S : Nat → Bool) : T := .mk ⟨2, ((wd S 0 : Nat) : Int), ((wd S 1 : Nat) : Int), ((wd S 2 : Nat) : Int), ((wd S 3 : Nat) : Int), 0, 0, 0, false⟩ []
def grpT (n : Int) (t : T) : T := .mk ⟨7, 0, 0, 0, 0, n, 0, 0, false⟩ [t]
def repT (a b : Int) (t : T) : T := .mk ⟨8, 0, 0, 0, 0, 0, a, b, false⟩ [t]
def setAt (p : ByteArray) (ic nl : Bool) (i g : Nat) : PR := match readP p i ic nl with
 | .good S n => .ok (bytT S) n g
 | .bad c pl => .bad c pl
/-! ### Extended patterns -/
/-! ### Basic patterns -/
/-! ### Places and sizes -/
theorem pb_ins {p : ByteArray} {i c : Nat} (h : pb p i = c) (hc : c < 256) : i < p.size := by
 by_cases hi : i < p.size
 ·exact hi
 ·rw [pb_none hi] at h; omega
theorem loopP_next {p : ByteArray} {z f : Nat} : ∀ (n i : Nat) (S S' : Nat → Bool) (m : Nat), loopP p z f n i S = .good S' m → i ≤ m ∧ m < p.size
 | 0, i, S, S', m, h => by cases h
 | n + 1, i, S, S', m, h => by
  rw [loopP] at h
  split at h
  ·cases h
  ·split at h
   ·injection h with _ h2; omega
   ·split at h
    ·cases h
    ·rename_i T' j hj
     have h1 := itemP_next (by omega) hj
     have h2 := loopP_next n j _ S' m h
     omega
theorem readP_next {p : ByteArray} {z : Nat} {ic nl : Bool} {S : Nat → Bool} {n : Nat} (h : readP p z ic nl = .good S n) : z + 1 < n ∧ n ≤ p.size := by
 unfold readP at h
 obtain ⟨st, hst⟩ : ∃ st, st = (if pb p (z + 1) = 94 then z + 2 else z + 1) := ⟨_, rfl⟩
 rw [← hst] at h
 have hge : z + 1 ≤ st := by rw [hst]; split <;> omega
 clear hst
 cases hl : loopP p z st (p.size + 1) st (fun _ => false) with
 | bad c pl => rw [hl] at h; cases h
 | good S' m =>
  rw [hl] at h
  simp only [outP, R5.good.injEq] at h
  have := loopP_next _ _ _ _ _ hl
  omega
end Go.Proofs.YtpkcklpjbeginaaGreatDoor

/-! ## CutP -/
namespace Go.Proofs.YtpkcklpjbeginaaGreatDoor
open Go.RowKit

theorem data_len (s : ByteArray) : s.data.toList.length = s.size := Array.length_toList
theorem extract_list (s : ByteArray) (a b : Nat) : (s.extract a b).data.toList = (s.data.toList.drop a).take (b - a) := by
 rw [ByteArray.data_extract, Array.toList_extract, List.extract_eq_take_drop]
end Go.Proofs.YtpkcklpjbeginaaGreatDoor

/-! ## Rd6 -/
namespace Go.Proofs.YtpkcklpjbeginaaGreatDoor
open Go.RowKit

/-- What a call of a reader's method keeps: all but the reader (block gr) and its list of open groups (block x; behind the call: x'). -/
structure RdF (gr B0 : Nat) (x x' : Option Nat) (y y' : World) : Prop where
 same : Same (fun b => b < y.heap.size ∧ b ≠ gr ∧ x ≠ some b) y y'
 blk : ∀ b, x' = some b → x = some b ∨ y.heap.size ≤ b
 below : Below B0 y y'
section
variable {gr B0 : Nat} {x x' x2 : Option Nat} {y w z : World}
theorem RdF.refl (gr B0 : Nat) (x : Option Nat) (y : World) : RdF gr B0 x x y y := ⟨Same.refl _ _, fun b h => .inl h, Below.refl _ _⟩
theorem RdF.trans (h : RdF gr B0 x x' y w) (k : RdF gr B0 x' x2 w z) : RdF gr B0 x x2 y z :=
 ⟨fun b hb => (k.same b ⟨Nat.lt_of_lt_of_le hb.1 h.below.size, hb.2.1, fun e => by
   rcases h.blk b e with e2 | e2
   ·exact hb.2.2 e2
   ·have := hb.1; omega⟩).trans (h.same b hb),
  fun b hb => by
   rcases k.blk b hb with e | e
   ·exact h.blk b e
   ·exact .inr (Nat.le_trans h.below.size e),
  h.below.trans k.below⟩
theorem RdF.of_below (hB : B0 ≤ w.heap.size) (hb : Below w.heap.size w z) : RdF gr B0 x x w z :=
 ⟨(same_of_below hb).mono fun b hb => hb.1, fun b h => .inl h, hb.mono hB⟩
theorem RdF.next (h : RdF gr B0 x x' y w) (hB : B0 ≤ w.heap.size) (hb : Below w.heap.size w z) : RdF gr B0 x x' y z := h.trans (.of_below hB hb)
theorem RdF.set (h : RdF gr B0 x x' y w) (hB : B0 ≤ gr) (i : Nat) (u : Value) : RdF gr B0 x x' y (w.setCell ⟨gr, i, none⟩ u) :=
 h.trans ⟨(Same.refl _ _).set (fun e => e.2.1 rfl) u, fun b h => .inl h, (Below.refl _ _).setCell hB _⟩
theorem RdF.grown {row : Option Nat} (h : RdF gr B0 x x' y w) (hg : w.grownBy z row) (hr : ∀ g, row = some g → y.heap.size ≤ g) (hB : B0 ≤ y.heap.size) : RdF gr B0 x x' y z := by
 have hb : ∀ b, b < w.heap.size → some b ≠ row → z.heap[b]? = w.heap[b]? := fun b hb hne => hg.block b hb hne
 refine ⟨fun b hb2 => (hb b (Nat.lt_of_lt_of_le hb2.1 h.below.size) (fun e => by have := hr b e.symm; have := hb2.1; omega)).trans (h.same b hb2), h.blk, h.below.trans ⟨hg.os, hg.tape, hg.output, hg.size, fun k hk => hb k ?_ ?_⟩⟩
 ·have := h.below.size; omega
 ·intro e; have := hr k e.symm; omega
end

/-- The row of a list of numbers, in the open. -/
theorem OwnInts.blk {base : Nat} {w : World} {v : Value} {l : List Int} (h : OwnInts base w v l) {g : Nat} (hg : v.ownBlock = some g) : ∃ cs, Blk w g 3 cs := by
 rcases h.2 with ⟨e, _⟩ | ⟨g', cap, cur, e, _, hh, _⟩
 ·rw [e] at hg; cases hg
 ·rw [e] at hg
  have : g' = g := by simpa [Value.ownBlock] using hg
  subst this
  exact ⟨cur, hh⟩
theorem OwnInts.cut {base : Nat} {w : World} {l : List Int} {n c : Nat} {A : Option Addr} (h : OwnInts base w (.slice A (n + 1) c) l) (hn : l.length = n + 1) : OwnInts base w (.slice A n c) (l.take n) ∧ (Value.slice A n c).ownBlock = (Value.slice A (n + 1) c).ownBlock ∧ A.isSome = true ∧ n ≤ c := by
 rcases h.2 with ⟨e, h0⟩ | ⟨g, cap, cur, e, hb, hg, h1, h2, h3, h4⟩
 ·omega
 ·injection e with e1 e2 e3
  subst e1 e3
  refine ⟨⟨by simp, .inr ⟨g, c, cur, ?_, hb, hg, ?_, h2, h3, ?_⟩⟩, by simp [Value.ownBlock], rfl, by omega⟩
  ·rw [List.length_take, hn, Nat.min_eq_left (by omega)]
  ·rw [List.length_take]; omega
  ·rw [List.length_take, hn, Nat.min_eq_left (by omega), Nat.mul_one]
   rw [Nat.mul_one, hn] at h4
   have := congrArg (List.take n) h4
   rw [List.take_take, Nat.min_eq_left (by omega), ← List.map_take] at this
   exact this

/-! ### Lists of trees built by append -/
def TL.Kin (w : World) (ok : Nat → Prop) : List T → List Value → Prop
 | [], xs => xs = []
 | t :: l, xs => ∃ B c r, xs = t.hd.cells (.slice B t.subs.length c) ++ r ∧ T.In w ok t B ∧ TL.Kin w ok l r
theorem TL.Kin.same {w w' : World} {ok ok' : Nat → Prop} (hs : Same ok w w') (hk : ∀ b, ok b → ok' b) : ∀ {l : List T} {xs : List Value}, TL.Kin w ok l xs → TL.Kin w' ok' l xs
 | [], _, h => h
 | _ :: _, _, ⟨B, c, r, h1, h2, h3⟩ => ⟨B, c, r, h1, T.In.same hs hk h2, TL.Kin.same hs hk h3⟩
theorem TL.Kin.snoc {w : World} {ok : Nat → Prop} {t : T} {B : Option Addr} {c : Nat} (ht : T.In w ok t B) : ∀ {l : List T} {xs : List Value}, TL.Kin w ok l xs → TL.Kin w ok (l ++ [t]) (xs ++ t.hd.cells (.slice B t.subs.length c))
 | [], _, h => by
  rw [show _ = _ from h]
  exact ⟨B, c, [], by simp, ht, rfl⟩
 | _ :: _, _, ⟨B', c', r, h1, h2, h3⟩ => ⟨B', c', r ++ t.hd.cells (.slice B t.subs.length c), by rw [h1, List.append_assoc], h2, TL.Kin.snoc ht h3⟩
theorem TL.Kin.at_ {w : World} {ok : Nat → Prop} : ∀ {l : List T} {xs : List Value}, TL.Kin w ok l xs → ∀ i t, l[i]? = some t → ∃ B c, (∀ j u, (t.hd.cells (.slice B t.subs.length c))[j]? = some u → xs[i * 10 + j]? = some u) ∧ T.In w ok t B
 | [], _, _, i, t, hi => by simp at hi
 | s :: l, _, ⟨B, c, r, h1, h2, h3⟩, 0, t, hi => by
  obtain rfl : s = t := by simpa using hi
  refine ⟨B, c, fun j u hu => ?_, h2⟩
  rw [h1, Nat.zero_mul, Nat.zero_add, List.getElem?_append_left (by have := (List.getElem?_eq_some_iff.1 hu).1; exact this)]
  exact hu
 | s :: l, _, ⟨B, c, r, h1, h2, h3⟩, i + 1, t, hi => by
  obtain ⟨B', c', k1, k2⟩ := TL.Kin.at_ h3 i t (by simpa using hi)
  have hl : (s.hd.cells (.slice B s.subs.length c)).length = 10 := rfl
  refine ⟨B', c', fun j u hu => ?_, k2⟩
  rw [h1, List.getElem?_append_right (by rw [hl]; omega), hl, show (i + 1) * 10 + j - 10 = i * 10 + j by omega]
  exact k1 j u hu
/-- The value v is a list of the call's own that holds the trees l; all lies from base on, and not in block x. -/
def GrowX (base : Nat) (x : Option Nat) (w : World) (v : Value) (l : List T) : Prop :=
 ∃ xs, w.ownsRow base 27 10 v l.length xs ∧ (∀ g, v.ownBlock = some g → x ≠ some g) ∧ TL.Kin w (fun b => base ≤ b ∧ b < w.heap.size ∧ some b ≠ v.ownBlock ∧ x ≠ some b) l xs
section
variable {base gr : Nat} {x x' : Option Nat} {w w' : World} {v : Value} {l : List T}
theorem GrowX.nil (base : Nat) (x : Option Nat) (w : World) : GrowX base x w (.slice none 0 0) [] := ⟨[], World.ownsRow_nil _ _ _ _, (fun g hg => by cases hg), rfl⟩
theorem GrowX.lt (h : GrowX base x w v l) : ∀ g, v.ownBlock = some g → base ≤ g ∧ g < w.heap.size := by
 obtain ⟨xs, h1, _⟩ := h
 exact World.ownsRow.lt h1
theorem GrowX.apart (h : GrowX base x w v l) : ∀ g, v.ownBlock = some g → x ≠ some g := by
 obtain ⟨xs, _, h1, _⟩ := h
 exact h1
theorem GrowX.next (h : GrowX base x w v l) (hb : Below w.heap.size w w') : GrowX base x w' v l := by
 have hlt := h.lt
 obtain ⟨xs, h1, h2, h3⟩ := h
 refine ⟨xs, ⟨h1.1, ?_⟩, h2, h3.same ((same_of_below hb).mono fun b hb => hb.2.1) (fun b hb2 => ⟨hb2.1, Nat.lt_of_lt_of_le hb2.2.1 hb.size, hb2.2.2⟩)⟩
 rcases h1.2 with h | ⟨g, cap, cur, e, hbb, hg, r⟩
 ·exact .inl h
 ·exact .inr ⟨g, cap, cur, e, hbb, (hb.block g (hlt g (by rw [e]; rfl)).2).trans hg, r⟩
theorem GrowX.form (h : GrowX base x w v l) : ∃ A c, v = .slice A l.length c := by
 obtain ⟨xs, h1, _⟩ := h
 rcases h1.2 with ⟨e, h0⟩ | ⟨g, cap, cur, e, _⟩
 ·exact ⟨none, 0, by rw [e, h0]⟩
 ·exact ⟨_, _, e⟩
/-- The finished list. -/
theorem GrowX.in_ (h : GrowX base x w v l) : ∃ A c, v = .slice A l.length c ∧ TL.In w (fun b => base ≤ b ∧ b < w.heap.size ∧ x ≠ some b) l A := by
 obtain ⟨xs, h1, hap, h2⟩ := h
 rcases h1.2 with ⟨e, h0⟩ | ⟨g, cap, cur, e, hb, hg, _⟩
 ·obtain rfl : l = [] := List.eq_nil_of_length_eq_zero h0
  exact ⟨none, 0, e, trivial⟩
 ·refine ⟨some ⟨g, 0, none⟩, cap, e, TL.In.mk_ ⟨hb, (Array.getElem?_eq_some_iff.1 hg).1, hap g (by rw [e]; rfl)⟩ fun i t hi => ?_⟩
  obtain ⟨B, c, k1, k2⟩ := h2.at_ i t hi
  refine ⟨B, c, fun j u hu => ?_, k2.same (Same.refl _ _) (fun b hb => ⟨hb.1, hb.2.1, hb.2.2.2⟩)⟩
  have := World.ownsRow.cells h1 (g := g) (by rw [e]; rfl) (i * 10 + j) u (k1 j u hu)
  rw [Addr.add_lit, Nat.zero_add] at this
  rw [Addr.add_lit, Nat.zero_add]
  exact this
end
section
variable {w : World} {ops : Array Oper} {rest : List Oper} {o : Oper} {a : Act} {Q : Exit → Act → World → Prop}
end

/-! ### A reader, whatever its type -/
theorem blk_ne6 {w : World} {g g' : Nat} {t t' : TypeId} {cs cs' : Array Value} (h : Blk w g t cs) (h' : Blk w g' t' cs') (ht : t ≠ t') : g ≠ g' := fun e => by
 subst e
 have := Option.some.inj (h.symm.trans h')
 injection this with _ h2
 exact ht h2
/-- A reader's cells lie in block gr; ov is its list of the d groups that are open. -/
structure RdG (y : World) (ty : TypeId) (gr B0 : Nat) (cs : Array Value) (ov : Value) (d : Nat) : Prop where
 box : Blk y gr ty cs
 opn : ∃ l : List Int, l.length = d ∧ OwnInts B0 y ov l
 base : B0 ≤ gr
 nty : ty ≠ 3 ∧ ty ≠ 27
section
variable {y z w w' : World} {ty : TypeId} {gr B0 d : Nat} {cs : Array Value} {ov : Value} {x x' : Option Nat}
theorem RdG.next (h : RdG y ty gr B0 cs ov d) (hb : Below y.heap.size y z) : RdG z ty gr B0 cs ov d := by
 obtain ⟨l, h1, h2⟩ := h.opn
 exact ⟨h.box.below hb h.box.lt, ⟨l, h1, h2.below hb (Nat.le_refl _)⟩, h.base, h.nty⟩
theorem RdG.ne (h : RdG y ty gr B0 cs ov d) : ∀ b, ov.ownBlock = some b → b ≠ gr := fun b hb e => by
 obtain ⟨l, _, h2⟩ := h.opn
 obtain ⟨cs, hc⟩ := h2.blk hb
 exact (blk_ne6 h.box hc h.nty.1) e.symm
theorem RdG.apart (h : RdG y ty gr B0 cs ov d) {g : Nat} {t : TypeId} {cs' : Array Value} (hg : Blk y g t cs') (ht : t ≠ 3) : ov.ownBlock ≠ some g := fun e => by
 obtain ⟨l, _, h2⟩ := h.opn
 obtain ⟨cs, hc⟩ := h2.blk e
 exact (blk_ne6 hg hc ht) rfl
theorem RdG.lt (h : RdG y ty gr B0 cs ov d) : ∀ b, ov.ownBlock = some b → B0 ≤ b ∧ b < y.heap.size := fun b hb => by
 obtain ⟨l, _, h2⟩ := h.opn
 exact World.ownsRow.lt h2 b hb
theorem RdG.set (h : RdG y ty gr B0 cs ov d) (k : Nat) (u : Value) : RdG (y.setCell ⟨gr, k, none⟩ u) ty gr B0 (cs.setIfInBounds k u) ov d := by
 obtain ⟨l, h1, h2⟩ := h.opn
 exact ⟨h.box.set_ k u, ⟨l, h1, h2.same (ok := fun b => b ≠ gr) ((Same.refl _ _).set (fun e => e rfl) u) (fun b hb => h.ne b hb)⟩, h.base, h.nty⟩
theorem RdG.grown {row : Option Nat} (h : RdG y ty gr B0 cs ov d) (hg : y.grownBy z row) (h1 : row ≠ some gr) (h2 : ov.ownBlock = none ∨ ov.ownBlock ≠ row) : RdG z ty gr B0 cs ov d := by
 obtain ⟨l, hl, ho⟩ := h.opn
 exact ⟨h.box.grown hg (fun e => h1 e.symm), ⟨l, hl, World.ownsRow.kept ho hg h2⟩, h.base, h.nty⟩
end
section
variable {w : World} {ops : Array Oper} {rest : List Oper} {o : Oper} {a : Act} {Q : Exit → Act → World → Prop}
end
section
variable {w : World} {ops : Array Oper} {rest : List Oper} {o : Oper} {a : Act} {Q : Exit → Act → World → Prop}
end
/-- A tree whose memory lies from lo on, below hi, not in block x. -/
def TB (w : World) (lo hi : Nat) (x : Option Nat) (t : T) (B : Option Addr) : Prop := T.In w (fun b => lo ≤ b ∧ b < hi ∧ x ≠ some b) t B
section
variable {w w' : World} {lo lo' hi gr B0 g : Nat} {x x' : Option Nat} {t : T} {B : Option Addr}
theorem TB.grown (h : TB w lo hi x t B) (hg : w.grownBy w' (some g)) (h1 : hi ≤ g) (h2 : hi ≤ w.heap.size) : TB w' lo hi x t B :=
 h.same (ok := fun b => lo ≤ b ∧ b < hi ∧ x ≠ some b) (fun b hb => hg.block b (by have := hb.2.1; omega) (fun e => by have := Option.some.inj e; have := hb.2.1; omega)) fun b hb => hb
theorem TB.next (h : TB w lo hi x t B) (hb : Below w.heap.size w w') (h2 : hi ≤ w.heap.size) : TB w' lo hi x t B :=
 h.same ((same_of_below hb).mono fun b hb2 => by have := hb2.2.1; omega) fun b hb => hb
theorem TB.set (h : TB w lo hi x t B) (h1 : gr < lo) (k : Nat) (u : Value) : TB (w.setCell ⟨gr, k, none⟩ u) lo hi x t B :=
 h.same (ok := fun b => lo ≤ b ∧ b < hi ∧ x ≠ some b) ((Same.refl _ _).set (fun e => by have h3 : lo ≤ gr := e.1; omega) u) fun b hb => hb
theorem TB.in_ (h : TB w lo hi x t B) (h1 : lo' ≤ lo) (h2 : hi ≤ w.heap.size) : T.In w (fun b => lo' ≤ b ∧ b < w.heap.size ∧ x ≠ some b) t B :=
 h.same (Same.refl _ _) fun b hb => ⟨by have := hb.1; omega, by have := hb.2.1; omega, hb.2.2⟩
theorem TB.all (h : TB w lo hi x t B) (h2 : hi ≤ w.heap.size) : T.In w (· < w.heap.size) t B :=
 h.same (Same.refl _ _) fun b hb => by have := hb.2.1; omega
theorem TB.of (h : T.In w (fun b => lo ≤ b ∧ b < hi ∧ x ≠ some b) t B) : TB w lo hi x t B := h
end
section
variable {w : World} {ops : Array Oper} {rest : List Oper} {o : Oper} {a : Act} {Q : Exit → Act → World → Prop}
end
end Go.Proofs.YtpkcklpjbeginaaGreatDoor
