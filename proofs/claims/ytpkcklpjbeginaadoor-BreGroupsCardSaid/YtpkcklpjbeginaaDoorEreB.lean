/- Ere6d: ere: group, piece. (Printed by gen_ere6d.py.)
Ere6e: ere: piece. (Printed by gen_ere6e.py.)
Ere6f: ere: branch, pattern. (Printed by gen_ere6f.py.)
Ere6g: ere.Parse. (Printed by gen_ere6g.py.)
Lives6: trawllaw06.lives: the fixed facts of chapter 6. -/
import Derived.Test.YtpkcklpjbeginaaDoorEreA
set_option linter.unusedSimpArgs false
set_option linter.unusedVariables false
set_option linter.unnecessarySimpa false

/-! ## Ere6d -/
namespace Go.Proofs.YtpkcklpjbeginaaDoor
open Go.RowKit

theorem RdG.form {y : World} {ty : TypeId} {gr B0 d : Nat} {cs : Array Value} {ov : Value} (h : RdG y ty gr B0 cs ov d) : ∃ A c, ov = .slice A d c := by
  obtain ⟨l, rfl, ho⟩ := h.opn
  obtain ⟨A, c, h1, _⟩ := ho.form
  exact ⟨A, c, h1⟩
theorem RdG.cut {y : World} {ty : TypeId} {gr B0 n c : Nat} {cs : Array Value} {A : Option Addr} (h : RdG y ty gr B0 cs (.slice A (n + 1) c) (n + 1)) (k : Nat) : RdG (y.setCell ⟨gr, k, none⟩ (.slice A n c)) ty gr B0 (cs.setIfInBounds k (.slice A n c)) (.slice A n c) n ∧ (Value.slice A n c).ownBlock = (Value.slice A (n + 1) c).ownBlock ∧ A.isSome = true ∧ n ≤ c := by
  have hne := h.ne
  obtain ⟨l, hl, ho⟩ := h.opn
  obtain ⟨h1, h2, h3, h4⟩ := ho.cut hl
  refine ⟨⟨h.box.set_ k _, ⟨l.take n, by rw [List.length_take]; omega, ?_⟩, h.base, h.nty⟩, h2, h3, h4⟩
  exact h1.same (ok := fun b => b ≠ gr) ((Same.refl _ _).set (fun e => e rfl) _) (fun b hb => hne b (by rw [← h2]; exact hb))
end Go.Proofs.YtpkcklpjbeginaaDoor

/-! ## Ere6e -/
namespace Go.Proofs.YtpkcklpjbeginaaDoor
open Go.RowKit
end Go.Proofs.YtpkcklpjbeginaaDoor

/-! ## Ere6f -/
namespace Go.Proofs.YtpkcklpjbeginaaDoor
open Go.RowKit

/-- A loop that builds a list of trees beside the reader, no fault so far. -/
structure LpOk (w0 : World) (gr : Nat) (p : ByteArray) (fl : Int) (d : Nat) (ov : Value) (y : World) (base : Nat) (wr : World) (lv : Value) (i g : Nat) (acc : List T) (ov' : Value) : Prop where
  rd : RdE wr gr w0.heap.size p i fl g ov' d .nilIface
  fr : RdF gr w0.heap.size ov.ownBlock ov'.ownBlock y wr
  bx : Blk wr y.heap.size 28 zeroCells
  gx : GrowX base ov'.ownBlock wr lv acc
structure LpBad (w0 : World) (gr : Nat) (p : ByteArray) (fl : Int) (a : Nat → Addr) (ov : Value) (y : World) (base : Nat) (wr : World) (lv : Value) (i g d' gf c : Nat) (pl : Int) (acc : List T) (ov' : Value) : Prop where
  rd : RdE wr gr w0.heap.size p i fl g ov' d' (faultV gf)
  fi : FaultIs a wr gf c pl
  fr : RdF gr w0.heap.size ov.ownBlock ov'.ownBlock y wr
  bx : Blk wr y.heap.size 28 zeroCells
  gx : GrowX base ov'.ownBlock wr lv acc
section
variable {w0 y wr wr' : World} {gr : Nat} {p : ByteArray} {fl : Int} {a : Nat → Addr} {d d' base i g gf c : Nat} {pl : Int} {ov ov' lv : Value} {acc : List T}
theorem LpOk.next (h : LpOk w0 gr p fl d ov y base wr lv i g acc ov') (hB : w0.heap.size ≤ wr.heap.size) (hb : Below wr.heap.size wr wr') : LpOk w0 gr p fl d ov y base wr' lv i g acc ov' := ⟨h.rd.next hb, h.fr.next hB hb, h.bx.next hb, h.gx.next hb⟩
theorem LpBad.next (h : LpBad w0 gr p fl a ov y base wr lv i g d' gf c pl acc ov') (hB : w0.heap.size ≤ wr.heap.size) (hb : Below wr.heap.size wr wr') : LpBad w0 gr p fl a ov y base wr' lv i g d' gf c pl acc ov' := ⟨h.rd.next hb, Blk.next h.fi hb, h.fr.next hB hb, h.bx.next hb, h.gx.next hb⟩
end
/-- A tree of a call's own, in blocks from lo on, not in x. -/
def OwnB (w : World) (lo : Nat) (x : Option Nat) (t : T) (B : Option Addr) : Prop := ∃ bs, T.Own w t B bs ∧ bs.Nodup ∧ ∀ b ∈ bs, lo ≤ b ∧ b < w.heap.size
theorem OwnB.grown {w w' : World} {lo R : Nat} {x : Option Nat} {t : T} {B : Option Addr} (h : OwnB w lo x t B) (hg : w.grownBy w' (some R)) (h1 : R + 1 ≤ lo) : OwnB w' lo x t B := by
  obtain ⟨bs, h2, h3, h4⟩ := h
  exact ⟨bs, h2.same fun b hb => hg.block b (h4 b hb).2 (fun e => by have := Option.some.inj e; have := (h4 b hb).1; omega), h3, fun b hb => ⟨(h4 b hb).1, Nat.lt_of_lt_of_le (h4 b hb).2 hg.size⟩⟩
theorem fresh_own {w w' : World} {t : T} {e : Ending} {x : Option Nat} (h : Fresh t w e w') (hx : ∀ b, x = some b → b < w.heap.size) : ∃ B c, e = .returned (.agg (t.hd.cells (.slice B t.subs.length c)).toArray) ∧ (OwnB w' w.heap.size x t B ∧ TB w' w.heap.size w'.heap.size x t B) ∧ Below w.heap.size w w' := by
  obtain ⟨B, c, bs, h1, h2, h3, h4, h5⟩ := h
  exact ⟨B, c, h1, ⟨⟨bs, h2, h3, h4⟩, h2.in_ fun b hb => ⟨(h4 b hb).1, (h4 b hb).2, fun e => by have := hx b e; have := (h4 b hb).1; omega⟩⟩, h5⟩
/-- A list of one tree, just built. -/
theorem GrowX.one {base : Nat} {x : Option Nat} {w : World} {t : T} {B : Option Addr} {c : Nat} (hbase : base ≤ w.heap.size) (hx : ∀ b, x = some b → b < w.heap.size) (ht : T.In w (fun b => base ≤ b ∧ b < w.heap.size ∧ x ≠ some b) t B) :
    GrowX base x (w.alloc (.cells (t.hd.cells (.slice B t.subs.length c)).toArray 28)) (.slice (some ⟨w.heap.size, 0, none⟩) 1 1) [t] := by
  refine ⟨t.hd.cells (.slice B t.subs.length c), ⟨rfl, .inr ⟨w.heap.size, 1, _, rfl, hbase, heap_alloc_new w _, Nat.le_refl _, by simp only [maxLen]; omega, rfl, rfl⟩⟩, fun g hg e => ?_, ⟨B, c, [], by simp, ?_, rfl⟩⟩
  · have := hx g e
    have h2 : w.heap.size = g := by simpa [Value.ownBlock] using hg
    omega
  · exact ht.same ((Same.refl _ _).alloc (fun b hb => hb.2.1) _) fun b hb => ⟨hb.1, by rw [World.size_alloc]; have := hb.2.1; omega, fun e => by
      have h2 : b = w.heap.size := by simpa [Value.ownBlock] using e
      have := hb.2.1; omega, hb.2.2⟩
end Go.Proofs.YtpkcklpjbeginaaDoor

/-! ## Ere6g -/
namespace Go.Proofs.YtpkcklpjbeginaaDoor
open Go.RowKit

/-- What a parser answers. -/
def ParseIs (r : PR) (a : Nat → Addr) (w : World) (e : Ending) (w' : World) : Prop := match r with
  | .ok t _ g => ∃ B c, e = .returned (.tuple #[.agg (t.hd.cells (.slice B t.subs.length c)).toArray, .int .i64 (g : Int), .nilIface]) ∧ OwnB w' w.heap.size none t B ∧ Below w.heap.size w w'
  | .bad c pl => ∃ gf, e = .returned (.tuple #[.agg zeroCells, .int .i64 0, faultV gf]) ∧ FaultIs a w' gf c pl ∧ Below w.heap.size w w'
theorem parseIs_bad {r : PR} {c gf : Nat} {pl : Int} {a : Nat → Addr} {w w' : World} (hr : r = .bad c pl) (h1 : FaultIs a w' gf c pl) (h2 : Below w.heap.size w w') : ParseIs r a w (.returned (.tuple #[.agg zeroCells, .int .i64 0, faultV gf])) w' := by subst hr; exact ⟨gf, rfl, h1, h2⟩
theorem parseIs_ok {r : PR} {t : T} {i g : Nat} {a : Nat → Addr} {w w' : World} {B : Option Addr} {c : Nat} (hr : r = .ok t i g) (h1 : OwnB w' w.heap.size none t B) (h2 : Below w.heap.size w w') : ParseIs r a w (.returned (.tuple #[.agg (t.hd.cells (.slice B t.subs.length c)).toArray, .int .i64 (g : Int), .nilIface])) w' := by subst hr; exact ⟨B, c, rfl, h1, h2⟩
theorem OwnB.lower {w : World} {lo lo' : Nat} {x : Option Nat} {t : T} {B : Option Addr} (h : OwnB w lo x t B) (hl : lo' ≤ lo) : OwnB w lo' x t B := by
  obtain ⟨bs, h1, h2, h3⟩ := h
  exact ⟨bs, h1, h2, fun b hb => ⟨Nat.le_trans hl (h3 b hb).1, (h3 b hb).2⟩⟩
theorem OwnB.next {w w' : World} {lo : Nat} {x : Option Nat} {t : T} {B : Option Addr} (h : OwnB w lo x t B) (hb : Below w.heap.size w w') : OwnB w' lo x t B := by
  obtain ⟨bs, h1, h2, h3⟩ := h
  exact ⟨bs, h1.same fun b hm => hb.block b (h3 b hm).2, h2, fun b hm => ⟨(h3 b hm).1, Nat.lt_of_lt_of_le (h3 b hm).2 hb.size⟩⟩
end Go.Proofs.YtpkcklpjbeginaaDoor

/-! ## Lives6 -/
namespace Go.Proofs.YtpkcklpjbeginaaDoor
open Go.RowKit

theorem fl_zero2 : (!decide (bits .and .i64 0 2 = 0)) = false := by decide
theorem fl_zero4 : (!decide (bits .and .i64 0 4 = 0)) = false := by decide
end Go.Proofs.YtpkcklpjbeginaaDoor
