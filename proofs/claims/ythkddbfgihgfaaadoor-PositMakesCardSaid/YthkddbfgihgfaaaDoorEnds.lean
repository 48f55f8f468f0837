/- reach.Ends: where the pieces end that a tree takes from a place on. (Printed by gen_ends.py.) -/
import Derived.Test.YthkddbfgihgfaaaDoorReach
import Derived.Test.YthkddbfgihgfaaaDoorInts
set_option linter.unusedSimpArgs false
set_option linter.unusedVariables false
set_option linter.unnecessarySimpa false
namespace Go.Proofs.YthkddbfgihgfaaaDoor
open Go.RowKit

/-- The ends, rising, from place i on. -/
def EndsOf (R : Nat → Nat → Prop) (n i : Nat) (l : List Int) : Prop := ∃ tw, Img R (2 ^ i) tw ∧ Fits n tw ∧ l = (places tw).map fun k : Nat => (k : Int)

theorem EndsOf.eq {R R' : Nat → Nat → Prop} {n n' i : Nat} {l l' : List Int} (h : EndsOf R n i l) (h' : EndsOf R' n' i l') (e : ∀ j, R i j ↔ R' i j) : l = l' := by
  obtain ⟨tw, h1, _, rfl⟩ := h
  obtain ⟨tw', h2, _, rfl⟩ := h'
  have : tw = tw' := Nat.eq_of_testBit_eq fun j => by rw [Bool.eq_iff_iff, one_img h1, one_img h2, e]
  rw [this]
theorem EndsOf.mem {R : Nat → Nat → Prop} {n i : Nat} {l : List Int} (h : EndsOf R n i l) (hn : n ≤ 63) (j : Nat) : (j : Int) ∈ l ↔ R i j := by
  obtain ⟨tw, h1, h2, rfl⟩ := h
  rw [← one_img h1]
  constructor
  · intro hm
    obtain ⟨k, hk, e⟩ := List.mem_map.1 hm
    obtain rfl : k = j := by omega
    exact (mem_places.1 hk).2
  · intro hb
    exact List.mem_map.2 ⟨j, mem_places.2 ⟨by have := h2 j hb; omega, hb⟩, rfl⟩
theorem EndsOf.nat {R : Nat → Nat → Prop} {n i : Nat} {l : List Int} (h : EndsOf R n i l) {x : Int} (hx : x ∈ l) : ∃ j : Nat, x = j ∧ j ≤ n := by
  obtain ⟨tw, h1, h2, rfl⟩ := h
  obtain ⟨k, hk, e⟩ := List.mem_map.1 hx
  exact ⟨k, e.symm, h2 k (mem_places.1 hk).2⟩
theorem EndsOf.short {R : Nat → Nat → Prop} {n i : Nat} {l : List Int} (h : EndsOf R n i l) : l.length ≤ 64 := by
  obtain ⟨tw, h1, h2, rfl⟩ := h
  simpa using places_length tw

theorem below_grown {B : Nat} {w wr w' : World} {row : Option Nat} (h : Below B w wr) (hg : wr.grownBy w' row) (hB : B ≤ w.heap.size) (hr : ∀ g, row = some g → B ≤ g) : Below B w w' :=
  ⟨hg.os.trans h.os, hg.tape.trans h.tape, hg.output.trans h.output, Nat.le_trans h.size hg.size, fun b hb => (hg.block b (by have := h.size; omega) (fun e => by have := hr b e.symm; omega)).trans (h.block b hb)⟩

/-- What Ends answers. -/
def Ended (t : T) (x : Sc) (p : Int) (a : Nat → Addr) (w : World) (e : Ending) (w' : World) : Prop :=
  ∃ (v : Value) (r : List Int), e = .returned (.tuple #[v, errOf a (asked t x [p])]) ∧ OwnInts w.heap.size w' v r ∧ (asked t x [p] = none → EndsOf (t.R x) x.len p.toNat r) ∧ (asked t x [p] ≠ none → r = []) ∧ Below w.heap.size w w'

end Go.Proofs.YthkddbfgihgfaaaDoor
