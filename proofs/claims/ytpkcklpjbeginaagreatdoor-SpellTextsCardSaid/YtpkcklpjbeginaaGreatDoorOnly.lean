/- Calls that write into memory of known blocks alone. -/
import Derived.Test.YtpkcklpjbeginaaGreatDoorGrow
namespace Go.Proofs.YtpkcklpjbeginaaGreatDoor
open Go.RowKit

/-- Of what was there nothing has turned but blocks in bs. -/
structure Only (bs : Nat → Prop) (w w' : World) : Prop where
 os : w'.os = w.os
 tape : w'.tape = w.tape
 output : w'.output = w.output
 size : w.heap.size ≤ w'.heap.size
 block : ∀ b, b < w.heap.size → ¬ bs b → w'.heap[b]? = w.heap[b]?

section
variable {bs bs' : Nat → Prop} {a w w' : World}
theorem Only.refl (bs : Nat → Prop) (w : World) : Only bs w w := ⟨rfl, rfl, rfl, Nat.le_refl _, fun _ _ _ => rfl⟩
theorem Only.trans (h : Only bs a w) (k : Only bs w w') : Only bs a w' :=
 ⟨k.os.trans h.os, k.tape.trans h.tape, k.output.trans h.output, Nat.le_trans h.size k.size, fun b hb hn => (k.block b (Nat.lt_of_lt_of_le hb h.size) hn).trans (h.block b hb hn)⟩
theorem Only.mono (h : Only bs w w') (hk : ∀ b, b < w.heap.size → bs b → bs' b) : Only bs' w w' := ⟨h.os, h.tape, h.output, h.size, fun b hb hn => h.block b hb (fun hx => hn (hk b hb hx))⟩
/-- what the second step may write is new, or was let go before -/
theorem Only.then (h : Only bs a w) (k : Only bs' w w') (hk : ∀ b, b < a.heap.size → bs' b → bs b) : Only bs a w' :=
 ⟨k.os.trans h.os, k.tape.trans h.tape, k.output.trans h.output, Nat.le_trans h.size k.size, fun b hb hn => (k.block b (Nat.lt_of_lt_of_le hb h.size) (fun hx => hn (hk b hb hx))).trans (h.block b hb hn)⟩
theorem Only.of_below (h : Below w.heap.size w w') : Only bs w w' := ⟨h.os, h.tape, h.output, h.size, fun b hb _ => h.block b hb⟩
theorem Only.below {B : Nat} (h : Only bs w w') (hB : B ≤ w.heap.size) (hn : ∀ b, bs b → B ≤ b) : Below B w w' :=
 ⟨h.os, h.tape, h.output, h.size, fun b hb => h.block b (Nat.lt_of_lt_of_le hb hB) (fun hx => by have := hn b hx; omega)⟩
theorem Only.same (h : Only bs w w') {ok : Nat → Prop} (hk : ∀ b, ok b → b < w.heap.size ∧ ¬ bs b) : Same ok w w' := fun b hb => h.block b (hk b hb).1 (hk b hb).2
theorem Only.alloc (h : Only bs a w) (o : Obj) : Only bs a (w.alloc o) :=
 h.then (bs' := fun _ => False) ⟨rfl, rfl, rfl, by simp, fun b hb _ => Below.heap_alloc _ _ _ hb⟩ (fun _ _ h => h.elim)
theorem Only.drew (h : Only bs a w) : Only bs a w.drew := ⟨h.os, h.tape, h.output, h.size, h.block⟩
theorem Only.setCell (h : Only bs a w) {p : Addr} (hp : bs p.block ∨ a.heap.size ≤ p.block) (v : Value) : Only bs a (w.setCell p v) :=
 ⟨h.os, h.tape, h.output, by simpa [World.setCell] using h.size, fun b hb hn => (Below.heap_setCell _ _ _ _ (fun e => by subst e; rcases hp with hp | hp; exact hn hp; omega)).trans (h.block b hb hn)⟩
end

theorem CellsAt.left {w : World} {ad : Addr} {xs ys : List Value} (h : CellsAt w ad (xs ++ ys)) : CellsAt w ad xs :=
 fun j u hu => h j u (by rw [List.getElem?_append_left (List.getElem?_eq_some_iff.1 hu).1]; exact hu)
end Go.Proofs.YtpkcklpjbeginaaGreatDoor
