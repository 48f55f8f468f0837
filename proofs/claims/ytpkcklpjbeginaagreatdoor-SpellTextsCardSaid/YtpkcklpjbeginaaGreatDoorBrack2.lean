/- bracket.named. -/
import Derived.Test.YtpkcklpjbeginaaGreatDoorRefBr
import Derived.Test.YtpkcklpjbeginaaGreatDoorAsFault
set_option linter.unusedSimpArgs false
set_option linter.unusedVariables false
namespace Go.Proofs.YtpkcklpjbeginaaGreatDoor
open Go.RowKit

/-- What a reading answers: a set and the place behind, or an error and its place. -/
inductive R5 where
 | good (S : Nat → Bool) (n : Nat)
 | bad (g : Nat) (pl : Int)
/-- What the laws of this chapter ask of the program's variables. -/
structure B5 (w : World) (a : Nat → Addr) (m : Int) : Prop where
 errs : Errs w a
 ml : w.cell? ⟨22, 0, none⟩ = some (.int .i64 m)
theorem B5.below {w w' : World} {a : Nat → Addr} {m : Int} (h : B5 w a m) (hb : Below w.heap.size w w') : B5 w' a m := ⟨h.errs.below hb, (hb.cell (World.block_lt_of_cell? w _ h.ml)).trans h.ml⟩
def R5.Is (r : R5) (a : Nat → Addr) (w : World) (e : Ending) (w' : World) : Prop := match r with
 | .good S n => e = .returned (.tuple #[setV S, .int .i64 (n : Int), .nilIface]) ∧ Below w.heap.size w w'
 | .bad g pl => ∃ gf, e = .returned (.tuple #[setV (fun _ => false), .int .i64 0, faultV gf]) ∧ w.heap.size ≤ gf ∧ Blk w' gf 87 #[.int .i64 pl, errV (a (sentVar g))] ∧ Below w.heap.size w w'
/-- What a named class answers. -/
def namedP (p : ByteArray) (i : Nat) (pl : Int) : R5 :=
 if clo p (i + 2) < 0 then .bad 0 pl
 else if (cls5 (p.extract (i + 2) (clo p (i + 2)).toNat).toList).isSome then .good (memb5 (p.extract (i + 2) (clo p (i + 2)).toNat)) ((clo p (i + 2)).toNat + 2)
 else .bad 5 (i : Int)
end Go.Proofs.YtpkcklpjbeginaaGreatDoor
