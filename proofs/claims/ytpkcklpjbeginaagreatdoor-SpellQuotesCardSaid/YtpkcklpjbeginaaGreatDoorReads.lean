/- Read: What a reading says: a node that reads is a tree that lies in the memory that is there.
ReadView: What a reading says of a View (a subject with its flags) and of an integer.
LaidSome: What a row's list of variables gives, wherever they stand on it: a sentinel is an error; the library's table lies as laid. -/
import Derived.Test.YtpkcklpjbeginaaGreatDoorGrow
import Derived.ChangeArms
import Derived.OpenShut
import Derived.SizedLaws
import Derived.ChangeShapes
import Derived.Test.YtpkcklpjbeginaaGreatDoorTz
import Derived.Test.YtpkcklpjbeginaaGreatDoorSent
import Derived.Stop.LaidErr
import Derived.Lib.LaidU8
set_option linter.unusedSimpArgs false
set_option linter.unusedVariables false
set_option linter.unnecessarySimpa false

/-! ## Read -/
namespace Go.Proofs.YtpkcklpjbeginaaGreatDoor

theorem ten {α : Type} {l : List α} (h : l.length = 10) : ∃ a b c d e f g i j k, l = [a, b, c, d, e, f, g, i, j, k] := by
 match l, h with
 | [a, b, c, d, e, f, g, i, j, k], _ => exact ⟨a, b, c, d, e, f, g, i, j, k, rfl⟩

theorem cell?_spot {w : World} {a : Addr} {v : Value} (h : w.cell? a = some v) : a.spot = none ∧ a.block < w.heap.size := by
 refine ⟨?_, World.block_lt_of_cell? w a h⟩
 unfold World.cell? at h
 split at h
 ·split at h
  ·cases h
  ·rename_i hs
   simpa using hs
 ·cases h

section
variable {H : Type} {enc : TypeId × Value → H} {w : World} {base : Nat} {spare : Nat → Bool} {held : Bool}

end
end Go.Proofs.YtpkcklpjbeginaaGreatDoor

/-! ## ReadView -/
namespace Go.Proofs.YtpkcklpjbeginaaGreatDoor
open Go.ChangeShapes

theorem three {α : Type} {l : List α} (h : l.length = 3) : ∃ a b c, l = [a, b, c] := by
 match l, h with
 | [a, b, c], _ => exact ⟨a, b, c, rfl⟩

section
variable {H : Type} {enc : TypeId × Value → H} {w : World} {base : Nat} {spare : Nat → Bool} {held : Bool}

end
end Go.Proofs.YtpkcklpjbeginaaGreatDoor

/-! ## LaidSome -/
namespace Go.Proofs.YtpkcklpjbeginaaGreatDoor
open Go.RowKit

theorem deb_len : Lib.deBruijn64tab.length = 64 := by decide

theorem tab_of_met {l : List (String × DataW Unit)} {W : World} (h : laidMet Tryz.prog l W)
  (hm : ("math/bits.deBruijn64tab", (Lib.tabData .u8 (Lib.deBruijn64tab.map fun n : Nat => (n : Int)) : DataW Unit)) ∈ l) : Tab W := by
 obtain ⟨g, t, cs, fuel, p, h1, h2, h3, h4⟩ := Lib.laidMet.reads h hm
 obtain rfl : g = 23 := Option.some.inj (h1.symm.trans (show Tryz.prog.globalNamed "math/bits.deBruijn64tab" = some 23 by kernel_rfl))
 obtain rfl : t = 183 := Option.some.inj (h2.symm.trans (show (Tryz.prog.globals[23]?).map (·.type) = some 183 by kernel_rfl))
 have hc := Lib.cells_of_tab Tryz.underlying183 Tryz.underlying5 (by kernel_rfl) (by kernel_rfl) h4
 intro j hj
 have hcell := World.var?_cell h1 h3 j
 rw [hcell, ← Array.getElem?_toList, hc]
 have hl : j < Lib.deBruijn64tab.length := by rw [deb_len]; exact hj
 simp [hl]
end Go.Proofs.YtpkcklpjbeginaaGreatDoor
