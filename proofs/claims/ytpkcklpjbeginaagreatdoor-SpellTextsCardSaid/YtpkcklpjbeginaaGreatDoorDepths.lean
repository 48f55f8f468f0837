/- tree.Groups, tree.Depth: folds over a tree. -/
import Derived.Test.YtpkcklpjbeginaaGreatDoorProg
import Derived.Test.YtpkcklpjbeginaaGreatDoorMem
import Derived.Outline
set_option linter.unusedSimpArgs false
set_option linter.unusedVariables false
namespace Go.Proofs.YtpkcklpjbeginaaGreatDoor
open Go.RowKit

/-- Go's max and min. -/
def mx2 (x y : Int) : Int := if x < y then y else x
def mn2 (x y : Int) : Int := if y < x then y else x
mutual
def T.groups : T → Int
 | .mk h l => TL.groups l (if h.kind = 7 then mx2 0 h.num else 0)
def TL.groups : List T → Int → Int
 | [], n => n
 | t :: ts, n => TL.groups ts (mx2 n t.groups)
end
structure FoldInv (l : List T) (f : Int → T → Int) (w wr : World) (g : Nat) (cs : Array Value) (k : Nat) (init cur : Int) : Prop where
 le : k ≤ l.length
 eq : cur = (l.take k).foldl f init
 box : Blk wr g 27 cs
 below : Below w.heap.size w wr

theorem fold_take {l : List T} {f : Int → T → Int} {init : Int} {k : Nat} {s : T} (hs : l[k]? = some s) : (l.take (k + 1)).foldl f init = f ((l.take k).foldl f init) s := by
 rw [List.take_add_one, hs]
 simp

end Go.Proofs.YtpkcklpjbeginaaGreatDoor
