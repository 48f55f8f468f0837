/- tree.Groups, tree.Depth: folds over a tree. -/
import Derived.Test.YtdkonfdhedcajaaDoorProg
import Derived.Test.YtdkonfdhedcajaaDoorMem
import Derived.Outline
set_option linter.unusedSimpArgs false
set_option linter.unusedVariables false
namespace Go.Proofs.YtdkonfdhedcajaaDoor
open Go.RowKit

/-- Go's max and min. -/
def mx2 (x y : Int) : Int := if x < y then y else x
def mn2 (x y : Int) : Int := if y < x then y else x
theorem mx2_eq (x y : Int) : (if x < y then y else x) = mx2 x y := rfl
theorem mn2_eq (x y : Int) : (if y < x then y else x) = mn2 x y := rfl

mutual
def T.groups : T → Int
  | .mk h l => TL.groups l (if h.kind = 7 then mx2 0 h.num else 0)
def TL.groups : List T → Int → Int
  | [], n => n
  | t :: ts, n => TL.groups ts (mx2 n t.groups)
end
theorem TL.groups_eq : ∀ (l : List T) (n : Int), TL.groups l n = l.foldl (fun n s => mx2 n s.groups) n
  | [], _ => rfl
  | t :: ts, n => by simp only [TL.groups, List.foldl_cons]; exact TL.groups_eq ts _

structure FoldInv (l : List T) (f : Int → T → Int) (w wr : World) (g : Nat) (cs : Array Value) (k : Nat) (init cur : Int) : Prop where
  le : k ≤ l.length
  eq : cur = (l.take k).foldl f init
  box : Blk wr g 42 cs
  below : Below w.heap.size w wr

theorem fold_take {l : List T} {f : Int → T → Int} {init : Int} {k : Nat} {s : T} (hs : l[k]? = some s) : (l.take (k + 1)).foldl f init = f ((l.take k).foldl f init) s := by
  rw [List.take_add_one, hs]
  simp

end Go.Proofs.YtdkonfdhedcajaaDoor
