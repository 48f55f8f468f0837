/- Few: trawlnum.Few: has a tree at most so many nodes.
Same: trawlnum.SameNodes: are two trees alike.
CopyNode: trawlnum.CopyNode: the same tree in memory of its own, by append. -/
import Derived.Test.YtpkcklpjbeginaaGreatDoorProg
import Derived.Test.YtpkcklpjbeginaaGreatDoorMem
import Derived.Outline
import Derived.Test.YtpkcklpjbeginaaGreatDoorCheck
import Derived.Test.YtpkcklpjbeginaaGreatDoorGrow
set_option linter.unusedSimpArgs false
set_option linter.unusedVariables false
set_option linter.unnecessarySimpa false

/-! ## Few -/
namespace Go.Proofs.YtpkcklpjbeginaaGreatDoor
open Go.RowKit

mutual
def T.left : T → Int → Int
 | .mk _ l, m => TL.left l (m - 1)
def TL.left : List T → Int → Int
 | [], m => m
 | t :: ts, m => if 0 ≤ m then TL.left ts (t.left m) else m
end
end Go.Proofs.YtpkcklpjbeginaaGreatDoor

/-! ## Same -/
namespace Go.Proofs.YtpkcklpjbeginaaGreatDoor
open Go.RowKit

def Hd.same (a b : Hd) : Bool := a.kind == b.kind && (a.s0 == b.s0 && a.s1 == b.s1 && a.s2 == b.s2 && a.s3 == b.s3) && a.num == b.num && a.min == b.min && a.max == b.max && a.bare == b.bare
mutual
def T.same : T → T → Bool
 | .mk h l, .mk h' l' => h.same h' && l.length == l'.length && TL.same l l'
def TL.same : List T → List T → Bool
 | t :: ts, t' :: ts' => t.same t' && TL.same ts ts'
 | _, _ => true
end
theorem T.same_eq (a b : T) : a.same b = (a.hd.same b.hd && a.subs.length == b.subs.length && TL.same a.subs b.subs) := by cases a; cases b; rfl

theorem Hd.same_iff {a b : Hd} : a.same b = true ↔ a = b := by
 cases a; cases b
 simp [Hd.same]
 constructor
 ·rintro ⟨⟨⟨⟨⟨h1, h2⟩, h3⟩, h4⟩, h5⟩, h6⟩
  simp_all
 ·rintro ⟨h1, h2, h3, h4, h5, h6, h7, h8, h9⟩
  simp_all

end Go.Proofs.YtpkcklpjbeginaaGreatDoor

/-! ## CopyNode -/
namespace Go.Proofs.YtpkcklpjbeginaaGreatDoor
open Go.RowKit

end Go.Proofs.YtpkcklpjbeginaaGreatDoor
