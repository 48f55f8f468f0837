/- Rounds: tree.rounds.
Sets: Two sets (arrays of four words) held against each other.
Formed: tree.formed: is a node in form.
Size: tree.size, of a tree in form. (Printed by gen_size.py.)
Form: tree.form: is the whole tree in form.
Depth: tree.Depth. (Printed by gen_depth.py.)
Check: tree.Check: which error a tree bears. -/
import Derived.Test.YtdkonfdhedcajaaDoorProg
import Derived.Test.YtdkonfdhedcajaaDoorMem
import Derived.Outline
import Derived.Laws.StructEq
import Derived.Deep.DeepCutAuto
import Derived.Test.YtdkonfdhedcajaaDoorDepths
import Derived.Test.YtdkonfdhedcajaaDoorSent
set_option linter.unusedSimpArgs false
set_option linter.unusedVariables false
set_option linter.unnecessarySimpa false

/-! ## Rounds -/
namespace Go.Proofs.YtdkonfdhedcajaaDoor
open Go.RowKit

def Hd.rounds (h : Hd) (n : Int) : Int :=
  if h.min = 1 ∧ h.max = 1 then n
  else if h.min = 0 ∧ (h.max = 1 ∨ h.max = -1) then 1 + n
  else if h.max = -1 then 1 + h.min * n + 1 + n
  else 1 + h.min * n + (h.max - h.min) * (1 + n)

end Go.Proofs.YtdkonfdhedcajaaDoor

/-! ## Sets -/
namespace Go.Proofs.YtdkonfdhedcajaaDoor
open Go.RowKit

theorem Tryd.infoU64 : (Tryd.prog.info? 23).map (fun i => (i.zero, i.size, i.bytes)) = some (some (.int .u64 0), 1, 8) := by kernel_rfl
theorem run_part_u64 (w : World) (cs : Array Value) (off : Nat) (v : Value) (h : cs[off]? = some v) : (part 23 cs off).run Tryd.prog w = .ok v w := by
  simp [part, isAgg, run_underlying Tryd.underlying23, h]

theorem run_equalIn_set (w : World) (d : Nat) (a0 a1 a2 a3 b0 b1 b2 b3 : Int) :
    (Op.equalIn (d + 2) 25 (.agg #[.int .u64 a0, .int .u64 a1, .int .u64 a2, .int .u64 a3]) (.agg #[.int .u64 b0, .int .u64 b1, .int .u64 b2, .int .u64 b3])).run Tryd.prog w =
      .ok (a0 == b0 && a1 == b1 && a2 == b2 && a3 == b3) w := by
  obtain ⟨i, hi, hz0, hz1, hz2⟩ := info_parts Tryd.infoU64
  have hs : (sizeOf 23).run Tryd.prog w = .ok 1 w := by simp [sizeOf, typeInfo, hi, hz1]
  have he : ∀ (w : World) (x y : Int), (Op.equalIn (d + 1) 23 (.int .u64 x) (.int .u64 y)).run Tryd.prog w = .ok (x == y) w := fun w x y => run_equalIn_int w d 23 .u64 .u64 x y Tryd.underlying23
  obtain ⟨n, hn⟩ : ∃ n, n = d + 1 := ⟨_, rfl⟩
  rw [show d + 2 = n + 1 from by omega]
  rw [← hn] at he
  rw [Op.equalIn]
  simp only [Sem.run_bind, run_underlying Tryd.underlying25, Result.andThen_ok, hs]
  rw [Std.Legacy.Range.forIn_eq_forIn_range']
  simp only [Std.Legacy.Range.size, Nat.sub_zero, Nat.add_sub_cancel, Nat.div_one, List.range'_succ, List.range'_zero, List.forIn_cons, List.forIn_nil, Nat.zero_add, Nat.reduceAdd, Nat.mul_one]
  have p1 := fun w => run_part_u64 w #[.int .u64 a0, .int .u64 a1, .int .u64 a2, .int .u64 a3]
  have p2 := fun w => run_part_u64 w #[.int .u64 b0, .int .u64 b1, .int .u64 b2, .int .u64 b3]
  cases h0 : a0 == b0 <;> cases h1 : a1 == b1 <;> cases h2 : a2 == b2 <;> cases h3 : a3 == b3 <;>
    simp only [Sem.run_bind, Sem.run_pure, Sem.run_ite, Result.andThen_ok, p1 _ 0 (.int .u64 a0) rfl, p2 _ 0 (.int .u64 b0) rfl, p1 _ 1 (.int .u64 a1) rfl, p2 _ 1 (.int .u64 b1) rfl, p1 _ 2 (.int .u64 a2) rfl, p2 _ 2 (.int .u64 b2) rfl, p1 _ 3 (.int .u64 a3) rfl, p2 _ 3 (.int .u64 b3) rfl, he, h0, h1, h2, h3,
      Bool.not_false, Bool.not_true, if_true, if_false, Bool.false_eq_true, Bool.and_true, Bool.and_false, Bool.true_and, Bool.false_and]

theorem run_neq_set (w : World) (a0 a1 a2 a3 b0 b1 b2 b3 : Int) :
    (binOp .neq 25 (.agg #[.int .u64 a0, .int .u64 a1, .int .u64 a2, .int .u64 a3]) (.agg #[.int .u64 b0, .int .u64 b1, .int .u64 b2, .int .u64 b3])).run Tryd.prog w =
      .ok (.bool (!(a0 == b0 && a1 == b1 && a2 == b2 && a3 == b3))) w := by
  rw [run_neq_struct, run_equalIn_set w 9998]
  rfl
end Go.Proofs.YtdkonfdhedcajaaDoor

/-! ## Formed -/
namespace Go.Proofs.YtdkonfdhedcajaaDoor
open Go.RowKit

def Hd.noSet (h : Hd) : Bool := h.s0 == 0 && h.s1 == 0 && h.s2 == 0 && h.s3 == 0
def Hd.plain (h : Hd) : Bool := h.noSet && h.num == 0 && h.min == 0 && h.max == 0 && !h.bare
def Hd.formed (h : Hd) (n : Int) : Bool :=
  if h.kind = 1 ∨ h.kind = 3 ∨ h.kind = 4 then h.plain && n == 0
  else if h.kind = 2 then h.num == 0 && h.min == 0 && h.max == 0 && !h.bare && n == 0
  else if h.kind = 5 ∨ h.kind = 6 then h.plain && decide (1 < n)
  else if h.kind = 7 then h.noSet && decide (0 < h.num) && decide (h.num ≤ 999) && h.min == 0 && h.max == 0 && !h.bare && n == 1
  else if h.kind = 8 then
    !(!h.noSet || h.num != 0 || n != 1 || decide (h.min < 0) || decide (255 < h.min) || (h.bare && decide (0 < h.min))) && (h.max == -1 || (decide (h.min ≤ h.max) && decide (h.max ≤ 255)))
  else false

end Go.Proofs.YtdkonfdhedcajaaDoor

/-! ## Size -/
namespace Go.Proofs.YtdkonfdhedcajaaDoor
open Go.RowKit

mutual
def T.form : T → Bool
  | .mk h l => h.formed l.length && TL.form l
def TL.form : List T → Bool
  | [] => true
  | t :: ts => t.form && TL.form ts
end
def Hd.grow (h : Hd) (n : Int) : Int := if h.kind = 8 then h.rounds n else n + 1
mutual
def T.size : T → Int
  | .mk h l => if h.kind = 8 ∧ h.max = 0 then 1 else mn2 (h.grow (TL.size l 0)) 2001
def TL.size : List T → Int → Int
  | [], n => n
  | t :: ts, n => TL.size ts (mn2 (n + t.size) 2001)
end
end Go.Proofs.YtdkonfdhedcajaaDoor

/-! ## Form -/
namespace Go.Proofs.YtdkonfdhedcajaaDoor
open Go.RowKit

end Go.Proofs.YtdkonfdhedcajaaDoor

/-! ## Depth -/
namespace Go.Proofs.YtdkonfdhedcajaaDoor
open Go.RowKit

def Hd.deeper (h : Hd) (n : Nat) : Bool := h.kind == 8 && decide (0 < (n : Int)) && (h.min != 0 || (h.max != 1 && h.max != -1))
mutual
def T.depth : T → Int
  | .mk h l => (if h.deeper l.length then TL.depth l 0 + 1 else TL.depth l 0) + 1
def TL.depth : List T → Int → Int
  | [], n => n
  | t :: ts, n => TL.depth ts (mx2 n t.depth)
end
end Go.Proofs.YtdkonfdhedcajaaDoor

/-! ## Check -/
namespace Go.Proofs.YtdkonfdhedcajaaDoor
open Go.RowKit

end Go.Proofs.YtdkonfdhedcajaaDoor
