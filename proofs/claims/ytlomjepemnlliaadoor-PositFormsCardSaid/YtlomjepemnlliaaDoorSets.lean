/- Two sets (arrays of four words) held against each other. -/
import Derived.Test.YtlomjepemnlliaaDoorProg
import Derived.Test.YtlomjepemnlliaaDoorMem
import Derived.Laws.StructEq
set_option linter.unusedSimpArgs false
set_option linter.unusedVariables false
namespace Go.Proofs.YtlomjepemnlliaaDoor
open Go.RowKit

theorem Tryd.infoU64 : (Tryd.prog.info? 47).map (fun i => (i.zero, i.size, i.bytes)) = some (some (.int .u64 0), 1, 8) := by kernel_rfl
theorem Tryd.setGuard : Tryd.prog.eqGuardType Tryd.prog.depth 49 = false := by kernel_rfl

theorem run_part_u64 (w : World) (cs : Array Value) (off : Nat) (v : Value) (h : cs[off]? = some v) : (part 47 cs off).run Tryd.prog w = .ok v w := by
  simp [part, isAgg, run_underlying Tryd.underlying47, h]

theorem run_equalIn_set (w : World) (d : Nat) (a0 a1 a2 a3 b0 b1 b2 b3 : Int) :
    (Op.equalIn (d + 2) 49 (.agg #[.int .u64 a0, .int .u64 a1, .int .u64 a2, .int .u64 a3]) (.agg #[.int .u64 b0, .int .u64 b1, .int .u64 b2, .int .u64 b3])).run Tryd.prog w =
      .ok (a0 == b0 && a1 == b1 && a2 == b2 && a3 == b3) w := by
  obtain ⟨i, hi, hz0, hz1, hz2⟩ := info_parts Tryd.infoU64
  have hs : (sizeOf 47).run Tryd.prog w = .ok 1 w := by simp [sizeOf, typeInfo, hi, hz1]
  have he : ∀ (w : World) (x y : Int), (Op.equalIn (d + 1) 47 (.int .u64 x) (.int .u64 y)).run Tryd.prog w = .ok (x == y) w := fun w x y => run_equalIn_int w d 47 .u64 .u64 x y Tryd.underlying47
  obtain ⟨n, hn⟩ : ∃ n, n = d + 1 := ⟨_, rfl⟩
  rw [show d + 2 = n + 1 from by omega]
  rw [← hn] at he
  rw [Op.equalIn]
  simp only [Sem.run_bind, run_underlying Tryd.underlying49, Result.andThen_ok, hs]
  rw [Std.Legacy.Range.forIn_eq_forIn_range']
  simp only [Std.Legacy.Range.size, Nat.sub_zero, Nat.add_sub_cancel, Nat.div_one, List.range'_succ, List.range'_zero, List.forIn_cons, List.forIn_nil, Nat.zero_add, Nat.reduceAdd, Nat.mul_one]
  have p1 := fun w => run_part_u64 w #[.int .u64 a0, .int .u64 a1, .int .u64 a2, .int .u64 a3]
  have p2 := fun w => run_part_u64 w #[.int .u64 b0, .int .u64 b1, .int .u64 b2, .int .u64 b3]
  cases h0 : a0 == b0 <;> cases h1 : a1 == b1 <;> cases h2 : a2 == b2 <;> cases h3 : a3 == b3 <;>
    simp only [Sem.run_bind, Sem.run_pure, Sem.run_ite, Result.andThen_ok, p1 _ 0 (.int .u64 a0) rfl, p2 _ 0 (.int .u64 b0) rfl, p1 _ 1 (.int .u64 a1) rfl, p2 _ 1 (.int .u64 b1) rfl, p1 _ 2 (.int .u64 a2) rfl, p2 _ 2 (.int .u64 b2) rfl, p1 _ 3 (.int .u64 a3) rfl, p2 _ 3 (.int .u64 b3) rfl, he, h0, h1, h2, h3,
      Bool.not_false, Bool.not_true, if_true, if_false, Bool.false_eq_true, Bool.and_true, Bool.and_false, Bool.true_and, Bool.false_and]

theorem run_neq_set (w : World) (a0 a1 a2 a3 b0 b1 b2 b3 : Int) :
    (binOp .neq 49 (.agg #[.int .u64 a0, .int .u64 a1, .int .u64 a2, .int .u64 a3]) (.agg #[.int .u64 b0, .int .u64 b1, .int .u64 b2, .int .u64 b3])).run Tryd.prog w =
      .ok (.bool (!(a0 == b0 && a1 == b1 && a2 == b2 && a3 == b3))) w := by
  rw [run_neq_struct, run_equalIn_set w 9998]
  rfl
theorem run_eql_set (w : World) (a0 a1 a2 a3 b0 b1 b2 b3 : Int) :
    (binOp .eql 49 (.agg #[.int .u64 a0, .int .u64 a1, .int .u64 a2, .int .u64 a3]) (.agg #[.int .u64 b0, .int .u64 b1, .int .u64 b2, .int .u64 b3])).run Tryd.prog w =
      .ok (.bool (a0 == b0 && a1 == b1 && a2 == b2 && a3 == b3)) w := by
  rw [run_eql_struct, run_equalIn_set w 9998]
  rfl
end Go.Proofs.YtlomjepemnlliaaDoor
