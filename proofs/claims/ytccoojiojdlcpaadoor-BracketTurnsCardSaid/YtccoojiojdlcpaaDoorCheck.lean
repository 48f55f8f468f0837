/- Rounds: tree.rounds.
Sets: Two sets (arrays of four words) held against each other.
Formed: tree.formed: is a node in form.
Size: tree.size, of a tree in form. (Printed by gen_size.py.)
Form: tree.form: is the whole tree in form.
Depth: tree.Depth. (Printed by gen_depth.py.)
Check: tree.Check: which error a tree bears. -/
import Derived.Test.YtccoojiojdlcpaaDoorProg
import Derived.Test.YtccoojiojdlcpaaDoorMem
import Derived.Outline
import Derived.Laws.StructEq
import Derived.Deep.DeepCutAuto
import Derived.Test.YtccoojiojdlcpaaDoorDepths
import Derived.Test.YtccoojiojdlcpaaDoorSent
set_option linter.unusedSimpArgs false
set_option linter.unusedVariables false
set_option linter.unnecessarySimpa false

/-! ## Rounds -/
namespace Go.Proofs.YtccoojiojdlcpaaDoor
open Go.RowKit

def Hd.rounds (h : Hd) (n : Int) : Int :=
  if h.min = 1 ∧ h.max = 1 then n
  else if h.min = 0 ∧ (h.max = 1 ∨ h.max = -1) then 1 + n
  else if h.max = -1 then 1 + h.min * n + 1 + n
  else 1 + h.min * n + (h.max - h.min) * (1 + n)

end Go.Proofs.YtccoojiojdlcpaaDoor

/-! ## Sets -/
namespace Go.Proofs.YtccoojiojdlcpaaDoor
open Go.RowKit

theorem Tryd.infoU64 : (Tryd.prog.info? 23).map (fun i => (i.zero, i.size, i.bytes)) = some (some (.int .u64 0), 1, 8) := by kernel_rfl
theorem Tryd.setGuard : Tryd.prog.eqGuardType Tryd.prog.depth 25 = false := by kernel_rfl

theorem run_part_u64 (w : World) (cs : Array Value) (off : Nat) (v : Value) (h : cs[off]? = some v) : (part 23 cs off).run Tryd.prog w = .ok v w := by
  simp [part, isAgg, run_underlying Tryd.underlying23, h]

theorem run_equalIn_set (w : World) (d : Nat) (a0 a1 a2 a3 b0 b1 b2 b3 : Int) :
    (Op.equalIn (d + 2) 25 (.agg #[.int .u64 a0, .int .u64 a1, .int .u64 a2, .int .u64 a3]) (.agg #[.int .u64 b0, .int .u64 b1, .int .u64 b2, .int .u64 b3])).run Tryd.prog w =
      .ok (a0 == b0 && a1 == b1 && a2 == b2 && a3 == b3) w := by
  obtain ⟨i, hi, hz0, hz1, hz2⟩ := info_parts Tryd.infoU64
  have hs : (sizeOf 23).run Tryd.prog w = .ok 1 w := by simp [sizeOf, typeInfo, hi, hz1]
  have he : ∀ (w : World) (x y : Int), (Op.equalIn (d + 1) 23 (.int .u64 x) (.int .u64 y)).run Tryd.prog w = .ok (x == y) w := fun w x y => run_equalIn_int w d 23 .u64 .u64 x y Tryd.underlying23
  obtain ⟨n, hn⟩ : ∃ n, n = d + 1 := ⟨_, rfl⟩
  rw [show d + 2 = n + 1 from by omega]
  rw [← hn] at he
  rw [Op.equalIn]
  simp only [Sem.run_bind, run_underlying Tryd.underlying25, Result.andThen_ok, hs]
  rw [Std.Legacy.Range.forIn_eq_forIn_range']
  simp only [Std.Legacy.Range.size, Nat.sub_zero, Nat.add_sub_cancel, Nat.div_one, List.range'_succ, List.range'_zero, List.forIn_cons, List.forIn_nil, Nat.zero_add, Nat.reduceAdd, Nat.mul_one]
  have p1 := fun w => run_part_u64 w #[.int .u64 a0, .int .u64 a1, .int .u64 a2, .int .u64 a3]
  have p2 := fun w => run_part_u64 w #[.int .u64 b0, .int .u64 b1, .int .u64 b2, .int .u64 b3]
  cases h0 : a0 == b0 <;> cases h1 : a1 == b1 <;> cases h2 : a2 == b2 <;> cases h3 : a3 == b3 <;>
    simp only [Sem.run_bind, Sem.run_pure, Sem.run_ite, Result.andThen_ok, p1 _ 0 (.int .u64 a0) rfl, p2 _ 0 (.int .u64 b0) rfl, p1 _ 1 (.int .u64 a1) rfl, p2 _ 1 (.int .u64 b1) rfl, p1 _ 2 (.int .u64 a2) rfl, p2 _ 2 (.int .u64 b2) rfl, p1 _ 3 (.int .u64 a3) rfl, p2 _ 3 (.int .u64 b3) rfl, he, h0, h1, h2, h3,
      Bool.not_false, Bool.not_true, if_true, if_false, Bool.false_eq_true, Bool.and_true, Bool.and_false, Bool.true_and, Bool.false_and]

theorem run_neq_set (w : World) (a0 a1 a2 a3 b0 b1 b2 b3 : Int) :
    (binOp .neq 25 (.agg #[.int .u64 a0, .int .u64 a1, .int .u64 a2, .int .u64 a3]) (.agg #[.int .u64 b0, .int .u64 b1, .int .u64 b2, .int .u64 b3])).run Tryd.prog w =
      .ok (.bool (!(a0 == b0 && a1 == b1 && a2 == b2 && a3 == b3))) w := by
  rw [run_neq_struct, run_equalIn_set w 9998]
  rfl
theorem run_eql_set (w : World) (a0 a1 a2 a3 b0 b1 b2 b3 : Int) :
    (binOp .eql 25 (.agg #[.int .u64 a0, .int .u64 a1, .int .u64 a2, .int .u64 a3]) (.agg #[.int .u64 b0, .int .u64 b1, .int .u64 b2, .int .u64 b3])).run Tryd.prog w =
      .ok (.bool (a0 == b0 && a1 == b1 && a2 == b2 && a3 == b3)) w := by
  rw [run_eql_struct, run_equalIn_set w 9998]
  rfl
end Go.Proofs.YtccoojiojdlcpaaDoor

/-! ## Formed -/
namespace Go.Proofs.YtccoojiojdlcpaaDoor
open Go.RowKit

def Hd.noSet (h : Hd) : Bool := h.s0 == 0 && h.s1 == 0 && h.s2 == 0 && h.s3 == 0
def Hd.plain (h : Hd) : Bool := h.noSet && h.num == 0 && h.min == 0 && h.max == 0 && !h.bare
def Hd.formed (h : Hd) (n : Int) : Bool :=
  if h.kind = 1 ∨ h.kind = 3 ∨ h.kind = 4 then h.plain && n == 0
  else if h.kind = 2 then h.num == 0 && h.min == 0 && h.max == 0 && !h.bare && n == 0
  else if h.kind = 5 ∨ h.kind = 6 then h.plain && decide (1 < n)
  else if h.kind = 7 then h.noSet && decide (0 < h.num) && decide (h.num ≤ 999) && h.min == 0 && h.max == 0 && !h.bare && n == 1
  else if h.kind = 8 then
    !(!h.noSet || h.num != 0 || n != 1 || decide (h.min < 0) || decide (255 < h.min) || (h.bare && decide (0 < h.min))) && (h.max == -1 || (decide (h.min ≤ h.max) && decide (h.max ≤ 255)))
  else false

end Go.Proofs.YtccoojiojdlcpaaDoor

/-! ## Size -/
namespace Go.Proofs.YtccoojiojdlcpaaDoor
open Go.RowKit

mutual
def T.form : T → Bool
  | .mk h l => h.formed l.length && TL.form l
def TL.form : List T → Bool
  | [] => true
  | t :: ts => t.form && TL.form ts
end
theorem T.form_eq (t : T) : t.form = (t.hd.formed t.subs.length && TL.form t.subs) := by cases t; rfl
theorem TL.form_mem : ∀ {l : List T} {t : T}, TL.form l = true → t ∈ l → t.form = true
  | s :: l, t, h, hm => by
    simp only [TL.form, Bool.and_eq_true] at h
    rcases List.mem_cons.1 hm with e | hm
    · subst e; exact h.1
    · exact TL.form_mem h.2 hm

def Hd.grow (h : Hd) (n : Int) : Int := if h.kind = 8 then h.rounds n else n + 1
mutual
def T.size : T → Int
  | .mk h l => if h.kind = 8 ∧ h.max = 0 then 1 else mn2 (h.grow (TL.size l 0)) 2001
def TL.size : List T → Int → Int
  | [], n => n
  | t :: ts, n => TL.size ts (mn2 (n + t.size) 2001)
end
theorem TL.size_eq : ∀ (l : List T) (n : Int), TL.size l n = l.foldl (fun n s => mn2 (n + s.size) 2001) n
  | [], _ => rfl
  | t :: ts, n => by simp only [TL.size, List.foldl_cons]; exact TL.size_eq ts _

theorem Hd.rep_bd {h : Hd} {n : Int} (hf : h.formed n = true) (h8 : h.kind = 8) : 0 ≤ h.min ∧ h.min ≤ 255 ∧ (h.max = -1 ∨ (h.min ≤ h.max ∧ h.max ≤ 255)) := by
  simp only [Hd.formed, h8] at hf
  simp at hf
  obtain ⟨h1, h2⟩ := hf
  have h3 := h1.1.2
  have h4 := h1.1.1.2
  exact ⟨h4, h3, h2⟩

theorem Hd.rounds_pos {h : Hd} {n : Int} (h0 : 0 ≤ n) (h2 : 0 ≤ h.min) (h4 : h.max = -1 ∨ (h.min ≤ h.max ∧ h.max ≤ 255)) : 0 ≤ h.rounds n := by
  unfold Hd.rounds
  have := Int.mul_nonneg h2 h0
  split
  · omega
  · split
    · omega
    · split
      · omega
      · have := Int.mul_nonneg (a := h.max - h.min) (b := 1 + n) (by omega) (by omega)
        omega

theorem mn2_bd {x : Int} (h : 0 ≤ x) : 0 ≤ mn2 x 2001 ∧ mn2 x 2001 ≤ 2001 := by unfold mn2; split <;> omega

mutual
theorem T.size_bd : ∀ t : T, t.form = true → 0 ≤ t.size ∧ t.size ≤ 2001
  | .mk h l, hf => by
    simp only [T.form, Bool.and_eq_true] at hf
    have h1 := TL.size_bd l hf.2 0 (by omega) (by omega)
    simp only [T.size]
    split
    · omega
    · refine mn2_bd ?_
      unfold Hd.grow
      split
      · rename_i h8
        have := Hd.rep_bd hf.1 h8
        exact Hd.rounds_pos h1.1 this.1 this.2.2
      · omega
theorem TL.size_bd : ∀ l : List T, TL.form l = true → ∀ n, 0 ≤ n → n ≤ 2001 → 0 ≤ TL.size l n ∧ TL.size l n ≤ 2001
  | [], _, n, h0, h1 => ⟨h0, h1⟩
  | t :: ts, hf, n, h0, h1 => by
    simp only [TL.form, Bool.and_eq_true] at hf
    have h2 := T.size_bd t hf.1
    simp only [TL.size]
    refine TL.size_bd ts hf.2 _ ?_ ?_ <;> unfold mn2 <;> split <;> omega
end
theorem TL.form_take : ∀ (l : List T) (k : Nat), TL.form l = true → TL.form (l.take k) = true
  | [], k, h => by simp [TL.form]
  | t :: ts, 0, h => rfl
  | t :: ts, k + 1, h => by
    simp only [TL.form, Bool.and_eq_true, List.take_succ_cons] at h ⊢
    exact ⟨h.1, TL.form_take ts k h.2⟩

end Go.Proofs.YtccoojiojdlcpaaDoor

/-! ## Form -/
namespace Go.Proofs.YtccoojiojdlcpaaDoor
open Go.RowKit

/-- tree.Size. -/
def T.fullSize (t : T) : Int := if t.form = true then t.size else 0

end Go.Proofs.YtccoojiojdlcpaaDoor

/-! ## Depth -/
namespace Go.Proofs.YtccoojiojdlcpaaDoor
open Go.RowKit

def Hd.deeper (h : Hd) (n : Nat) : Bool := h.kind == 8 && decide (0 < (n : Int)) && (h.min != 0 || (h.max != 1 && h.max != -1))
mutual
def T.depth : T → Int
  | .mk h l => (if h.deeper l.length then TL.depth l 0 + 1 else TL.depth l 0) + 1
def TL.depth : List T → Int → Int
  | [], n => n
  | t :: ts, n => TL.depth ts (mx2 n t.depth)
end
theorem TL.depth_eq : ∀ (l : List T) (n : Int), TL.depth l n = l.foldl (fun n s => mx2 n s.depth) n
  | [], _ => rfl
  | t :: ts, n => by simp only [TL.depth, List.foldl_cons]; exact TL.depth_eq ts _

theorem mx2_le {a b c : Int} (h : a ≤ c) (k : b ≤ c) : mx2 a b ≤ c := by unfold mx2; split <;> omega
theorem le_mx2 (a b : Int) : a ≤ mx2 a b := by unfold mx2; split <;> omega
mutual
theorem T.depth_bd : ∀ t : T, 0 ≤ t.depth ∧ t.depth ≤ 2 * t.nodes
  | .mk h l => by
    have := TL.depth_bd l 0 (by omega)
    simp only [T.depth, T.nodes]
    split <;> omega
theorem TL.depth_bd : ∀ (l : List T) (n : Int), 0 ≤ n → n ≤ TL.depth l n ∧ TL.depth l n ≤ n + 2 * TL.nodes l
  | [], n, h => by simp [TL.depth, TL.nodes]
  | t :: ts, n, h => by
    have h1 := T.depth_bd t
    have h2 := le_mx2 n t.depth
    have h3 := TL.depth_bd ts (mx2 n t.depth) (by omega)
    have h4 : mx2 n t.depth ≤ n + 2 * t.nodes := mx2_le (by omega) (by omega)
    simp only [TL.depth, TL.nodes]
    omega
end
theorem TL.depth_take (l : List T) (k : Nat) : 0 ≤ (l.take k).foldl (fun n s => mx2 n s.depth) 0 ∧ (l.take k).foldl (fun n s => mx2 n s.depth) 0 ≤ 2 * TL.nodes l := by
  rw [← TL.depth_eq]
  have h1 := TL.depth_bd (l.take k) 0 (by omega)
  have h2 : TL.nodes (l.take k) ≤ TL.nodes l := by
    have : ∀ (l : List T) (k : Nat), TL.nodes (l.take k) ≤ TL.nodes l := by
      intro l
      induction l with
      | nil => intro k; simp [TL.nodes]
      | cons t ts ih => intro k; cases k with
        | zero => simp [TL.nodes]
        | succ k => simp only [List.take_succ_cons, TL.nodes]; have := ih k; omega
    exact this l k
  omega

end Go.Proofs.YtccoojiojdlcpaaDoor

/-! ## Check -/
namespace Go.Proofs.YtccoojiojdlcpaaDoor
open Go.RowKit

def T.check (t : T) : Option Nat :=
  if t.form = true then (if 200 < t.depth then some 14 else if 2000 < t.size then some 10 else none) else some 13
def errOf (a : Nat → Addr) : Option Nat → Value
  | none => .nilIface
  | some g => errV (a g)
theorem T.check_lt (t : T) (g : Nat) (h : t.check = some g) : g < 21 := by
  unfold T.check at h
  split at h
  · split at h
    · simp at h; omega
    · split at h
      · simp at h; omega
      · cases h
  · simp at h; omega

end Go.Proofs.YtccoojiojdlcpaaDoor
