/- Rounds: tree.rounds.
Sets: Two sets (arrays of four words) held against each other.
Formed: tree.formed: is a node in form.
Size: tree.size, of a tree in form. (Printed by gen_size.py.)
Form: tree.form: is the whole tree in form.
Depth: tree.Depth. (Printed by gen_depth.py.)
Check: tree.Check: which error a tree bears. -/
import Derived.Test.YtpkcklpjbeginaaGreatDoorProg
import Derived.Test.YtpkcklpjbeginaaGreatDoorMem
import Derived.Outline
import Derived.Laws.StructEq
import Derived.Deep.DeepCutAuto
import Derived.Test.YtpkcklpjbeginaaGreatDoorDepths
import Derived.Test.YtpkcklpjbeginaaGreatDoorSent
set_option linter.unusedSimpArgs false
set_option linter.unusedVariables false
set_option linter.unnecessarySimpa false

/-! ## Rounds -/
namespace Go.Proofs.YtpkcklpjbeginaaGreatDoor
open Go.RowKit

def Hd.rounds (h : Hd) (n : Int) : Int :=
  if h.min = 1 ∧ h.max = 1 then n
  else if h.min = 0 ∧ (h.max = 1 ∨ h.max = -1) then 1 + n
  else if h.max = -1 then 1 + h.min * n + 1 + n
  else 1 + h.min * n + (h.max - h.min) * (1 + n)

set_option maxRecDepth 100000 in
set_option maxHeartbeats 1000000 in
theorem rounds_any (t : T) (A : Option Addr) (c : Nat) (n : Int) (w : World) (h0 : 0 ≤ n) (h1 : n ≤ 2001) (h2 : 0 ≤ t.hd.min) (h3 : t.hd.min ≤ 255) (h4 : t.hd.max = -1 ∨ (t.hd.min ≤ t.hd.max ∧ t.hd.max ≤ 255)) :
    Calls Tryz.prog 89 #[.agg (t.hd.cells (.slice A t.subs.length c)).toArray, .int .i64 n] w fun e w' => e = .returned (.int .i64 (t.hd.rounds n)) ∧ Below w.heap.size w w' := by
  obtain ⟨h, l⟩ := t
  obtain ⟨kind, s0, s1, s2, s3, num, mn, mx, bare⟩ := h
  simp only [T.hd, T.subs, Hd.cells] at h2 h3 h4 ⊢
  obtain ⟨res, hres⟩ : ∃ r, r = (Hd.rounds ⟨kind, s0, s1, s2, s3, num, mn, mx, bare⟩ n) := ⟨_, rfl⟩
  rw [← hres]
  have HR := hide hres
  clear hres
  have hm1 : 0 ≤ mn * n := Int.mul_nonneg h2 h0
  have hm2 : mn * n ≤ 255 * 2001 := Int.mul_le_mul h3 h1 h0 (by decide)
  by_cases a1 : mn = 1
  case pos =>
    subst a1
    by_cases b1 : mx = 1
    case pos =>
      subst b1
      go_enter Tryz.func89, Tryz.ntmps89
      go_wp2_with fail
      go_ret
      exact ⟨by rw [HR.out]; simp [Hd.rounds], (Below.refl _ _).alloc (Nat.le_refl _) _⟩
    have e1 : (mx == 1) = false := by simp [b1]
    by_cases b2 : mx = -1
    case pos =>
      subst b2
      go_enter Tryz.func89, Tryz.ntmps89
      go_wp2_with fail
      go_ret
      exact ⟨by rw [HR.out]; simp [Hd.rounds], (Below.refl _ _).alloc (Nat.le_refl _) _⟩
    have e2 : (mx == -1) = false := by simp [b2]
    have hk0 : 0 ≤ (mx - 1) * (1 + n) := Int.mul_nonneg (by omega) (by omega)
    have hk1 : (mx - 1) * (1 + n) ≤ 254 * 2002 := Int.mul_le_mul (by omega) (by omega) (by omega) (by decide)
    go_enter Tryz.func89, Tryz.ntmps89
    go_wp2_with fail
    go_ret
    exact ⟨by rw [HR.out]; simp [Hd.rounds, b1, b2], (Below.refl _ _).alloc (Nat.le_refl _) _⟩
  have f1 : (mn == 1) = false := by simp [a1]
  by_cases a0 : mn = 0
  case pos =>
    subst a0
    by_cases b1 : mx = 1
    case pos =>
      subst b1
      go_enter Tryz.func89, Tryz.ntmps89
      go_wp2_with fail
      go_ret
      exact ⟨by rw [HR.out]; simp [Hd.rounds], (Below.refl _ _).alloc (Nat.le_refl _) _⟩
    have e1 : (mx == 1) = false := by simp [b1]
    by_cases b2 : mx = -1
    case pos =>
      subst b2
      go_enter Tryz.func89, Tryz.ntmps89
      go_wp2_with fail
      go_ret
      exact ⟨by rw [HR.out]; simp [Hd.rounds], (Below.refl _ _).alloc (Nat.le_refl _) _⟩
    have e2 : (mx == -1) = false := by simp [b2]
    have hk0 : 0 ≤ mx * (1 + n) := Int.mul_nonneg (by omega) (by omega)
    have hk1 : mx * (1 + n) ≤ 255 * 2002 := Int.mul_le_mul (by omega) (by omega) (by omega) (by decide)
    go_enter Tryz.func89, Tryz.ntmps89
    go_wp2_with fail
    go_ret
    exact ⟨by rw [HR.out]; simp [Hd.rounds, b1, b2], (Below.refl _ _).alloc (Nat.le_refl _) _⟩
  have f0 : (mn == 0) = false := by simp [a0]
  by_cases b2 : mx = -1
  case pos =>
    subst b2
    go_enter Tryz.func89, Tryz.ntmps89
    go_wp2_with fail
    go_ret
    exact ⟨by rw [HR.out]; simp [Hd.rounds, a1, a0], (Below.refl _ _).alloc (Nat.le_refl _) _⟩
  have e2 : (mx == -1) = false := by simp [b2]
  have hk0 : 0 ≤ (mx - mn) * (1 + n) := Int.mul_nonneg (by omega) (by omega)
  have hk1 : (mx - mn) * (1 + n) ≤ 255 * 2002 := Int.mul_le_mul (by omega) (by omega) (by omega) (by decide)
  go_enter Tryz.func89, Tryz.ntmps89
  go_wp2_with fail
  go_ret
  exact ⟨by rw [HR.out]; simp [Hd.rounds, a1, a0, b2], (Below.refl _ _).alloc (Nat.le_refl _) _⟩
end Go.Proofs.YtpkcklpjbeginaaGreatDoor

/-! ## Sets -/
namespace Go.Proofs.YtpkcklpjbeginaaGreatDoor
open Go.RowKit

theorem Tryz.infoU64 : (Tryz.prog.info? 22).map (fun i => (i.zero, i.size, i.bytes)) = some (some (.int .u64 0), 1, 8) := by kernel_rfl
theorem Tryz.setGuard : Tryz.prog.eqGuardType Tryz.prog.depth 24 = false := by kernel_rfl

theorem run_part_u64 (w : World) (cs : Array Value) (off : Nat) (v : Value) (h : cs[off]? = some v) : (part 22 cs off).run Tryz.prog w = .ok v w := by
  simp [part, isAgg, run_underlying Tryz.underlying22, h]

theorem run_equalIn_set (w : World) (d : Nat) (a0 a1 a2 a3 b0 b1 b2 b3 : Int) :
    (Op.equalIn (d + 2) 24 (.agg #[.int .u64 a0, .int .u64 a1, .int .u64 a2, .int .u64 a3]) (.agg #[.int .u64 b0, .int .u64 b1, .int .u64 b2, .int .u64 b3])).run Tryz.prog w =
      .ok (a0 == b0 && a1 == b1 && a2 == b2 && a3 == b3) w := by
  obtain ⟨i, hi, hz0, hz1, hz2⟩ := info_parts Tryz.infoU64
  have hs : (sizeOf 22).run Tryz.prog w = .ok 1 w := by simp [sizeOf, typeInfo, hi, hz1]
  have he : ∀ (w : World) (x y : Int), (Op.equalIn (d + 1) 22 (.int .u64 x) (.int .u64 y)).run Tryz.prog w = .ok (x == y) w := fun w x y => run_equalIn_int w d 22 .u64 .u64 x y Tryz.underlying22
  obtain ⟨n, hn⟩ : ∃ n, n = d + 1 := ⟨_, rfl⟩
  rw [show d + 2 = n + 1 from by omega]
  rw [← hn] at he
  rw [Op.equalIn]
  simp only [Sem.run_bind, run_underlying Tryz.underlying24, Result.andThen_ok, hs]
  rw [Std.Legacy.Range.forIn_eq_forIn_range']
  simp only [Std.Legacy.Range.size, Nat.sub_zero, Nat.add_sub_cancel, Nat.div_one, List.range'_succ, List.range'_zero, List.forIn_cons, List.forIn_nil, Nat.zero_add, Nat.reduceAdd, Nat.mul_one]
  have p1 := fun w => run_part_u64 w #[.int .u64 a0, .int .u64 a1, .int .u64 a2, .int .u64 a3]
  have p2 := fun w => run_part_u64 w #[.int .u64 b0, .int .u64 b1, .int .u64 b2, .int .u64 b3]
  cases h0 : a0 == b0 <;> cases h1 : a1 == b1 <;> cases h2 : a2 == b2 <;> cases h3 : a3 == b3 <;>
    simp only [Sem.run_bind, Sem.run_pure, Sem.run_ite, Result.andThen_ok, p1 _ 0 (.int .u64 a0) rfl, p2 _ 0 (.int .u64 b0) rfl, p1 _ 1 (.int .u64 a1) rfl, p2 _ 1 (.int .u64 b1) rfl, p1 _ 2 (.int .u64 a2) rfl, p2 _ 2 (.int .u64 b2) rfl, p1 _ 3 (.int .u64 a3) rfl, p2 _ 3 (.int .u64 b3) rfl, he, h0, h1, h2, h3,
      Bool.not_false, Bool.not_true, if_true, if_false, Bool.false_eq_true, Bool.and_true, Bool.and_false, Bool.true_and, Bool.false_and]

theorem run_neq_set (w : World) (a0 a1 a2 a3 b0 b1 b2 b3 : Int) :
    (binOp .neq 24 (.agg #[.int .u64 a0, .int .u64 a1, .int .u64 a2, .int .u64 a3]) (.agg #[.int .u64 b0, .int .u64 b1, .int .u64 b2, .int .u64 b3])).run Tryz.prog w =
      .ok (.bool (!(a0 == b0 && a1 == b1 && a2 == b2 && a3 == b3))) w := by
  rw [run_neq_struct, run_equalIn_set w 9998]
  rfl
theorem run_eql_set (w : World) (a0 a1 a2 a3 b0 b1 b2 b3 : Int) :
    (binOp .eql 24 (.agg #[.int .u64 a0, .int .u64 a1, .int .u64 a2, .int .u64 a3]) (.agg #[.int .u64 b0, .int .u64 b1, .int .u64 b2, .int .u64 b3])).run Tryz.prog w =
      .ok (.bool (a0 == b0 && a1 == b1 && a2 == b2 && a3 == b3)) w := by
  rw [run_eql_struct, run_equalIn_set w 9998]
  rfl
end Go.Proofs.YtpkcklpjbeginaaGreatDoor

/-! ## Formed -/
namespace Go.Proofs.YtpkcklpjbeginaaGreatDoor
open Go.RowKit

def Hd.noSet (h : Hd) : Bool := h.s0 == 0 && h.s1 == 0 && h.s2 == 0 && h.s3 == 0
def Hd.plain (h : Hd) : Bool := h.noSet && h.num == 0 && h.min == 0 && h.max == 0 && !h.bare
def Hd.formed (h : Hd) (n : Int) : Bool :=
  if h.kind = 1 ∨ h.kind = 3 ∨ h.kind = 4 then h.plain && n == 0
  else if h.kind = 2 then h.num == 0 && h.min == 0 && h.max == 0 && !h.bare && n == 0
  else if h.kind = 5 ∨ h.kind = 6 then h.plain && decide (1 < n)
  else if h.kind = 7 then h.noSet && decide (0 < h.num) && decide (h.num ≤ 999) && h.min == 0 && h.max == 0 && !h.bare && n == 1
  else if h.kind = 8 then
    !(!h.noSet || h.num != 0 || n != 1 || decide (h.min < 0) || decide (255 < h.min) || (h.bare && decide (0 < h.min))) && (h.max == -1 || (decide (h.min ≤ h.max) && decide (h.max ≤ 255)))
  else false

set_option maxRecDepth 100000 in
set_option maxHeartbeats 4000000 in
theorem formed_any (t : T) (A : Option Addr) (c : Nat) (w : World) (hlen : t.subs.length ≤ 1000000) :
    Calls Tryz.prog 88 #[.agg (t.hd.cells (.slice A t.subs.length c)).toArray] w fun e w' => e = .returned (.bool (t.hd.formed t.subs.length)) ∧ Below w.heap.size w w' := by
  obtain ⟨h, l⟩ := t
  obtain ⟨kind, s0, s1, s2, s3, num, mn, mx, bare⟩ := h
  simp only [T.hd, T.subs, Hd.cells] at hlen ⊢
  obtain ⟨res, hres⟩ : ∃ r, r = (Hd.formed ⟨kind, s0, s1, s2, s3, num, mn, mx, bare⟩ l.length) := ⟨_, rfl⟩
  rw [← hres]
  have HR := hide hres
  obtain ⟨z, hz⟩ : ∃ z, z = (s0 == 0 && s1 == 0 && s2 == 0 && s3 == 0) := ⟨_, rfl⟩
  have hes := fun w => run_eql_set w s0 s1 s2 s3 0 0 0 0
  have hns := fun w => run_neq_set w s0 s1 s2 s3 0 0 0 0
  rw [← hz] at hes hns
  have HZ := hide hz
  clear hz hres
  go_enter Tryz.func88, Tryz.ntmps88
  go_upto_region 1 with fail
  go_cut [3] (fun v wx => v = .bool (z && num == 0 && mn == 0 && mx == 0 && !bare) ∧ wx = w.alloc (.cells #[.int .i64 kind, .int .u64 s0, .int .u64 s1, .int .u64 s2, .int .u64 s3, .slice A l.length c, .int .i64 num, .int .i64 mn, .int .i64 mx, .bool bare] 27))
  case first =>
    cases z with
    | false =>
      go_wp2_with fail
      go_meet
      case rel => exact ⟨by simp, rfl⟩
    | true =>
      by_cases k_num : num = 0
      case neg =>
        have e_num : (num == 0) = false := by simp [k_num]
        go_wp2_with fail
        go_meet
        case rel => exact ⟨by simp [k_num], rfl⟩
      subst k_num
      by_cases k_mn : mn = 0
      case neg =>
        have e_mn : (mn == 0) = false := by simp [k_mn]
        go_wp2_with fail
        go_meet
        case rel => exact ⟨by simp [k_mn], rfl⟩
      subst k_mn
      by_cases k_mx : mx = 0
      case neg =>
        have e_mx : (mx == 0) = false := by simp [k_mx]
        go_wp2_with fail
        go_meet
        case rel => exact ⟨by simp [k_mx], rfl⟩
      subst k_mx
      go_wp2_with fail
      go_meet
      case rel => exact ⟨by simp, rfl⟩
  case rest =>
    obtain ⟨rfl, rfl⟩ := hcut
    generalize hp : (z && num == 0 && mn == 0 && mx == 0 && !bare) = p
    have HP := hide hp
    clear hp
    go_wp2_with fail
    all_goals
      go_ret
      have hz := HZ.out
      have hp := HP.out
      have hr := HR.out
      simp only [Hd.formed, Hd.plain, Hd.noSet, ← hz] at hr
      refine ⟨?_, (Below.refl _ _).alloc (Nat.le_refl _) _⟩
      rw [hr]
      first
        | (simp_all; done)
        | (simp_all; omega)
        | (simp_all; intros; omega)
        | (have hq : ¬ mn ≤ mx := by omega
           have hq2 : mx ≠ -1 := by omega
           rw [show decide (mn ≤ mx) = false from decide_eq_false hq]
           simp_all)
        | trace_state
end Go.Proofs.YtpkcklpjbeginaaGreatDoor

/-! ## Size -/
namespace Go.Proofs.YtpkcklpjbeginaaGreatDoor
open Go.RowKit

mutual
def T.form : T → Bool
  | .mk h l => h.formed l.length && TL.form l
def TL.form : List T → Bool
  | [] => true
  | t :: ts => t.form && TL.form ts
end
theorem T.form_eq (t : T) : t.form = (t.hd.formed t.subs.length && TL.form t.subs) := by cases t; rfl
theorem TL.form_mem : ∀ {l : List T} {t : T}, TL.form l = true → t ∈ l → t.form = true
  | s :: l, t, h, hm => by
    simp only [TL.form, Bool.and_eq_true] at h
    rcases List.mem_cons.1 hm with e | hm
    · subst e; exact h.1
    · exact TL.form_mem h.2 hm

def Hd.grow (h : Hd) (n : Int) : Int := if h.kind = 8 then h.rounds n else n + 1
mutual
def T.size : T → Int
  | .mk h l => if h.kind = 8 ∧ h.max = 0 then 1 else mn2 (h.grow (TL.size l 0)) 2001
def TL.size : List T → Int → Int
  | [], n => n
  | t :: ts, n => TL.size ts (mn2 (n + t.size) 2001)
end
theorem TL.size_eq : ∀ (l : List T) (n : Int), TL.size l n = l.foldl (fun n s => mn2 (n + s.size) 2001) n
  | [], _ => rfl
  | t :: ts, n => by simp only [TL.size, List.foldl_cons]; exact TL.size_eq ts _

theorem Hd.rep_bd {h : Hd} {n : Int} (hf : h.formed n = true) (h8 : h.kind = 8) : 0 ≤ h.min ∧ h.min ≤ 255 ∧ (h.max = -1 ∨ (h.min ≤ h.max ∧ h.max ≤ 255)) := by
  simp only [Hd.formed, h8] at hf
  simp at hf
  obtain ⟨h1, h2⟩ := hf
  have h3 := h1.1.2
  have h4 := h1.1.1.2
  exact ⟨h4, h3, h2⟩

theorem Hd.rounds_pos {h : Hd} {n : Int} (h0 : 0 ≤ n) (h2 : 0 ≤ h.min) (h4 : h.max = -1 ∨ (h.min ≤ h.max ∧ h.max ≤ 255)) : 0 ≤ h.rounds n := by
  unfold Hd.rounds
  have := Int.mul_nonneg h2 h0
  split
  · omega
  · split
    · omega
    · split
      · omega
      · have := Int.mul_nonneg (a := h.max - h.min) (b := 1 + n) (by omega) (by omega)
        omega

theorem mn2_bd {x : Int} (h : 0 ≤ x) : 0 ≤ mn2 x 2001 ∧ mn2 x 2001 ≤ 2001 := by unfold mn2; split <;> omega

mutual
theorem T.size_bd : ∀ t : T, t.form = true → 0 ≤ t.size ∧ t.size ≤ 2001
  | .mk h l, hf => by
    simp only [T.form, Bool.and_eq_true] at hf
    have h1 := TL.size_bd l hf.2 0 (by omega) (by omega)
    simp only [T.size]
    split
    · omega
    · refine mn2_bd ?_
      unfold Hd.grow
      split
      · rename_i h8
        have := Hd.rep_bd hf.1 h8
        exact Hd.rounds_pos h1.1 this.1 this.2.2
      · omega
theorem TL.size_bd : ∀ l : List T, TL.form l = true → ∀ n, 0 ≤ n → n ≤ 2001 → 0 ≤ TL.size l n ∧ TL.size l n ≤ 2001
  | [], _, n, h0, h1 => ⟨h0, h1⟩
  | t :: ts, hf, n, h0, h1 => by
    simp only [TL.form, Bool.and_eq_true] at hf
    have h2 := T.size_bd t hf.1
    simp only [TL.size]
    refine TL.size_bd ts hf.2 _ ?_ ?_ <;> unfold mn2 <;> split <;> omega
end
theorem TL.form_take : ∀ (l : List T) (k : Nat), TL.form l = true → TL.form (l.take k) = true
  | [], k, h => by simp [TL.form]
  | t :: ts, 0, h => rfl
  | t :: ts, k + 1, h => by
    simp only [TL.form, Bool.and_eq_true, List.take_succ_cons] at h ⊢
    exact ⟨h.1, TL.form_take ts k h.2⟩

set_option maxRecDepth 100000 in
set_option maxHeartbeats 2000000 in
theorem size_any (N : Nat) : ∀ (t : T) (A : Option Addr) (c : Nat) (w : World), t.nodes ≤ N → N ≤ 1000000 → t.form = true → T.In w (· < w.heap.size) t A →
    Calls Tryz.prog 57 #[.agg (t.hd.cells (.slice A t.subs.length c)).toArray] w fun e w' => e = .returned (.int .i64 t.size) ∧ Below w.heap.size w w' := by
  induction N with
  | zero => intro t A c w h; have := t.nodes_pos; omega
  | succ N ih =>
    intro t A c w hN hM hform hin
    obtain ⟨h, l⟩ := t
    have hfl : TL.form l = true := by rw [T.form_eq, Bool.and_eq_true] at hform; exact hform.2
    have hbd := fun k8 => Hd.rep_bd (by rw [T.form_eq, Bool.and_eq_true] at hform; exact hform.1) (h := h) (n := (l.length : Int)) k8
    have hro := hide (fun (n : Int) x => rounds_any (.mk h l) A c n x)
    obtain ⟨kind, s0, s1, s2, s3, num, mn, mx, bare⟩ := h
    have hlen := T.length_lt (T.mk ⟨kind, s0, s1, s2, s3, num, mn, mx, bare⟩ l)
    simp only [T.nodes] at hN
    simp only [T.nodes, T.hd, T.subs, Hd.cells] at hlen hro hbd ⊢
    obtain ⟨res, hres⟩ : ∃ r, r = (T.mk ⟨kind, s0, s1, s2, s3, num, mn, mx, bare⟩ l).size := ⟨_, rfl⟩
    rw [← hres]
    have HR := hide hres
    have HF := hide hfl
    clear hform hres hfl
    by_cases k8 : kind = 8
    case pos =>
      subst k8
      have hb8 := hbd rfl
      clear hbd
      by_cases m0 : mx = 0
      case pos =>
        subst m0
        go_enter Tryz.func57, Tryz.ntmps57
        go_wp2_with fail
        go_ret
        exact ⟨by rw [HR.out]; simp [T.size], (Below.refl _ _).alloc (Nat.le_refl _) _⟩
      have em : (mx == 0) = false := by simp [m0]
      go_enter Tryz.func57, Tryz.ntmps57
      go_wp2_with fail
      go_loopw [3, 17] (fun cv kv wr => ∃ (k : Nat) (cur : Int), kv = .int .i64 k ∧ cv = .int .i64 cur ∧ FoldInv l (fun n s => mn2 (n + s.size) 2001) w wr w.heap.size #[.int .i64 8, .int .u64 s0, .int .u64 s1, .int .u64 s2, .int .u64 s3, .slice A l.length c, .int .i64 num, .int .i64 mn, .int .i64 mx, .bool bare] k 0 cur)
        (fun _ kv _ => l.length - (intOf kv).toNat)
      case atStart => exact ⟨0, 0, rfl, rfl, ⟨Nat.zero_le _, rfl, Blk.new _ _ _, (Below.refl _ _).alloc (Nat.le_refl _) _⟩⟩
      case round =>
        obtain ⟨k, cur, rfl, rfl, hinv⟩ := hrel
        have hk := hinv.le
        have c0 := hinv.box.cell
        have z0 := hinv.box.lt
        have hcb : 0 ≤ cur ∧ cur ≤ 2001 := by
          rw [hinv.eq, ← TL.size_eq]
          exact TL.size_bd _ (TL.form_take l k HF.out) 0 (by omega) (by omega)
        by_cases hlt : k < l.length
        · have g1 : decide ((k : Int) < (l.length : Int)) = true := decide_eq_true (by omega)
          have hs := List.getElem?_eq_getElem hlt
          obtain ⟨b, o, B, c', rfl, hbk, hcs, hsub⟩ := TL.In.at_ (T.In_iff.1 hin) hs
          have hmem := List.getElem_mem hlt
          have hsn := TL.nodes_mem hmem
          have hsf := TL.form_mem HF.out hmem
          generalize l[k] = s at *
          obtain ⟨n0, n1, n2, n3, n4, n5, n6, n7, n8, n9⟩ := (hcs.same (same_of_below hinv.below) hbk).node
          have hsb := T.size_bd s hsf
          have HS := hide hs
          have HI := hide hinv
          have hbx := hide (hinv.below)
          have HX := hide (fun y hy => ih s B c' y (by omega) (by omega) hsf hy)
          have HB := hide (hsub.same (ok' := (· < wr.heap.size)) (same_of_below hinv.below) (fun x hx => Nat.lt_of_lt_of_le hx hinv.below.size))
          clear hs hcs hinv hsf
          go_wp2_with fail
          refine (HX.out _ (HB.out.same (fun b hb => Below.heap_alloc _ _ _ hb) (fun b hb => by simp; omega))).mono ?_
          rintro e w1 ⟨rfl, hb1⟩
          have hb1' : Below wr.heap.size wr w1 := ((Below.refl _ _).alloc (Nat.le_refl _) _).trans (hb1.mono (by simp))
          have hm : (if 2001 < cur + s.size then 2001 else cur + s.size) = mn2 (cur + s.size) 2001 := rfl
          generalize mn2 (cur + s.size) 2001 = nxt at hm
          have HM := hide hm
          have HH := hide hb1'
          clear hb1 hb1'
          go_wp2_with fail
          go_roundw
          case rel => exact ⟨k + 1, nxt, by go_num, rfl, ⟨hlt, by rw [fold_take HS.out, ← HI.out.eq]; exact HM.out.symm, HI.out.box.below HH.out z0, hbx.out.trans (HH.out.mono hbx.out.size)⟩⟩
          case measure => simp [intOf]; omega
        · have g1 : decide ((k : Int) < (l.length : Int)) = false := decide_eq_false (by omega)
          have hce : cur = TL.size l 0 := by rw [TL.size_eq, hinv.eq, List.take_of_length_le (by omega)]
          have HE := hide hce
          have HI := hide hinv.below
          clear hce
          have HX := hide (hro.out cur wr hcb.1 hcb.2 hb8.1 hb8.2.1 hb8.2.2)
          clear hinv
          go_wp2_with fail
          refine HX.out.mono ?_
          rintro e w1 ⟨rfl, hb1⟩
          have hbf := hide (HI.out.trans (hb1.mono HI.out.size))
          have hm : (if 2001 < Hd.rounds ⟨8, s0, s1, s2, s3, num, mn, mx, bare⟩ cur then 2001 else Hd.rounds ⟨8, s0, s1, s2, s3, num, mn, mx, bare⟩ cur) = res := by
            have hr : res = mn2 (Hd.grow ⟨8, s0, s1, s2, s3, num, mn, mx, bare⟩ (TL.size l 0)) 2001 := by rw [HR.out, T.size, if_neg (fun h => m0 h.2)]
            rw [hr, ← HE.out]
            rfl
          clear hb1
          go_wp2_with fail
          go_ret
          exact ⟨rfl, hbf.out⟩
    case neg =>
      have e8 : (kind == 8) = false := by simp [k8]
      clear hbd hro
      go_enter Tryz.func57, Tryz.ntmps57
      go_wp2_with fail
      go_loopw [3, 17] (fun cv kv wr => ∃ (k : Nat) (cur : Int), kv = .int .i64 k ∧ cv = .int .i64 cur ∧ FoldInv l (fun n s => mn2 (n + s.size) 2001) w wr w.heap.size #[.int .i64 kind, .int .u64 s0, .int .u64 s1, .int .u64 s2, .int .u64 s3, .slice A l.length c, .int .i64 num, .int .i64 mn, .int .i64 mx, .bool bare] k 0 cur)
        (fun _ kv _ => l.length - (intOf kv).toNat)
      case atStart => exact ⟨0, 0, rfl, rfl, ⟨Nat.zero_le _, rfl, Blk.new _ _ _, (Below.refl _ _).alloc (Nat.le_refl _) _⟩⟩
      case round =>
        obtain ⟨k, cur, rfl, rfl, hinv⟩ := hrel
        have hk := hinv.le
        have c0 := hinv.box.cell
        have z0 := hinv.box.lt
        have hcb : 0 ≤ cur ∧ cur ≤ 2001 := by
          rw [hinv.eq, ← TL.size_eq]
          exact TL.size_bd _ (TL.form_take l k HF.out) 0 (by omega) (by omega)
        by_cases hlt : k < l.length
        · have g1 : decide ((k : Int) < (l.length : Int)) = true := decide_eq_true (by omega)
          have hs := List.getElem?_eq_getElem hlt
          obtain ⟨b, o, B, c', rfl, hbk, hcs, hsub⟩ := TL.In.at_ (T.In_iff.1 hin) hs
          have hmem := List.getElem_mem hlt
          have hsn := TL.nodes_mem hmem
          have hsf := TL.form_mem HF.out hmem
          generalize l[k] = s at *
          obtain ⟨n0, n1, n2, n3, n4, n5, n6, n7, n8, n9⟩ := (hcs.same (same_of_below hinv.below) hbk).node
          have hsb := T.size_bd s hsf
          have HS := hide hs
          have HI := hide hinv
          have hbx := hide (hinv.below)
          have HX := hide (fun y hy => ih s B c' y (by omega) (by omega) hsf hy)
          have HB := hide (hsub.same (ok' := (· < wr.heap.size)) (same_of_below hinv.below) (fun x hx => Nat.lt_of_lt_of_le hx hinv.below.size))
          clear hs hcs hinv hsf
          go_wp2_with fail
          refine (HX.out _ (HB.out.same (fun b hb => Below.heap_alloc _ _ _ hb) (fun b hb => by simp; omega))).mono ?_
          rintro e w1 ⟨rfl, hb1⟩
          have hb1' : Below wr.heap.size wr w1 := ((Below.refl _ _).alloc (Nat.le_refl _) _).trans (hb1.mono (by simp))
          have hm : (if 2001 < cur + s.size then 2001 else cur + s.size) = mn2 (cur + s.size) 2001 := rfl
          generalize mn2 (cur + s.size) 2001 = nxt at hm
          have HM := hide hm
          have HH := hide hb1'
          clear hb1 hb1'
          go_wp2_with fail
          go_roundw
          case rel => exact ⟨k + 1, nxt, by go_num, rfl, ⟨hlt, by rw [fold_take HS.out, ← HI.out.eq]; exact HM.out.symm, HI.out.box.below HH.out z0, hbx.out.trans (HH.out.mono hbx.out.size)⟩⟩
          case measure => simp [intOf]; omega
        · have g1 : decide ((k : Int) < (l.length : Int)) = false := decide_eq_false (by omega)
          have hce : cur = TL.size l 0 := by rw [TL.size_eq, hinv.eq, List.take_of_length_le (by omega)]
          have HE := hide hce
          have HI := hide hinv.below
          clear hce
          have hm : (if 2001 < cur + 1 then 2001 else cur + 1) = res := by
            have hr : res = mn2 (Hd.grow ⟨kind, s0, s1, s2, s3, num, mn, mx, bare⟩ (TL.size l 0)) 2001 := by rw [HR.out, T.size, if_neg (fun h => k8 h.1)]
            rw [hr, ← HE.out, Hd.grow, if_neg k8]
            rfl
          clear hinv
          go_wp2_with fail
          go_ret
          exact ⟨rfl, HI.out⟩
end Go.Proofs.YtpkcklpjbeginaaGreatDoor

/-! ## Form -/
namespace Go.Proofs.YtpkcklpjbeginaaGreatDoor
open Go.RowKit

structure FormInv (l : List T) (w wr : World) (g : Nat) (cs : Array Value) (k : Nat) : Prop where
  le : k ≤ l.length
  eq : TL.form (l.drop k) = TL.form l
  box : Blk wr g 27 cs
  below : Below w.heap.size w wr

set_option maxRecDepth 100000 in
set_option maxHeartbeats 2000000 in
theorem form_any (N : Nat) : ∀ (t : T) (A : Option Addr) (c : Nat) (w : World), t.nodes ≤ N → N ≤ 1000000 → T.In w (· < w.heap.size) t A →
    Calls Tryz.prog 55 #[.agg (t.hd.cells (.slice A t.subs.length c)).toArray] w fun e w' => e = .returned (.bool t.form) ∧ Below w.heap.size w w' := by
  induction N with
  | zero => intro t A c w h; have := t.nodes_pos; omega
  | succ N ih =>
    intro t A c w hN hM hin
    obtain ⟨h, l⟩ := t
    have hlen0 := T.length_lt (T.mk h l)
    simp only [T.nodes] at hN
    have hfo := hide (fun x => formed_any (.mk h l) A c x (by simp only [T.subs, T.nodes] at hlen0 ⊢; omega))
    have hfe := T.form_eq (.mk h l)
    simp only [T.hd, T.subs] at hfe
    obtain ⟨kind, s0, s1, s2, s3, num, mn, mx, bare⟩ := h
    simp only [T.nodes, T.hd, T.subs, Hd.cells] at hlen0 hfo ⊢
    obtain ⟨res, hres⟩ : ∃ r, r = (T.mk ⟨kind, s0, s1, s2, s3, num, mn, mx, bare⟩ l).form := ⟨_, rfl⟩
    rw [← hres] at hfe ⊢
    have HR := hide hfe
    clear hres hfe
    obtain ⟨fo, hq⟩ : ∃ f, f = Hd.formed ⟨kind, s0, s1, s2, s3, num, mn, mx, bare⟩ l.length := ⟨_, rfl⟩
    rw [← hq] at HR hfo
    clear hq
    go_enter Tryz.func55, Tryz.ntmps55
    go_wp2_with fail
    refine (hfo.out _).mono ?_
    rintro e w1 ⟨rfl, hb⟩
    have hb0 := (Blk.new w 27 _).below hb (by simp)
    have hz := hb.size
    rw [World.size_alloc] at hz
    have hbel := ((Below.refl _ _).alloc (Nat.le_refl _) _).trans (hb.mono (by simp))
    have c0 := hb0.cell
    clear hb hfo
    cases fo with
    | false =>
      have hbf := hide hbel
      clear hbel
      go_wp2_with fail
      go_ret
      exact ⟨by rw [HR.out]; rfl, hbf.out⟩
    | true =>
      go_wp2_with fail
      clear c0
      go_loopw [11] (fun kv wr => ∃ (k : Nat), kv = .int .i64 k ∧ FormInv l w wr w.heap.size #[.int .i64 kind, .int .u64 s0, .int .u64 s1, .int .u64 s2, .int .u64 s3, .slice A l.length c, .int .i64 num, .int .i64 mn, .int .i64 mx, .bool bare] k)
        (fun kv _ => l.length - (intOf kv).toNat)
      case atStart => exact ⟨0, rfl, ⟨Nat.zero_le _, rfl, hb0, hbel⟩⟩
      case round =>
        obtain ⟨k, rfl, hinv⟩ := hrel
        have hk := hinv.le
        have c0 := hinv.box.cell
        have z0 := hinv.box.lt
        by_cases hlt : k < l.length
        · have g1 : decide ((k : Int) < (l.length : Int)) = true := decide_eq_true (by omega)
          have hs := List.getElem?_eq_getElem hlt
          obtain ⟨b, o, B, c', rfl, hbk, hcs, hsub⟩ := TL.In.at_ (T.In_iff.1 hin) hs
          have hmem := List.getElem_mem hlt
          have hsn := TL.nodes_mem hmem
          have hdrop : l.drop k = l[k] :: l.drop (k + 1) := List.drop_eq_getElem_cons hlt
          have heq := hinv.eq
          rw [hdrop, TL.form] at heq
          generalize l[k] = s at *
          obtain ⟨n0, n1, n2, n3, n4, n5, n6, n7, n8, n9⟩ := (hcs.same (same_of_below hinv.below) hbk).node
          have HQ := hide heq
          have HI := hide hinv
          have hbx := hide (hinv.below)
          have HX := hide (fun y hy => ih s B c' y (by omega) (by omega) hy)
          have HB := hide (hsub.same (ok' := (· < wr.heap.size)) (same_of_below hinv.below) (fun x hx => Nat.lt_of_lt_of_le hx hinv.below.size))
          clear hs hcs hinv hdrop heq
          go_wp2_with fail
          refine (HX.out _ (HB.out.same (fun b hb => Below.heap_alloc _ _ _ hb) (fun b hb => by simp; omega))).mono ?_
          rintro e w1 ⟨rfl, hb1⟩
          have HH := hide (((Below.refl wr.heap.size wr).alloc (Nat.le_refl _) _).trans (hb1.mono (by simp)))
          clear hb1
          generalize s.form = sf at *
          cases sf with
          | false =>
            go_wp2_with fail
            go_ret
            exact ⟨by rw [HR.out, ← HQ.out]; rfl, hbx.out.trans (HH.out.mono hbx.out.size)⟩
          | true =>
            go_wp2_with fail
            go_roundw
            case rel => exact ⟨k + 1, by go_num, ⟨hlt, by rw [← HQ.out]; simp, HI.out.box.below HH.out z0, hbx.out.trans (HH.out.mono hbx.out.size)⟩⟩
            case measure => simp [intOf]; omega
        · have g1 : decide ((k : Int) < (l.length : Int)) = false := decide_eq_false (by omega)
          have he : TL.form l = true := by rw [← hinv.eq, List.drop_eq_nil_of_le (by omega)]; rfl
          have HE := hide he
          have HI := hide hinv.below
          clear hinv he
          go_wp2_with fail
          go_ret
          exact ⟨by rw [HR.out, HE.out]; rfl, HI.out⟩

end Go.Proofs.YtpkcklpjbeginaaGreatDoor

/-! ## Depth -/
namespace Go.Proofs.YtpkcklpjbeginaaGreatDoor
open Go.RowKit

def Hd.deeper (h : Hd) (n : Nat) : Bool := h.kind == 8 && decide (0 < (n : Int)) && (h.min != 0 || (h.max != 1 && h.max != -1))
mutual
def T.depth : T → Int
  | .mk h l => (if h.deeper l.length then TL.depth l 0 + 1 else TL.depth l 0) + 1
def TL.depth : List T → Int → Int
  | [], n => n
  | t :: ts, n => TL.depth ts (mx2 n t.depth)
end
theorem TL.depth_eq : ∀ (l : List T) (n : Int), TL.depth l n = l.foldl (fun n s => mx2 n s.depth) n
  | [], _ => rfl
  | t :: ts, n => by simp only [TL.depth, List.foldl_cons]; exact TL.depth_eq ts _

theorem mx2_le {a b c : Int} (h : a ≤ c) (k : b ≤ c) : mx2 a b ≤ c := by unfold mx2; split <;> omega
theorem le_mx2 (a b : Int) : a ≤ mx2 a b := by unfold mx2; split <;> omega
mutual
theorem T.depth_bd : ∀ t : T, 0 ≤ t.depth ∧ t.depth ≤ 2 * t.nodes
  | .mk h l => by
    have := TL.depth_bd l 0 (by omega)
    simp only [T.depth, T.nodes]
    split <;> omega
theorem TL.depth_bd : ∀ (l : List T) (n : Int), 0 ≤ n → n ≤ TL.depth l n ∧ TL.depth l n ≤ n + 2 * TL.nodes l
  | [], n, h => by simp [TL.depth, TL.nodes]
  | t :: ts, n, h => by
    have h1 := T.depth_bd t
    have h2 := le_mx2 n t.depth
    have h3 := TL.depth_bd ts (mx2 n t.depth) (by omega)
    have h4 : mx2 n t.depth ≤ n + 2 * t.nodes := mx2_le (by omega) (by omega)
    simp only [TL.depth, TL.nodes]
    omega
end
theorem TL.depth_take (l : List T) (k : Nat) : 0 ≤ (l.take k).foldl (fun n s => mx2 n s.depth) 0 ∧ (l.take k).foldl (fun n s => mx2 n s.depth) 0 ≤ 2 * TL.nodes l := by
  rw [← TL.depth_eq]
  have h1 := TL.depth_bd (l.take k) 0 (by omega)
  have h2 : TL.nodes (l.take k) ≤ TL.nodes l := by
    have : ∀ (l : List T) (k : Nat), TL.nodes (l.take k) ≤ TL.nodes l := by
      intro l
      induction l with
      | nil => intro k; simp [TL.nodes]
      | cons t ts ih => intro k; cases k with
        | zero => simp [TL.nodes]
        | succ k => simp only [List.take_succ_cons, TL.nodes]; have := ih k; omega
    exact this l k
  omega

set_option maxRecDepth 100000 in
set_option maxHeartbeats 1000000 in
theorem depth_any (N : Nat) : ∀ (t : T) (A : Option Addr) (c : Nat) (w : World), t.nodes ≤ N → N ≤ 1000000 → T.In w (· < w.heap.size) t A →
    Calls Tryz.prog 56 #[.agg (t.hd.cells (.slice A t.subs.length c)).toArray] w fun e w' => e = .returned (.int .i64 t.depth) ∧ Below w.heap.size w w' := by
  induction N with
  | zero => intro t A c w h; have := t.nodes_pos; omega
  | succ N ih =>
    intro t A c w hN hM hin
    obtain ⟨h, l⟩ := t
    obtain ⟨kind, s0, s1, s2, s3, num, mn, mx, bare⟩ := h
    have hlen := T.length_lt (T.mk ⟨kind, s0, s1, s2, s3, num, mn, mx, bare⟩ l)
    simp only [T.nodes] at hN
    simp only [T.nodes, T.hd, T.subs, Hd.cells] at hlen ⊢
    have hgoal : (T.mk ⟨kind, s0, s1, s2, s3, num, mn, mx, bare⟩ l).depth = (if (kind == 8 && decide (0 < (l.length : Int)) && (mn != 0 || (mx != 1 && mx != -1))) then l.foldl (fun n s => mx2 n s.depth) 0 + 1 else l.foldl (fun n s => mx2 n s.depth) 0) + 1 := by rw [T.depth, TL.depth_eq]; rfl
    obtain ⟨res, hres⟩ : ∃ r, r = (T.mk ⟨kind, s0, s1, s2, s3, num, mn, mx, bare⟩ l).depth := ⟨_, rfl⟩
    rw [← hres]
    have HR := hide (hres.trans hgoal)
    clear hgoal hres
    go_enter Tryz.func56, Tryz.ntmps56
    go_wp2_with fail
    go_loopw [3, 9] (fun cv kv wr => ∃ (k : Nat) (cur : Int), kv = .int .i64 k ∧ cv = .int .i64 cur ∧ FoldInv l (fun n s => mx2 n s.depth) w wr w.heap.size #[.int .i64 kind, .int .u64 s0, .int .u64 s1, .int .u64 s2, .int .u64 s3, .slice A l.length c, .int .i64 num, .int .i64 mn, .int .i64 mx, .bool bare] k 0 cur)
      (fun _ kv _ => l.length - (intOf kv).toNat)
    case atStart => exact ⟨0, 0, rfl, rfl, ⟨Nat.zero_le _, rfl, Blk.new _ _ _, (Below.refl _ _).alloc (Nat.le_refl _) _⟩⟩
    case round =>
      obtain ⟨k, cur, rfl, rfl, hinv⟩ := hrel
      have hk := hinv.le
      have c0 := hinv.box.cell
      have z0 := hinv.box.lt
      by_cases hlt : k < l.length
      · have g1 : decide ((k : Int) < (l.length : Int)) = true := by simp; omega
        have hs := List.getElem?_eq_getElem hlt
        obtain ⟨b, o, B, c', rfl, hbk, hcs, hsub⟩ := TL.In.at_ (T.In_iff.1 hin) hs
        have hmem := List.getElem_mem hlt
        have hsn := TL.nodes_mem hmem
        generalize l[k] = s at *
        obtain ⟨n0, n1, n2, n3, n4, n5, n6, n7, n8, n9⟩ := (hcs.same (same_of_below hinv.below) hbk).node
        have HS := hide hs
        have HI := hide hinv
        have hbx := hide (hinv.below)
        have HX := hide (fun y hy => ih s B c' y (by omega) (by omega) hy)
        have HB := hide (hsub.same (ok' := (· < wr.heap.size)) (same_of_below hinv.below) (fun x hx => Nat.lt_of_lt_of_le hx hinv.below.size))
        clear hs hcs hinv
        go_wp2_with fail
        refine (HX.out _ (HB.out.same (fun b hb => Below.heap_alloc _ _ _ hb) (fun b hb => by simp; omega))).mono ?_
        rintro e w1 ⟨rfl, hb1⟩
        have hb1' : Below wr.heap.size wr w1 := ((Below.refl _ _).alloc (Nat.le_refl _) _).trans (hb1.mono (by simp))
        have hm : (if cur < s.depth then s.depth else cur) = mx2 cur s.depth := rfl
        generalize mx2 cur s.depth = nxt at hm
        have HM := hide hm
        have HH := hide hb1'
        clear hb1 hb1'
        go_wp2_with fail
        go_roundw
        case rel => exact ⟨k + 1, nxt, by go_num, rfl, ⟨hlt, by rw [fold_take HS.out, ← HI.out.eq]; exact HM.out.symm, HI.out.box.below HH.out z0, hbx.out.trans (HH.out.mono hbx.out.size)⟩⟩
        case measure => simp [intOf]; omega
      · have g1 : decide ((k : Int) < (l.length : Int)) = false := by simp; omega
        have hc := TL.depth_take l k
        rw [← hinv.eq] at hc
        have hce : cur = l.foldl (fun n s => mx2 n s.depth) 0 := by rw [hinv.eq, List.take_of_length_le (by omega)]
        have HE := hide hce
        have hcb : 0 ≤ cur ∧ cur ≤ 2000000 := by omega
        have HI := hide hinv.below
        clear hce hc hinv
        by_cases k8 : kind = 8
        case neg =>
          have e8 : (kind == 8) = false := by simp [k8]
          go_wp2_with fail
          go_ret
          exact ⟨by rw [HR.out, ← HE.out]; simp [e8], HI.out⟩
        subst k8
        by_cases kl : 0 < l.length
        case neg =>
          have el : decide (0 < (l.length : Int)) = false := decide_eq_false (by omega)
          go_wp2_with fail
          go_ret
          exact ⟨by rw [HR.out, ← HE.out, el]; simp [el], HI.out⟩
        have el : decide (0 < (l.length : Int)) = true := decide_eq_true (by omega)
        by_cases km : mn = 0
        case neg =>
          have em : (mn != 0) = true := by simp [km]
          go_wp2_with fail
          go_ret
          exact ⟨by rw [HR.out, ← HE.out, el]; simp [el, em], HI.out⟩
        subst km
        by_cases k1 : mx = 1
        case pos =>
          subst k1
          go_wp2_with fail
          go_ret
          exact ⟨by rw [HR.out, ← HE.out, el]; simp [el], HI.out⟩
        have e1 : (mx != 1) = true := by simp [k1]
        by_cases k2 : mx = -1
        case pos =>
          subst k2
          go_wp2_with fail
          go_ret
          exact ⟨by rw [HR.out, ← HE.out, el]; simp [el], HI.out⟩
        have e2 : (mx != -1) = true := by simp [k2]
        go_wp2_with fail
        go_ret
        exact ⟨by rw [HR.out, ← HE.out, el]; simp [el, e1, e2], HI.out⟩
end Go.Proofs.YtpkcklpjbeginaaGreatDoor

/-! ## Check -/
namespace Go.Proofs.YtpkcklpjbeginaaGreatDoor
open Go.RowKit

def T.check (t : T) : Option Nat :=
  if t.form = true then (if 200 < t.depth then some 13 else if 2000 < t.size then some 12 else none) else some 0
def errOf (a : Nat → Addr) : Option Nat → Value
  | none => .nilIface
  | some g => errV (a g)
set_option maxRecDepth 100000 in
set_option maxHeartbeats 1000000 in
theorem check_any (t : T) (A : Option Addr) (c : Nat) (w : World) (a : Nat → Addr) (hN : t.nodes ≤ 1000000) (hin : T.In w (· < w.heap.size) t A) (he : Sent [0, 13, 12] w a) :
    Calls Tryz.prog 29 #[.agg (t.hd.cells (.slice A t.subs.length c)).toArray] w fun e w' => e = .returned (errOf a t.check) ∧ Below w.heap.size w w' := by
  have H1 := hide (fun x hi => form_any 1000000 t A c x hN (by omega) hi)
  have H2 := hide (fun hf x hi => size_any 1000000 t A c x hN (by omega) hf hi)
  have H3 := hide (fun x hi => depth_any 1000000 t A c x hN (by omega) hi)
  have HIN := hide hin
  have HE : ∀ x, Below w.heap.size w x → x.cell? ⟨0, 0, none⟩ = some (errV (a 0)) ∧ x.cell? ⟨13, 0, none⟩ = some (errV (a 13)) ∧ x.cell? ⟨12, 0, none⟩ = some (errV (a 12)) := fun x hx =>
    ⟨he.below hx _ (by simp), he.below hx _ (by simp), he.below hx _ (by simp)⟩
  have HE' := hide HE
  clear HE he
  have hf : t.check = if t.form = true then (if 200 < t.depth then some 13 else if 2000 < t.size then some 12 else none) else some 0 := rfl
  have HT : ∀ x, Below w.heap.size w x → T.In x (· < x.heap.size) t A := fun x hx => HIN.out.same (same_of_below hx) (fun y hy => Nat.lt_of_lt_of_le hy hx.size)
  have HTT := hide HT
  clear HT HIN hin
  generalize t.check = res at *
  generalize t.form = f at *
  generalize t.size = sz at *
  generalize t.depth = dp at *
  have HF := hide hf
  clear hf
  obtain ⟨h, l⟩ := t
  obtain ⟨kind, s0, s1, s2, s3, num, mn, mx, bare⟩ := h
  simp only [T.hd, T.subs, Hd.cells] at H1 H2 H3 ⊢
  go_enter Tryz.func29, Tryz.ntmps29
  go_wp2_with fail
  refine (H1.out _ (HTT.out _ ((Below.refl _ _).alloc (Nat.le_refl _) _))).mono ?_
  rintro e w1 ⟨rfl, hb⟩
  have hb0 := (Blk.new w 27 _).below hb (by simp)
  have hbel := ((Below.refl _ _).alloc (Nat.le_refl _) _).trans (hb.mono (by simp))
  have c0 := hb0.cell
  have z0 := hb0.lt
  have ⟨v1, _, _⟩ := HE'.out _ hbel
  have hbf := hide hbel
  clear hb hbel
  cases f with
  | false =>
    have hr : res = some 0 := by rw [HF.out]; simp
    have HR := hide hr
    clear hr
    go_wp2_with fail
    go_ret
    exact ⟨by rw [HR.out]; rfl, hbf.out⟩
  | true =>
    clear v1
    go_wp2_with fail
    refine (H3.out _ (HTT.out _ hbf.out)).mono ?_
    rintro e w2 ⟨rfl, hb⟩
    have hbel := hbf.out.trans (hb.mono hbf.out.size)
    have hb1 := hb0.below hb z0
    have c1 := hb1.cell
    have z1 := hb1.lt
    have ⟨_, v2, _⟩ := HE'.out _ hbel
    have hbg := hide hbel
    clear hb hbel c0 hb0
    by_cases hd : 200 < dp
    · have e1 : decide (200 < dp) = true := decide_eq_true hd
      have hr : res = some 13 := by rw [HF.out]; simp [hd]
      have HR := hide hr
      clear hr
      go_wp2_with fail
      go_ret
      exact ⟨by rw [HR.out]; rfl, hbg.out⟩
    · have e1 : decide (200 < dp) = false := decide_eq_false hd
      clear v2
      go_wp2_with fail
      refine (H2.out (by first | rfl | trivial) _ (HTT.out _ hbg.out)).mono ?_
      rintro e w3 ⟨rfl, hb⟩
      have hbel := hbg.out.trans (hb.mono hbg.out.size)
      have ⟨_, _, v3⟩ := HE'.out _ hbel
      have hbh := hide hbel
      clear hb hbel c1 hb1
      by_cases hs : 2000 < sz
      · have e2 : decide (2000 < sz) = true := decide_eq_true hs
        have hr : res = some 12 := by rw [HF.out]; simp [hd, hs]
        have HR := hide hr
        clear hr
        go_wp2_with fail
        go_ret
        exact ⟨by rw [HR.out]; rfl, hbh.out⟩
      · have e2 : decide (2000 < sz) = false := decide_eq_false hs
        have hr : res = none := by rw [HF.out]; simp [hd, hs]
        have HR := hide hr
        clear hr
        go_wp2_with fail
        go_ret
        exact ⟨by rw [HR.out]; rfl, hbh.out⟩
end Go.Proofs.YtpkcklpjbeginaaGreatDoor
