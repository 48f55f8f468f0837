/- tree.formed: is a node in form. -/
import Derived.Test.YtlomjepemnlliaaDoorSets
import Derived.Outline
import Derived.Deep.DeepCutAuto
set_option linter.unusedSimpArgs false
set_option linter.unusedVariables false
namespace Go.Proofs.YtlomjepemnlliaaDoor
open Go.RowKit

def Hd.noSet (h : Hd) : Bool := h.s0 == 0 && h.s1 == 0 && h.s2 == 0 && h.s3 == 0
def Hd.plain (h : Hd) : Bool := h.noSet && h.num == 0 && h.min == 0 && h.max == 0 && !h.bare
def Hd.formed (h : Hd) (n : Int) : Bool :=
  if h.kind = 1 ∨ h.kind = 3 ∨ h.kind = 4 then h.plain && n == 0
  else if h.kind = 2 then h.num == 0 && h.min == 0 && h.max == 0 && !h.bare && n == 0
  else if h.kind = 5 ∨ h.kind = 6 then h.plain && decide (1 < n)
  else if h.kind = 7 then h.noSet && decide (0 < h.num) && decide (h.num ≤ 999) && h.min == 0 && h.max == 0 && !h.bare && n == 1
  else if h.kind = 8 then
    !(!h.noSet || h.num != 0 || n != 1 || decide (h.min < 0) || decide (255 < h.min) || (h.bare && decide (0 < h.min))) && (h.max == -1 || (decide (h.min ≤ h.max) && decide (h.max ≤ 255)))
  else false

set_option maxRecDepth 100000 in
set_option maxHeartbeats 4000000 in
theorem formed_any (t : T) (A : Option Addr) (c : Nat) (w : World) (hlen : t.subs.length ≤ 1000000) :
    Calls Tryd.prog 107 #[.agg (t.hd.cells (.slice A t.subs.length c)).toArray] w fun e w' => e = .returned (.bool (t.hd.formed t.subs.length)) ∧ Below w.heap.size w w' := by
  obtain ⟨h, l⟩ := t
  obtain ⟨kind, s0, s1, s2, s3, num, mn, mx, bare⟩ := h
  simp only [T.hd, T.subs, Hd.cells] at hlen ⊢
  obtain ⟨res, hres⟩ : ∃ r, r = (Hd.formed ⟨kind, s0, s1, s2, s3, num, mn, mx, bare⟩ l.length) := ⟨_, rfl⟩
  rw [← hres]
  have HR := hide hres
  obtain ⟨z, hz⟩ : ∃ z, z = (s0 == 0 && s1 == 0 && s2 == 0 && s3 == 0) := ⟨_, rfl⟩
  have hes := fun w => run_eql_set w s0 s1 s2 s3 0 0 0 0
  have hns := fun w => run_neq_set w s0 s1 s2 s3 0 0 0 0
  rw [← hz] at hes hns
  have HZ := hide hz
  clear hz hres
  go_enter Tryd.func107, Tryd.ntmps107
  go_upto_region 1 with fail
  go_cut [3] (fun v wx => v = .bool (z && num == 0 && mn == 0 && mx == 0 && !bare) ∧ wx = w.alloc (.cells #[.int .i64 kind, .int .u64 s0, .int .u64 s1, .int .u64 s2, .int .u64 s3, .slice A l.length c, .int .i64 num, .int .i64 mn, .int .i64 mx, .bool bare] 52))
  case first =>
    cases z with
    | false =>
      go_wp2_with fail
      go_meet
      case rel => exact ⟨by simp, rfl⟩
    | true =>
      by_cases k_num : num = 0
      case neg =>
        have e_num : (num == 0) = false := by simp [k_num]
        go_wp2_with fail
        go_meet
        case rel => exact ⟨by simp [k_num], rfl⟩
      subst k_num
      by_cases k_mn : mn = 0
      case neg =>
        have e_mn : (mn == 0) = false := by simp [k_mn]
        go_wp2_with fail
        go_meet
        case rel => exact ⟨by simp [k_mn], rfl⟩
      subst k_mn
      by_cases k_mx : mx = 0
      case neg =>
        have e_mx : (mx == 0) = false := by simp [k_mx]
        go_wp2_with fail
        go_meet
        case rel => exact ⟨by simp [k_mx], rfl⟩
      subst k_mx
      go_wp2_with fail
      go_meet
      case rel => exact ⟨by simp, rfl⟩
  case rest =>
    obtain ⟨rfl, rfl⟩ := hcut
    generalize hp : (z && num == 0 && mn == 0 && mx == 0 && !bare) = p
    have HP := hide hp
    clear hp
    go_wp2_with fail
    all_goals
      go_ret
      have hz := HZ.out
      have hp := HP.out
      have hr := HR.out
      simp only [Hd.formed, Hd.plain, Hd.noSet, ← hz] at hr
      refine ⟨?_, (Below.refl _ _).alloc (Nat.le_refl _) _⟩
      rw [hr]
      first
        | (simp_all; done)
        | (simp_all; omega)
        | (simp_all; intros; omega)
        | (have hq : ¬ mn ≤ mx := by omega
           have hq2 : mx ≠ -1 := by omega
           rw [show decide (mn ≤ mx) = false from decide_eq_false hq]
           simp_all)
        | trace_state
end Go.Proofs.YtlomjepemnlliaaDoor
