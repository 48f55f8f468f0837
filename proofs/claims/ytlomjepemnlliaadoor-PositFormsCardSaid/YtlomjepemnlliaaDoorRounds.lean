/- tree.rounds. -/
import Derived.Test.YtlomjepemnlliaaDoorProg
import Derived.Test.YtlomjepemnlliaaDoorMem
import Derived.Outline
set_option linter.unusedSimpArgs false
set_option linter.unusedVariables false
namespace Go.Proofs.YtlomjepemnlliaaDoor
open Go.RowKit

def Hd.rounds (h : Hd) (n : Int) : Int :=
  if h.min = 1 ∧ h.max = 1 then n
  else if h.min = 0 ∧ (h.max = 1 ∨ h.max = -1) then 1 + n
  else if h.max = -1 then 1 + h.min * n + 1 + n
  else 1 + h.min * n + (h.max - h.min) * (1 + n)

set_option maxRecDepth 100000 in
set_option maxHeartbeats 1000000 in
theorem rounds_any (t : T) (A : Option Addr) (c : Nat) (n : Int) (w : World) (h0 : 0 ≤ n) (h1 : n ≤ 2001) (h2 : 0 ≤ t.hd.min) (h3 : t.hd.min ≤ 255) (h4 : t.hd.max = -1 ∨ (t.hd.min ≤ t.hd.max ∧ t.hd.max ≤ 255)) :
    Calls Tryd.prog 108 #[.agg (t.hd.cells (.slice A t.subs.length c)).toArray, .int .i64 n] w fun e w' => e = .returned (.int .i64 (t.hd.rounds n)) ∧ Below w.heap.size w w' := by
  obtain ⟨h, l⟩ := t
  obtain ⟨kind, s0, s1, s2, s3, num, mn, mx, bare⟩ := h
  simp only [T.hd, T.subs, Hd.cells] at h2 h3 h4 ⊢
  obtain ⟨res, hres⟩ : ∃ r, r = (Hd.rounds ⟨kind, s0, s1, s2, s3, num, mn, mx, bare⟩ n) := ⟨_, rfl⟩
  rw [← hres]
  have HR := hide hres
  clear hres
  have hm1 : 0 ≤ mn * n := Int.mul_nonneg h2 h0
  have hm2 : mn * n ≤ 255 * 2001 := Int.mul_le_mul h3 h1 h0 (by decide)
  by_cases a1 : mn = 1
  case pos =>
    subst a1
    by_cases b1 : mx = 1
    case pos =>
      subst b1
      go_enter Tryd.func108, Tryd.ntmps108
      go_wp2_with fail
      go_ret
      exact ⟨by rw [HR.out]; simp [Hd.rounds], (Below.refl _ _).alloc (Nat.le_refl _) _⟩
    have e1 : (mx == 1) = false := by simp [b1]
    by_cases b2 : mx = -1
    case pos =>
      subst b2
      go_enter Tryd.func108, Tryd.ntmps108
      go_wp2_with fail
      go_ret
      exact ⟨by rw [HR.out]; simp [Hd.rounds], (Below.refl _ _).alloc (Nat.le_refl _) _⟩
    have e2 : (mx == -1) = false := by simp [b2]
    have hk0 : 0 ≤ (mx - 1) * (1 + n) := Int.mul_nonneg (by omega) (by omega)
    have hk1 : (mx - 1) * (1 + n) ≤ 254 * 2002 := Int.mul_le_mul (by omega) (by omega) (by omega) (by decide)
    go_enter Tryd.func108, Tryd.ntmps108
    go_wp2_with fail
    go_ret
    exact ⟨by rw [HR.out]; simp [Hd.rounds, b1, b2], (Below.refl _ _).alloc (Nat.le_refl _) _⟩
  have f1 : (mn == 1) = false := by simp [a1]
  by_cases a0 : mn = 0
  case pos =>
    subst a0
    by_cases b1 : mx = 1
    case pos =>
      subst b1
      go_enter Tryd.func108, Tryd.ntmps108
      go_wp2_with fail
      go_ret
      exact ⟨by rw [HR.out]; simp [Hd.rounds], (Below.refl _ _).alloc (Nat.le_refl _) _⟩
    have e1 : (mx == 1) = false := by simp [b1]
    by_cases b2 : mx = -1
    case pos =>
      subst b2
      go_enter Tryd.func108, Tryd.ntmps108
      go_wp2_with fail
      go_ret
      exact ⟨by rw [HR.out]; simp [Hd.rounds], (Below.refl _ _).alloc (Nat.le_refl _) _⟩
    have e2 : (mx == -1) = false := by simp [b2]
    have hk0 : 0 ≤ mx * (1 + n) := Int.mul_nonneg (by omega) (by omega)
    have hk1 : mx * (1 + n) ≤ 255 * 2002 := Int.mul_le_mul (by omega) (by omega) (by omega) (by decide)
    go_enter Tryd.func108, Tryd.ntmps108
    go_wp2_with fail
    go_ret
    exact ⟨by rw [HR.out]; simp [Hd.rounds, b1, b2], (Below.refl _ _).alloc (Nat.le_refl _) _⟩
  have f0 : (mn == 0) = false := by simp [a0]
  by_cases b2 : mx = -1
  case pos =>
    subst b2
    go_enter Tryd.func108, Tryd.ntmps108
    go_wp2_with fail
    go_ret
    exact ⟨by rw [HR.out]; simp [Hd.rounds, a1, a0], (Below.refl _ _).alloc (Nat.le_refl _) _⟩
  have e2 : (mx == -1) = false := by simp [b2]
  have hk0 : 0 ≤ (mx - mn) * (1 + n) := Int.mul_nonneg (by omega) (by omega)
  have hk1 : (mx - mn) * (1 + n) ≤ 255 * 2002 := Int.mul_le_mul (by omega) (by omega) (by omega) (by decide)
  go_enter Tryd.func108, Tryd.ntmps108
  go_wp2_with fail
  go_ret
  exact ⟨by rw [HR.out]; simp [Hd.rounds, a1, a0, b2], (Below.refl _ _).alloc (Nat.le_refl _) _⟩
end Go.Proofs.YtlomjepemnlliaaDoor
