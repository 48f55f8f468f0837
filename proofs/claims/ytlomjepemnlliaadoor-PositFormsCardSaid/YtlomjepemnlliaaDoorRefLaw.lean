/- RefUsed: trawlref04.used: a node with nothing but what its kind uses.
RefLaw: The plain law: the document's form of a node is the program's. -/
import Derived.Test.YtlomjepemnlliaaDoorForm
import Derived.Outline
import Derived.Deep.DeepCutAuto
set_option linter.unusedSimpArgs false
set_option linter.unusedVariables false
set_option linter.unnecessarySimpa false

/-! ## RefUsed -/
namespace Go.Proofs.YtlomjepemnlliaaDoor
open Go.RowKit

/-- A node with nothing but what its kind uses. -/
def Hd.used (h : Hd) : Hd :=
  if h.kind = 2 then ⟨h.kind, h.s0, h.s1, h.s2, h.s3, 0, 0, 0, false⟩
  else if h.kind = 7 then ⟨h.kind, 0, 0, 0, 0, h.num, 0, 0, false⟩
  else if h.kind = 8 then ⟨h.kind, 0, 0, 0, 0, 0, h.min, h.max, h.bare⟩
  else ⟨h.kind, 0, 0, 0, 0, 0, 0, 0, false⟩

set_option maxRecDepth 100000 in
set_option maxHeartbeats 2000000 in
theorem used_any (t : T) (A : Option Addr) (c : Nat) (w : World) :
    Calls Tryd.prog 87 #[.agg (t.hd.cells (.slice A t.subs.length c)).toArray] w fun e w' => e = .returned (.agg (t.hd.used.cells (.slice none 0 0)).toArray) ∧ Below w.heap.size w w' := by
  obtain ⟨h, l⟩ := t
  obtain ⟨kind, s0, s1, s2, s3, num, mn, mx, bare⟩ := h
  simp only [T.hd, T.subs, Hd.cells]
  by_cases k2 : kind = 2
  · subst k2
    go_enter Tryd.func87, Tryd.ntmps87
    go_wp2_with fail
    refine bodyPost_ret (v := .agg #[.int .i64 2, .int .u64 s0, .int .u64 s1, .int .u64 s2, .int .u64 s3, .slice none 0 0, .int .i64 0, .int .i64 0, .int .i64 0, .bool false])
      (by simp [results, Tryd.results87, go_sem]) rfl ?_
    refine ⟨by simp [Hd.used, Hd.cells], ?_⟩
    exact (((Below.refl _ _).alloc (Nat.le_refl _) _).alloc (by simp) _).alloc (by simp; omega) _
  by_cases k7 : kind = 7
  · subst k7
    go_enter Tryd.func87, Tryd.ntmps87
    go_wp2_with fail
    refine bodyPost_ret (v := .agg #[.int .i64 7, .int .u64 0, .int .u64 0, .int .u64 0, .int .u64 0, .slice none 0 0, .int .i64 num, .int .i64 0, .int .i64 0, .bool false])
      (by simp [results, Tryd.results87, go_sem]) rfl ?_
    refine ⟨by simp [Hd.used, Hd.cells], ?_⟩
    exact (((Below.refl _ _).alloc (Nat.le_refl _) _).alloc (by simp) _).alloc (by simp; omega) _
  by_cases k8 : kind = 8
  · subst k8
    go_enter Tryd.func87, Tryd.ntmps87
    go_wp2_with fail
    refine bodyPost_ret (v := .agg #[.int .i64 8, .int .u64 0, .int .u64 0, .int .u64 0, .int .u64 0, .slice none 0 0, .int .i64 0, .int .i64 mn, .int .i64 mx, .bool bare])
      (by simp [results, Tryd.results87, go_sem]) rfl ?_
    refine ⟨by simp [Hd.used, Hd.cells], ?_⟩
    exact (((Below.refl _ _).alloc (Nat.le_refl _) _).alloc (by simp) _).alloc (by simp; omega) _
  have e2 : (kind == 2) = false := by simp [k2]
  have e7 : (kind == 7) = false := by simp [k7]
  have e8 : (kind == 8) = false := by simp [k8]
  go_enter Tryd.func87, Tryd.ntmps87
  go_wp2_with fail
  refine bodyPost_ret (v := .agg #[.int .i64 kind, .int .u64 0, .int .u64 0, .int .u64 0, .int .u64 0, .slice none 0 0, .int .i64 0, .int .i64 0, .int .i64 0, .bool false])
    (by simp [results, Tryd.results87, go_sem]) rfl ?_
  refine ⟨by simp [Hd.used, Hd.cells, k2, k7, k8], ?_⟩
  exact (((Below.refl _ _).alloc (Nat.le_refl _) _).alloc (by simp) _).alloc (by simp; omega) _
end Go.Proofs.YtlomjepemnlliaaDoor

/-! ## RefLaw -/
namespace Go.Proofs.YtlomjepemnlliaaDoor

def Hd.bad (h : Hd) (u : Hd) : Bool :=
  decide (h.kind < 1) || decide (8 < h.kind) || !(h.s0 == u.s0 && h.s1 == u.s1 && h.s2 == u.s2 && h.s3 == u.s3) || h.num != u.num || h.min != u.min || h.max != u.max || h.bare != u.bare

/-- What the document asks beside, of a node of n Subs. -/
def Hd.shape (h : Hd) (n : Int) : Bool :=
  if h.kind = 5 ∨ h.kind = 6 then !decide (n < 2)
  else if h.kind = 7 then !(n != 1 || decide (h.num < 1) || decide (999 < h.num))
  else if h.kind = 8 then !(n != 1 || decide (h.min < 0) || decide (255 < h.min) || decide (h.max < -1) || decide (255 < h.max) || (decide (0 ≤ h.max) && decide (h.max < h.min)) || (h.bare && h.min != 0))
  else !(n != 0)

theorem Hd.formed_ref (h : Hd) (n : Int) : h.formed n = (!h.bad h.used && h.shape n) := by
  obtain ⟨k, s0, s1, s2, s3, num, mn, mx, ba⟩ := h
  by_cases h1 : k = 1
  · subst h1
    rw [Bool.eq_iff_iff]
    cases ba <;> simp [Hd.formed, Hd.bad, Hd.used, Hd.shape, Hd.plain, Hd.noSet] <;> omega
  by_cases h2 : k = 2
  · subst h2
    rw [Bool.eq_iff_iff]
    cases ba <;> simp [Hd.formed, Hd.bad, Hd.used, Hd.shape, Hd.plain, Hd.noSet] <;> omega
  by_cases h3 : k = 3
  · subst h3
    rw [Bool.eq_iff_iff]
    cases ba <;> simp [Hd.formed, Hd.bad, Hd.used, Hd.shape, Hd.plain, Hd.noSet] <;> omega
  by_cases h4 : k = 4
  · subst h4
    rw [Bool.eq_iff_iff]
    cases ba <;> simp [Hd.formed, Hd.bad, Hd.used, Hd.shape, Hd.plain, Hd.noSet] <;> omega
  by_cases h5 : k = 5
  · subst h5
    rw [Bool.eq_iff_iff]
    cases ba <;> simp [Hd.formed, Hd.bad, Hd.used, Hd.shape, Hd.plain, Hd.noSet] <;> omega
  by_cases h6 : k = 6
  · subst h6
    rw [Bool.eq_iff_iff]
    cases ba <;> simp [Hd.formed, Hd.bad, Hd.used, Hd.shape, Hd.plain, Hd.noSet] <;> omega
  by_cases h7 : k = 7
  · subst h7
    rw [Bool.eq_iff_iff]
    cases ba <;> simp [Hd.formed, Hd.bad, Hd.used, Hd.shape, Hd.plain, Hd.noSet] <;> omega
  by_cases h8 : k = 8
  · subst h8
    rw [Bool.eq_iff_iff]
    cases ba <;> simp [Hd.formed, Hd.bad, Hd.used, Hd.shape, Hd.plain, Hd.noSet] <;> omega
  · have g1 : ¬ (k = 1 ∨ k = 3 ∨ k = 4) := by omega
    have g2 : ¬ (k = 5 ∨ k = 6) := by omega
    have g3 : k < 1 ∨ 8 < k := by omega
    simp only [Hd.formed, g1, g2, h2, h7, h8, if_false, Hd.bad]
    rcases g3 with g | g <;> simp [g]
end Go.Proofs.YtlomjepemnlliaaDoor
