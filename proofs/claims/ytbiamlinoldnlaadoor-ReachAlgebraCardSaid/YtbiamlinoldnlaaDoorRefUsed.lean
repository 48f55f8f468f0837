/- trawlref04.used: a node with nothing but what its kind uses. -/
import Derived.Test.YtbiamlinoldnlaaDoorForm
import Derived.Outline
import Derived.Deep.DeepCutAuto
set_option linter.unusedSimpArgs false
set_option linter.unusedVariables false
namespace Go.Proofs.YtbiamlinoldnlaaDoor
open Go.RowKit

/-- A node with nothing but what its kind uses. -/
def Hd.used (h : Hd) : Hd :=
  if h.kind = 2 then ⟨h.kind, h.s0, h.s1, h.s2, h.s3, 0, 0, 0, false⟩
  else if h.kind = 7 then ⟨h.kind, 0, 0, 0, 0, h.num, 0, 0, false⟩
  else if h.kind = 8 then ⟨h.kind, 0, 0, 0, 0, 0, h.min, h.max, h.bare⟩
  else ⟨h.kind, 0, 0, 0, 0, 0, 0, 0, false⟩

set_option maxRecDepth 100000 in
set_option maxHeartbeats 2000000 in
theorem used_any (t : T) (A : Option Addr) (c : Nat) (w : World) :
    Calls Tryd.prog 108 #[.agg (t.hd.cells (.slice A t.subs.length c)).toArray] w fun e w' => e = .returned (.agg (t.hd.used.cells (.slice none 0 0)).toArray) ∧ Below w.heap.size w w' := by
  obtain ⟨h, l⟩ := t
  obtain ⟨kind, s0, s1, s2, s3, num, mn, mx, bare⟩ := h
  simp only [T.hd, T.subs, Hd.cells]
  by_cases k2 : kind = 2
  · subst k2
    go_enter Tryd.func108, Tryd.ntmps108
    go_wp2_with fail
    refine bodyPost_ret (v := .agg #[.int .i64 2, .int .u64 s0, .int .u64 s1, .int .u64 s2, .int .u64 s3, .slice none 0 0, .int .i64 0, .int .i64 0, .int .i64 0, .bool false])
      (by simp [results, Tryd.results108, go_sem]) rfl ?_
    refine ⟨by simp [Hd.used, Hd.cells], ?_⟩
    exact (((Below.refl _ _).alloc (Nat.le_refl _) _).alloc (by simp) _).alloc (by simp; omega) _
  by_cases k7 : kind = 7
  · subst k7
    go_enter Tryd.func108, Tryd.ntmps108
    go_wp2_with fail
    refine bodyPost_ret (v := .agg #[.int .i64 7, .int .u64 0, .int .u64 0, .int .u64 0, .int .u64 0, .slice none 0 0, .int .i64 num, .int .i64 0, .int .i64 0, .bool false])
      (by simp [results, Tryd.results108, go_sem]) rfl ?_
    refine ⟨by simp [Hd.used, Hd.cells], ?_⟩
    exact (((Below.refl _ _).alloc (Nat.le_refl _) _).alloc (by simp) _).alloc (by simp; omega) _
  by_cases k8 : kind = 8
  · subst k8
    go_enter Tryd.func108, Tryd.ntmps108
    go_wp2_with fail
    refine bodyPost_ret (v := .agg #[.int .i64 8, .int .u64 0, .int .u64 0, .int .u64 0, .int .u64 0, .slice none 0 0, .int .i64 0, .int .i64 mn, .int .i64 mx, .bool bare])
      (by simp [results, Tryd.results108, go_sem]) rfl ?_
    refine ⟨by simp [Hd.used, Hd.cells], ?_⟩
    exact (((Below.refl _ _).alloc (Nat.le_refl _) _).alloc (by simp) _).alloc (by simp; omega) _
  have e2 : (kind == 2) = false := by simp [k2]
  have e7 : (kind == 7) = false := by simp [k7]
  have e8 : (kind == 8) = false := by simp [k8]
  go_enter Tryd.func108, Tryd.ntmps108
  go_wp2_with fail
  refine bodyPost_ret (v := .agg #[.int .i64 kind, .int .u64 0, .int .u64 0, .int .u64 0, .int .u64 0, .slice none 0 0, .int .i64 0, .int .i64 0, .int .i64 0, .bool false])
    (by simp [results, Tryd.results108, go_sem]) rfl ?_
  refine ⟨by simp [Hd.used, Hd.cells, k2, k7, k8], ?_⟩
  exact (((Below.refl _ _).alloc (Nat.le_refl _) _).alloc (by simp) _).alloc (by simp; omega) _
end Go.Proofs.YtbiamlinoldnlaaDoor
