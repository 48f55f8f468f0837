/- errors.As at a target of type **api.Fault: of a sentinel (no), of a fault (that fault); after the guide's ToyasAs. -/
import Derived.Test.YtpkcklpjbeginaaGreatDoorFaults
set_option linter.unusedSimpArgs false
set_option linter.unusedVariables false
namespace Go.Proofs.YtpkcklpjbeginaaGreatDoor
open Go.RowKit Go.Extern.Stop Go.Stop Go.Extern

/-! ### THE ENTRIES THAT READ OR WRITE MEMORY: laws with a premise on the cell (after Derived/Lib/ReflectliteSlice.lean's manner: each unfolding a lemma of its own, by rfl) -/
/-- The variable errors.errorType lies as laid. -/
def ErrT (w : World) : Prop := w.cell? ⟨21, 0, none⟩ = some (.iface 135 (.agg #[.pointer (some ⟨26, 32, none⟩)]))
theorem ErrT.below {w w' : World} (h : ErrT w) (hb : Below w.heap.size w w') : ErrT w' := (hb.cell (World.block_lt_of_cell? w _ h)).trans h

set_option maxRecDepth 100000 in
set_option maxHeartbeats 2000000 in
theorem num_fault (w : World) (a : Nat → Addr) (gf : Nat) (p : Int) (g : Nat) (hg : g < 21) (he : Errs w a) (hf : Blk w gf 87 #[.int .i64 p, errV (a (sentVar g))]) :
  Calls Tryz.prog 12 #[faultV gf] w fun e w' => e = .returned (.int .i64 (g + 1)) ∧ Below w.heap.size w w' := by
 have hn := fun w => run_eql_iface_nil (P := Tryz.prog) (w := w) 32 (by kernel_rfl) 83 (.pointer (some ⟨gf, 0, none⟩))
 have v0 := he.var 3 (by decide)
 have v1 := he.var 4 (by decide)
 have v2 := he.var 5 (by decide)
 have v3 := he.var 6 (by decide)
 have v4 := he.var 7 (by decide)
 have v5 := he.var 8 (by decide)
 have v6 := he.var 9 (by decide)
 have v7 := he.var 10 (by decide)
 have v8 := he.var 11 (by decide)
 have v9 := he.var 12 (by decide)
 have v10 := he.var 1 (by decide)
 have v11 := he.var 2 (by decide)
 have v12 := he.var 0 (by decide)
 have v13 := he.var 13 (by decide)
 have v14 := he.var 14 (by decide)
 have v15 := he.var 15 (by decide)
 have v16 := he.var 16 (by decide)
 have v17 := he.var 17 (by decide)
 have v18 := he.var 18 (by decide)
 have v19 := he.var 19 (by decide)
 have v20 := he.var 20 (by decide)
 have HE := hide he
 have HFB := hide hf
 clear he hf
 unfold errV faultV at *
 go_enter Tryz.func12, Tryz.ntmps12
 go_wp2_with fail
 have hbelF : Below w.heap.size w (w.alloc (.cells (errRow a) 32)) := (Below.refl _ _).alloc (Nat.le_refl _) _
 have hbF := Blk.new w 32 (errRow a)
 have HE2 := hide (HE.out.below hbelF)
 replace HFB := hide (HFB.out.below hbelF HFB.out.lt)
 go_loopw [4, 33] (fun nv kv wr => ∃ k : Nat, kv = .int .i64 k ∧ k ≤ 21 ∧ nv = .int .i64 (if g < k then (g : Int) + 1 else -1) ∧ wr = w.alloc (.cells (errRow a) 32)) (fun _ kv _ => 21 - (intOf kv).toNat)
 case atStart => exact ⟨0, rfl, by decide, by simp, rfl⟩
 case round =>
  obtain ⟨k, rfl, hk, rfl, rfl⟩ := hrel
  generalize w.alloc (.cells (errRow a) 32) = W at *
  by_cases hlt : k < 21
  ·have g1 : decide ((k : Int) < 21) = true := decide_eq_true (by omega)
   have hck := hbF.cell k
   rw [show (errRow a)[k]? = some (errV (a (sentVar k))) from by simp [errRow, hlt]] at hck
   unfold errV at hck
   have HIs := hide (is_fault HE2.out p gf (sentVar g) (sentVar k) (sv_lt hg) (sv_lt hlt) HFB.out)
   rw [sv_dec hg hlt] at HIs
   have HB := hide hbelF
   clear hbelF hbF
   by_cases hgk : g = k
   ·subst hgk
    have e2 : (if g < g then (g : Int) + 1 else -1) = -1 := by simp
    rw [e2]
    clear e2
    have e1 : decide (g = g) = true := by simp
    rw [e1] at HIs
    clear e1
    go_wp2_with fail
    refine HIs.out.mono ?_
    rintro e w2 ⟨rfl, rfl⟩
    go_wp2_with fail
    go_roundw
    case rel => exact ⟨g + 1, by go_num, hlt, by simp, trivial⟩
    case measure => simp [intOf]; omega
   ·have e1 : decide (g = k) = false := by simp [hgk]
    rw [e1] at HIs
    have e2 : (if g < k + 1 then (g : Int) + 1 else -1) = (if g < k then (g : Int) + 1 else -1) := by
     split <;> split <;> omega
    have H2 := hide e2
    clear e2 e1
    generalize (if g < k then (g : Int) + 1 else -1) = cur at *
    go_wp2_with fail
    refine HIs.out.mono ?_
    rintro e w2 ⟨rfl, rfl⟩
    go_wp2_with fail
    go_roundw
    case rel => exact ⟨k + 1, by go_num, hlt, by rw [H2.out], trivial⟩
    case measure => simp [intOf]; omega
  ·have hk21 : k = 21 := by omega
   subst hk21
   have e2 : (if g < 21 then (g : Int) + 1 else -1) = g + 1 := by simp [hg]
   rw [e2]
   have HB := hide hbelF
   clear hbelF hbF
   go_wp2_with fail
   go_ret
   exact ⟨rfl, HB.out⟩
end Go.Proofs.YtpkcklpjbeginaaGreatDoor
