/- trawllaw05.lives: its fixed facts. -/
import Derived.Test.YtdkonfdhedcajaaDoorRead5
set_option linter.unusedSimpArgs false
set_option linter.unusedVariables false
namespace Go.Proofs.YtdkonfdhedcajaaDoor
open Go.RowKit

/-- The set of the first fixed pattern. -/
def livesS : Nat → Bool := fun x => ((false || decide (97 ≤ x ∧ x ≤ 99)) || decide (x = 45)) || decide (x = 101)
theorem lives_good : readP ⟨#[91, 97, 45, 99, 45, 101, 93]⟩ 0 false false = .good livesS 7 := by kernel_rfl
theorem lives_bad : readP ⟨#[91, 98, 45, 97, 93]⟩ 0 false false = .bad 4 1 := by kernel_rfl
theorem livesS_wd : wd livesS 0 = 35184372088832 ∧ wd livesS 1 = 197568495616 ∧ wd livesS 2 = 0 ∧ wd livesS 3 = 0 := by decide +kernel
set_option maxRecDepth 100000 in
set_option maxHeartbeats 400000 in
theorem ones_a (w : World) : Calls Tryd.prog 58 #[.int .u64 35184372088832] w fun e w' => e = .returned (.int .i64 1) ∧ w' = w := by
  go_enter Tryd.func58, Tryd.ntmps58
  go_wp2_with fail
  go_ret
  exact ⟨by first | rfl | kernel_rfl | decide +kernel, rfl⟩
set_option maxRecDepth 100000 in
set_option maxHeartbeats 400000 in
theorem ones_b (w : World) : Calls Tryd.prog 58 #[.int .u64 197568495616] w fun e w' => e = .returned (.int .i64 4) ∧ w' = w := by
  go_enter Tryd.func58, Tryd.ntmps58
  go_wp2_with fail
  go_ret
  exact ⟨by first | rfl | kernel_rfl | decide +kernel, rfl⟩
set_option maxRecDepth 100000 in
set_option maxHeartbeats 400000 in
theorem ones_z (w : World) : Calls Tryd.prog 58 #[.int .u64 0] w fun e w' => e = .returned (.int .i64 0) ∧ w' = w := by
  go_enter Tryd.func58, Tryd.ntmps58
  go_wp2_with fail
  go_ret
  exact ⟨by first | rfl | kernel_rfl | decide +kernel, rfl⟩
set_option maxRecDepth 100000 in
set_option maxHeartbeats 1000000 in
theorem count5_lives (w : World) : Calls Tryd.prog 33 #[setV livesS] w fun e w' => e = .returned (.int .i64 5) ∧ Below w.heap.size w w' := by
  unfold setV setC
  rw [livesS_wd.1, livesS_wd.2.1, livesS_wd.2.2.1, livesS_wd.2.2.2]
  have hb := (Below.refl w.heap.size w).alloc (Nat.le_refl _) (.cells #[.int .u64 35184372088832, .int .u64 197568495616, .int .u64 0, .int .u64 0] 25)
  have h1 := Blk.new w 25 #[.int .u64 35184372088832, .int .u64 197568495616, .int .u64 0, .int .u64 0]
  have c0 : ∀ i : Nat, _ = _ := h1.cell
  have x0 : ∀ W, (Instr.index 25 (.agg #[.int .u64 35184372088832, .int .u64 197568495616, .int .u64 0, .int .u64 0]) (.int .i64 0)).run Tryd.prog W = .ok (.int .u64 35184372088832) W := fun W => by kernel_rfl
  have x1 : ∀ W, (Instr.index 25 (.agg #[.int .u64 35184372088832, .int .u64 197568495616, .int .u64 0, .int .u64 0]) (.int .i64 1)).run Tryd.prog W = .ok (.int .u64 197568495616) W := fun W => by kernel_rfl
  have x2 : ∀ W, (Instr.index 25 (.agg #[.int .u64 35184372088832, .int .u64 197568495616, .int .u64 0, .int .u64 0]) (.int .i64 2)).run Tryd.prog W = .ok (.int .u64 0) W := fun W => by kernel_rfl
  have x3 : ∀ W, (Instr.index 25 (.agg #[.int .u64 35184372088832, .int .u64 197568495616, .int .u64 0, .int .u64 0]) (.int .i64 3)).run Tryd.prog W = .ok (.int .u64 0) W := fun W => by kernel_rfl
  have HB := hide hb
  clear hb h1
  go_enter Tryd.func33, Tryd.ntmps33
  go_wp2_with fail
  generalize (w.alloc (.cells #[.int .u64 35184372088832, .int .u64 197568495616, .int .u64 0, .int .u64 0] 25)) = W at *
  refine wp_loop_rounds 5 ?_
  rw [rounds_succ]
  go_wp2_with fail
  refine (ones_a W).mono ?_
  rintro e W1 ⟨rfl, hw⟩
  subst hw
  go_wp2_with fail
  rw [rounds_succ]
  go_wp2_with fail
  refine (ones_b _).mono ?_
  rintro e W2 ⟨rfl, hw⟩
  subst hw
  go_wp2_with fail
  rw [rounds_succ]
  go_wp2_with fail
  refine (ones_z _).mono ?_
  rintro e W3 ⟨rfl, hw⟩
  subst hw
  go_wp2_with fail
  rw [rounds_succ]
  go_wp2_with fail
  refine (ones_z _).mono ?_
  rintro e W4 ⟨rfl, hw⟩
  subst hw
  go_wp2_with fail
  rw [rounds_succ]
  go_wp2_with fail
  go_ret
  exact ⟨rfl, HB.out⟩

theorem lives_r1 (a : Nat → Addr) (w : World) (e : Ending) (w' : World) (h : ReadIs ⟨#[91, 97, 45, 99, 45, 101, 93]⟩ 0 0 a w e w') : e = .returned (.tuple #[setV livesS, .int .i64 7, .nilIface]) ∧ Below w.heap.size w w' := by
  unfold ReadIs at h
  rw [if_pos (by decide), show (!decide (bits .and .i64 0 2 = 0)) = false by decide, show (!decide (bits .and .i64 0 4 = 0)) = false by decide, show (0 : Int).toNat = 0 from rfl, lives_good] at h
  exact h
theorem lives_r2 (a : Nat → Addr) (w : World) (e : Ending) (w' : World) (h : ReadIs ⟨#[91, 98, 45, 97, 93]⟩ 0 0 a w e w') : R5.Is (.bad 4 1) a w e w' := by
  unfold ReadIs at h
  rw [if_pos (by decide), show (!decide (bits .and .i64 0 2 = 0)) = false by decide, show (!decide (bits .and .i64 0 4 = 0)) = false by decide, show (0 : Int).toNat = 0 from rfl, lives_bad] at h
  exact h
set_option maxRecDepth 100000 in
set_option maxHeartbeats 1000000 in
theorem lives5_any (a : Nat → Addr) (m : Int) (w : World) (hB : B5 w a m) (hT : ErrT w) : Calls Tryd.prog 11 #[] w fun e w' => e = .returned (.bool true) ∧ Below w.heap.size w w' := by
  have HB := hide (And.intro hB hT)
  clear hB hT
  go_enter Tryd.func11, Tryd.ntmps11
  go_wp2_with fail
  refine (read5_any _ 0 0 (by decide) a m w HB.out.1).mono ?_
  intro e w1 hres
  obtain ⟨rfl, hb1⟩ := lives_r1 a w e w1 hres
  clear hres
  have hal := hb1.alloc hb1.size (.cells #[.int .u64 0, .int .u64 0, .int .u64 0, .int .u64 0] 25)
  have hzb := Blk.new w1 25 #[.int .u64 0, .int .u64 0, .int .u64 0, .int .u64 0]
  have hz1 := hb1.size
  unfold setV setC
  go_wp2_with (refine wpList_store_row rfl _ _ _ rfl w1.heap.size 0 _ _ _ rfl rfl hzb Tryd.sizeSetO (by simp) (by simp [Value.oneCell']) ?_)
  intro w2 hrow2 hg9 hz9
  have hrow := hrow2.out
  rw [splice_full (by rfl)] at hrow
  have hb2 : Below w.heap.size w w2 := below_grew hal hg9 (Nat.le_refl _) (fun q hq => by rw [← Option.some.inj hq]; exact hz1)
  have H2 := hide (And.intro (show Blk w2 w1.heap.size 25 (setC livesS).toArray from hrow) (And.intro hb2 (And.intro (HB.out.1.below hb2) (HB.out.2.below hb2))))
  have hgl := hrow.lt
  clear hal hzb hrow hrow2 hg9 hz9 hb1 hb2
  generalize hg1 : w1.heap.size = g1 at *
  clear hg1
  go_wp2_with fail
  refine (read5_any _ 0 0 (by decide) a m w2 H2.out.2.2.1).mono ?_
  intro e w3 hres
  obtain ⟨gf, rfl, hgf, hbf, hb3⟩ := lives_r2 a w2 e w3 hres
  clear hres
  have H3 := hide (And.intro (H2.out.1.below hb3 hgl) (And.intro (H2.out.2.1.trans (hb3.mono H2.out.2.1.size)) (And.intro (H2.out.2.2.1.below hb3) (And.intro (H2.out.2.2.2.below hb3) hbf))))
  have hal := (Below.refl w3.heap.size w3).alloc (Nat.le_refl _) (.cells #[.int .u64 0, .int .u64 0, .int .u64 0, .int .u64 0] 25)
  have hzb := Blk.new w3 25 #[.int .u64 0, .int .u64 0, .int .u64 0, .int .u64 0]
  have hz3 := hb3.size
  have hgfl := hbf.lt
  clear hb3 hbf H2
  rw [setV_none]
  go_wp2_with (refine wpList_store_row rfl _ _ _ rfl w3.heap.size 0 _ _ _ rfl rfl hzb Tryd.sizeSetO (by simp) (by simp [Value.oneCell']) ?_)
  intro w4 hrow2 hg9 hz9
  have hb4 : Below w3.heap.size w3 w4 := below_grew hal hg9 (Nat.le_refl _) (fun q hq => by rw [← Option.some.inj hq]; exact Nat.le_refl _)
  have H4 := hide (And.intro (H3.out.1.below hb4 (by omega)) (And.intro (H3.out.2.1.trans (hb4.mono H3.out.2.1.size)) (And.intro (H3.out.2.2.1.below hb4) (And.intro (H3.out.2.2.2.1.below hb4) (H3.out.2.2.2.2.below hb4 hgfl)))))
  have hz4 := hb4.size
  clear hrow2 hg9 hz9 hal hzb hb4 H3
  have cb : ∀ i : Nat, _ = _ := H4.out.1.cell
  simp only [setC] at cb
  have hcnt := count5_lives w4
  unfold setV setC at hcnt
  go_wp2_with fail
  refine hcnt.mono ?_
  rintro e w5 ⟨rfl, hb5⟩
  have H5 := hide (And.intro (H4.out.1.below hb5 (by omega)) (And.intro (H4.out.2.1.trans (hb5.mono H4.out.2.1.size)) (And.intro (H4.out.2.2.1.below hb5) (And.intro (H4.out.2.2.2.1.below hb5) (H4.out.2.2.2.2.below hb5 (by omega))))))
  have hz5 := hb5.size
  clear hb5 H4 cb hcnt
  have cb : ∀ i : Nat, _ = _ := H5.out.1.cell
  simp only [setC] at cb
  have hhas := has5_any livesS 45 (by decide) w5
  unfold setV setC at hhas
  go_wp2_with fail
  refine hhas.mono ?_
  rintro e w6 ⟨rfl, hb6⟩
  rw [show livesS 45 = true from rfl]
  have H6 := hide (And.intro (H5.out.2.1.trans (hb6.mono H5.out.2.1.size)) (And.intro (H5.out.2.2.1.below hb6) (And.intro (H5.out.2.2.2.1.below hb6) (H5.out.2.2.2.2.below hb6 (by omega)))))
  have hz6 := hb6.size
  clear hb6 H5 cb hhas
  go_wp2_with fail
  refine (num_fault w6 a gf 1 4 (by decide) H6.out.2.1.errs H6.out.2.2.2).mono ?_
  rintro e w7 ⟨rfl, hb7⟩
  have H7 := hide (And.intro (H6.out.1.trans (hb7.mono H6.out.1.size)) (And.intro (H6.out.2.2.1.below hb7) (H6.out.2.2.2.below hb7 (by omega))))
  clear hb7 H6
  go_wp2_with fail
  refine (place_fault gf 1 (a 5) w7 H7.out.2.1 H7.out.2.2).mono ?_
  rintro e w8 ⟨rfl, hb8⟩
  have HF := hide (H7.out.1.trans (hb8.mono H7.out.1.size))
  clear hb8 H7
  go_wp2_with fail
  go_ret
  exact ⟨rfl, HF.out⟩
end Go.Proofs.YtdkonfdhedcajaaDoor
