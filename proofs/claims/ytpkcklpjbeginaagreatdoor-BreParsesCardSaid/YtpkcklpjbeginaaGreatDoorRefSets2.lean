/- trawlref01: Join, Meet, Not, Range, Of one byte. (Printed by gen_refsets2.py.) -/
import Derived.Test.YtpkcklpjbeginaaGreatDoorRefSets
import Derived.Deep.DeepCutAuto
set_option linter.unusedSimpArgs false
set_option linter.unusedVariables false
namespace Go.Proofs.YtpkcklpjbeginaaGreatDoor
open Go.RowKit

set_option maxRecDepth 100000 in
set_option maxHeartbeats 4000000 in
theorem refJoin_any (S T : Nat → Bool) (w : World) : Calls Tryz.prog 154 #[setV S, setV T] w (SetIs (fun x => S x || T x) w) := by
 unfold setV
 have hb := (((Below.refl w.heap.size w).alloc (Nat.le_refl _) (.cells (setC S).toArray 24)).alloc (by simp) (.cells (setC T).toArray 24)).alloc (by simp; omega) (.cells #[.int .u64 0, .int .u64 0, .int .u64 0, .int .u64 0] 24)
 have h1 := ((Blk.new w 24 (setC S).toArray).alloc (.cells (setC T).toArray 24)).alloc (.cells #[.int .u64 0, .int .u64 0, .int .u64 0, .int .u64 0] 24)
 have h2 := (Blk.new (w.alloc (.cells (setC S).toArray 24)) 24 (setC T).toArray).alloc (.cells #[.int .u64 0, .int .u64 0, .int .u64 0, .int .u64 0] 24)
 have h3 := Blk.new ((w.alloc (.cells (setC S).toArray 24)).alloc (.cells (setC T).toArray 24)) 24 #[.int .u64 0, .int .u64 0, .int .u64 0, .int .u64 0]
 rw [World.size_alloc, World.size_alloc] at h3
 rw [World.size_alloc] at h2
 have hsz : w.heap.size + 2 < (((w.alloc (.cells (setC S).toArray 24)).alloc (.cells (setC T).toArray 24)).alloc (.cells #[.int .u64 0, .int .u64 0, .int .u64 0, .int .u64 0] 24)).heap.size := by simp
 have H0 := hide (And.intro h1 (And.intro h2 (And.intro h3 hb)))
 clear hb h1 h2 h3
 go_enter Tryz.func154, Tryz.ntmps154
 go_upto_region 1 with fail
 generalize (((w.alloc (.cells (setC S).toArray 24)).alloc (.cells (setC T).toArray 24)).alloc (.cells #[.int .u64 0, .int .u64 0, .int .u64 0, .int .u64 0] 24)) = W at *
 go_cut [5, 6] (fun p q wx => ∃ g5 g6, p = .pointer (some ⟨g5, 0, none⟩) ∧ q = .pointer (some ⟨g6, 0, none⟩) ∧ g5 ≠ g6 ∧ W.heap.size ≤ g5 ∧ W.heap.size ≤ g6 ∧ Blk wx g5 132 (boolsC S).toArray ∧ Blk wx g6 132 (boolsC T).toArray ∧ Below W.heap.size W wx)
 case first =>
  refine wp_region_mix (fun x => Below W.heap.size W x) [6, 7] (by kernel_rfl) (fun hcl => ?_)
  have hS : Below W.heap.size W W.drew := (Below.refl _ _).drew
  refine wpAnyT_take (i := 0) hcl rfl (by kernel_rfl) (v := ?_) (fun _ _ _ h => h) hS (Or.inl ⟨rfl, fun w' hS => ?_⟩) (fun hcl => ?_)
  rotate_left
  ·skip
   have cw : ∀ i : Nat, _ = _ := (H0.out.1.below hS (by omega)).cell
   simp only [setC] at cw
   go_simp
   with_reducible rfl
  simp only [List.getElem_toArray, List.getElem_cons_zero, List.getElem_cons_succ, Act.put, List.setIfInBounds_toArray, List.set_cons_zero, List.set_cons_succ]
  refine wpAnyT_take (i := 2) hcl rfl (by kernel_rfl) (v := ?_) (fun _ _ _ h => h) hS (Or.inl ⟨rfl, fun w' hS => ?_⟩) (fun hcl => ?_)
  rotate_left
  ·skip
   have cw : ∀ i : Nat, _ = _ := (H0.out.2.1.below hS (by omega)).cell
   simp only [setC] at cw
   go_simp
   with_reducible rfl
  simp only [List.getElem_toArray, List.getElem_cons_zero, List.getElem_cons_succ, Act.put, List.setIfInBounds_toArray, List.set_cons_zero, List.set_cons_succ]
  obtain ⟨x0, hx0⟩ : ∃ x, x = W.drew := ⟨_, rfl⟩
  rw [← hx0] at hS ⊢
  have zx0 : W.heap.size ≤ x0.heap.size := hS.size
  clear hx0
  refine wpAnyT_pick3 (i := 1) (j := 4) (l := 5) hcl rfl rfl rfl (by kernel_rfl) (fun hcl => ?_) (fun hcl => ?_) (fun hcl => ?_)
  ·skip
   simp only [List.getElem_toArray, List.getElem_cons_zero, List.getElem_cons_succ, Act.put, List.setIfInBounds_toArray, List.set_cons_zero, List.set_cons_succ]
   go_wp2_with fail
   refine (show Calls Tryz.prog _ _ x0 _ from (bits_any S x0)).mono ?_
   rintro e x1 ⟨rfl, hbel1⟩
   have zx1 : x0.heap.size ≤ x1.heap.size := hbel1.size
   have hS1 : Below W.heap.size W x1 := hS.trans (hbel1.mono (by omega))
   go_wp2_with fail
   refine ⟨hS1, ?_⟩
   refine wpAnyT_pick3 (i := 3) (j := 4) (l := 5) hcl rfl rfl rfl (by kernel_rfl) (fun hcl => ?_) (fun hcl => ?_) (fun hcl => ?_)
   ·skip
    simp only [List.getElem_toArray, List.getElem_cons_zero, List.getElem_cons_succ, Act.put, List.setIfInBounds_toArray, List.set_cons_zero, List.set_cons_succ]
    go_wp2_with fail
    refine (show Calls Tryz.prog _ _ x1 _ from (bits_any T x1)).mono ?_
    rintro e x2 ⟨rfl, hbel2⟩
    have zx2 : x1.heap.size ≤ x2.heap.size := hbel2.size
    have hS2 : Below W.heap.size W x2 := hS1.trans (hbel2.mono (by omega))
    go_wp2_with fail
    refine ⟨hS2, ?_⟩
    refine wpAnyT_pick2 (i := 4) (j := 5) hcl rfl rfl (by kernel_rfl) (fun hcl => ?_) (fun hcl => ?_)
    ·skip
     simp only [List.getElem_toArray, List.getElem_cons_zero, List.getElem_cons_succ, Act.put, List.setIfInBounds_toArray, List.set_cons_zero, List.set_cons_succ]
     refine wpList_alloc_bools rfl rfl ?_
     refine wpList_nil ?_
     generalize hx3 : x2.alloc (.cells (boolsC fun _ => false).toArray 132) = x3
     have hg3 : Blk x3 x2.heap.size 132 (boolsC fun _ => false).toArray := hx3 ▸ Blk.new x2 132 _
     have zx3 : x2.heap.size < x3.heap.size := by rw [← hx3]; simp
     have hS3 : Below W.heap.size W x3 := hx3 ▸ hS2.alloc (by omega) _
     have hbel3 : Below x2.heap.size x2 x3 := hx3 ▸ (Below.refl _ _).alloc (Nat.le_refl _) _
     clear hx3
     refine ⟨hS3, ?_⟩
     refine wpAnyT_step (i := 5) hcl rfl (by kernel_rfl) (fun hcl => ?_)
     simp only [List.getElem_toArray, List.getElem_cons_zero, List.getElem_cons_succ, Act.put, List.setIfInBounds_toArray, List.set_cons_zero, List.set_cons_succ]
     refine wpList_alloc_bools rfl rfl ?_
     refine wpList_nil ?_
     generalize hx4 : x3.alloc (.cells (boolsC fun _ => false).toArray 132) = x4
     have hg4 : Blk x4 x3.heap.size 132 (boolsC fun _ => false).toArray := hx4 ▸ Blk.new x3 132 _
     have zx4 : x3.heap.size < x4.heap.size := by rw [← hx4]; simp
     have hS4 : Below W.heap.size W x4 := hx4 ▸ hS3.alloc (by omega) _
     have hbel4 : Below x3.heap.size x3 x4 := hx4 ▸ (Below.refl _ _).alloc (Nat.le_refl _) _
     clear hx4
     have hg3_4 := hg3.below hbel4 (by omega)
     refine ⟨hS4, ?_⟩
     refine wpAnyT_last (i := 6) hcl rfl (by kernel_rfl) (by kernel_rfl) (fun hcl => ?_)
     simp only [List.getElem_toArray, List.getElem_cons_zero, List.getElem_cons_succ, Act.put, List.setIfInBounds_toArray, List.set_cons_zero, List.set_cons_succ]
     refine wpList_store_bools rfl _ _ rfl x2.heap.size _ S rfl rfl hg3_4 (by simp [boolsC_len]) ?_
     intro y5 hrow5 hgr5 hz5
     refine wpList_nil ?_
     have hgb5 := hg4.grown hgr5 (by simp; omega)
     refine wpAnyT_last (i := 7) hcl rfl (by kernel_rfl) (by kernel_rfl) (fun hcl => ?_)
     simp only [List.getElem_toArray, List.getElem_cons_zero, List.getElem_cons_succ, Act.put, List.setIfInBounds_toArray, List.set_cons_zero, List.set_cons_succ]
     refine wpList_store_bools rfl _ _ rfl x3.heap.size _ T rfl rfl hgb5 (by simp [boolsC_len]) ?_
     intro v5 hrow25 hgr25 hz25
     refine wpList_nil ?_
     refine wpAnyT_done (by kernel_rfl) ?_ _
     have HX := hide (And.intro (hrow5.grown hgr25 (by simp; omega)) (And.intro hrow25 (below_grew (below_grew hS4 hgr5 (Nat.le_refl _) (fun q hq => by rw [← Option.some.inj hq]; omega)) hgr25 (Nat.le_refl _) (fun q hq => by rw [← Option.some.inj hq]; omega))))
     go_wp2_with fail
     go_meet
     case rel => exact ⟨_, _, rfl, rfl, by omega, by omega, by omega, HX.out.1, HX.out.2.1, HX.out.2.2⟩
    ·skip
     simp only [List.getElem_toArray, List.getElem_cons_zero, List.getElem_cons_succ, Act.put, List.setIfInBounds_toArray, List.set_cons_zero, List.set_cons_succ]
     refine wpList_alloc_bools rfl rfl ?_
     refine wpList_nil ?_
     generalize hx6 : x2.alloc (.cells (boolsC fun _ => false).toArray 132) = x6
     have hg6 : Blk x6 x2.heap.size 132 (boolsC fun _ => false).toArray := hx6 ▸ Blk.new x2 132 _
     have zx6 : x2.heap.size < x6.heap.size := by rw [← hx6]; simp
     have hS6 : Below W.heap.size W x6 := hx6 ▸ hS2.alloc (by omega) _
     have hbel6 : Below x2.heap.size x2 x6 := hx6 ▸ (Below.refl _ _).alloc (Nat.le_refl _) _
     clear hx6
     refine ⟨hS6, ?_⟩
     refine wpAnyT_step (i := 4) hcl rfl (by kernel_rfl) (fun hcl => ?_)
     simp only [List.getElem_toArray, List.getElem_cons_zero, List.getElem_cons_succ, Act.put, List.setIfInBounds_toArray, List.set_cons_zero, List.set_cons_succ]
     refine wpList_alloc_bools rfl rfl ?_
     refine wpList_nil ?_
     generalize hx7 : x6.alloc (.cells (boolsC fun _ => false).toArray 132) = x7
     have hg7 : Blk x7 x6.heap.size 132 (boolsC fun _ => false).toArray := hx7 ▸ Blk.new x6 132 _
     have zx7 : x6.heap.size < x7.heap.size := by rw [← hx7]; simp
     have hS7 : Below W.heap.size W x7 := hx7 ▸ hS6.alloc (by omega) _
     have hbel7 : Below x6.heap.size x6 x7 := hx7 ▸ (Below.refl _ _).alloc (Nat.le_refl _) _
     clear hx7
     have hg6_7 := hg6.below hbel7 (by omega)
     refine ⟨hS7, ?_⟩
     refine wpAnyT_last (i := 6) hcl rfl (by kernel_rfl) (by kernel_rfl) (fun hcl => ?_)
     simp only [List.getElem_toArray, List.getElem_cons_zero, List.getElem_cons_succ, Act.put, List.setIfInBounds_toArray, List.set_cons_zero, List.set_cons_succ]
     refine wpList_store_bools rfl _ _ rfl x6.heap.size _ S rfl rfl hg7 (by simp [boolsC_len]) ?_
     intro y8 hrow8 hgr8 hz8
     refine wpList_nil ?_
     have hgb8 := hg6_7.grown hgr8 (by simp; omega)
     refine wpAnyT_last (i := 7) hcl rfl (by kernel_rfl) (by kernel_rfl) (fun hcl => ?_)
     simp only [List.getElem_toArray, List.getElem_cons_zero, List.getElem_cons_succ, Act.put, List.setIfInBounds_toArray, List.set_cons_zero, List.set_cons_succ]
     refine wpList_store_bools rfl _ _ rfl x2.heap.size _ T rfl rfl hgb8 (by simp [boolsC_len]) ?_
     intro v8 hrow28 hgr28 hz28
     refine wpList_nil ?_
     refine wpAnyT_done (by kernel_rfl) ?_ _
     have HX := hide (And.intro (hrow8.grown hgr28 (by simp; omega)) (And.intro hrow28 (below_grew (below_grew hS7 hgr8 (Nat.le_refl _) (fun q hq => by rw [← Option.some.inj hq]; omega)) hgr28 (Nat.le_refl _) (fun q hq => by rw [← Option.some.inj hq]; omega))))
     go_wp2_with fail
     go_meet
     case rel => exact ⟨_, _, rfl, rfl, by omega, by omega, by omega, HX.out.1, HX.out.2.1, HX.out.2.2⟩
   ·skip
    simp only [List.getElem_toArray, List.getElem_cons_zero, List.getElem_cons_succ, Act.put, List.setIfInBounds_toArray, List.set_cons_zero, List.set_cons_succ]
    refine wpList_alloc_bools rfl rfl ?_
    refine wpList_nil ?_
    generalize hx9 : x1.alloc (.cells (boolsC fun _ => false).toArray 132) = x9
    have hg9 : Blk x9 x1.heap.size 132 (boolsC fun _ => false).toArray := hx9 ▸ Blk.new x1 132 _
    have zx9 : x1.heap.size < x9.heap.size := by rw [← hx9]; simp
    have hS9 : Below W.heap.size W x9 := hx9 ▸ hS1.alloc (by omega) _
    have hbel9 : Below x1.heap.size x1 x9 := hx9 ▸ (Below.refl _ _).alloc (Nat.le_refl _) _
    clear hx9
    refine ⟨hS9, ?_⟩
    refine wpAnyT_pick2 (i := 3) (j := 5) hcl rfl rfl (by kernel_rfl) (fun hcl => ?_) (fun hcl => ?_)
    ·skip
     simp only [List.getElem_toArray, List.getElem_cons_zero, List.getElem_cons_succ, Act.put, List.setIfInBounds_toArray, List.set_cons_zero, List.set_cons_succ]
     go_wp2_with fail
     refine (show Calls Tryz.prog _ _ x9 _ from (bits_any T x9)).mono ?_
     rintro e x10 ⟨rfl, hbel10⟩
     have zx10 : x9.heap.size ≤ x10.heap.size := hbel10.size
     have hS10 : Below W.heap.size W x10 := hS9.trans (hbel10.mono (by omega))
     have hg9_10 := hg9.below hbel10 (by omega)
     go_wp2_with fail
     refine ⟨hS10, ?_⟩
     refine wpAnyT_step (i := 5) hcl rfl (by kernel_rfl) (fun hcl => ?_)
     simp only [List.getElem_toArray, List.getElem_cons_zero, List.getElem_cons_succ, Act.put, List.setIfInBounds_toArray, List.set_cons_zero, List.set_cons_succ]
     refine wpList_alloc_bools rfl rfl ?_
     refine wpList_nil ?_
     generalize hx11 : x10.alloc (.cells (boolsC fun _ => false).toArray 132) = x11
     have hg11 : Blk x11 x10.heap.size 132 (boolsC fun _ => false).toArray := hx11 ▸ Blk.new x10 132 _
     have zx11 : x10.heap.size < x11.heap.size := by rw [← hx11]; simp
     have hS11 : Below W.heap.size W x11 := hx11 ▸ hS10.alloc (by omega) _
     have hbel11 : Below x10.heap.size x10 x11 := hx11 ▸ (Below.refl _ _).alloc (Nat.le_refl _) _
     clear hx11
     have hg9_11 := hg9_10.below hbel11 (by omega)
     refine ⟨hS11, ?_⟩
     refine wpAnyT_last (i := 6) hcl rfl (by kernel_rfl) (by kernel_rfl) (fun hcl => ?_)
     simp only [List.getElem_toArray, List.getElem_cons_zero, List.getElem_cons_succ, Act.put, List.setIfInBounds_toArray, List.set_cons_zero, List.set_cons_succ]
     refine wpList_store_bools rfl _ _ rfl x1.heap.size _ S rfl rfl hg9_11 (by simp [boolsC_len]) ?_
     intro y12 hrow12 hgr12 hz12
     refine wpList_nil ?_
     have hgb12 := hg11.grown hgr12 (by simp; omega)
     refine wpAnyT_last (i := 7) hcl rfl (by kernel_rfl) (by kernel_rfl) (fun hcl => ?_)
     simp only [List.getElem_toArray, List.getElem_cons_zero, List.getElem_cons_succ, Act.put, List.setIfInBounds_toArray, List.set_cons_zero, List.set_cons_succ]
     refine wpList_store_bools rfl _ _ rfl x10.heap.size _ T rfl rfl hgb12 (by simp [boolsC_len]) ?_
     intro v12 hrow212 hgr212 hz212
     refine wpList_nil ?_
     refine wpAnyT_done (by kernel_rfl) ?_ _
     have HX := hide (And.intro (hrow12.grown hgr212 (by simp; omega)) (And.intro hrow212 (below_grew (below_grew hS11 hgr12 (Nat.le_refl _) (fun q hq => by rw [← Option.some.inj hq]; omega)) hgr212 (Nat.le_refl _) (fun q hq => by rw [← Option.some.inj hq]; omega))))
     go_wp2_with fail
     go_meet
     case rel => exact ⟨_, _, rfl, rfl, by omega, by omega, by omega, HX.out.1, HX.out.2.1, HX.out.2.2⟩
    ·skip
     simp only [List.getElem_toArray, List.getElem_cons_zero, List.getElem_cons_succ, Act.put, List.setIfInBounds_toArray, List.set_cons_zero, List.set_cons_succ]
     refine wpList_alloc_bools rfl rfl ?_
     refine wpList_nil ?_
     generalize hx13 : x9.alloc (.cells (boolsC fun _ => false).toArray 132) = x13
     have hg13 : Blk x13 x9.heap.size 132 (boolsC fun _ => false).toArray := hx13 ▸ Blk.new x9 132 _
     have zx13 : x9.heap.size < x13.heap.size := by rw [← hx13]; simp
     have hS13 : Below W.heap.size W x13 := hx13 ▸ hS9.alloc (by omega) _
     have hbel13 : Below x9.heap.size x9 x13 := hx13 ▸ (Below.refl _ _).alloc (Nat.le_refl _) _
     clear hx13
     have hg9_13 := hg9.below hbel13 (by omega)
     refine ⟨hS13, ?_⟩
     refine wpAnyT_step (i := 3) hcl rfl (by kernel_rfl) (fun hcl => ?_)
     simp only [List.getElem_toArray, List.getElem_cons_zero, List.getElem_cons_succ, Act.put, List.setIfInBounds_toArray, List.set_cons_zero, List.set_cons_succ]
     go_wp2_with fail
     refine (show Calls Tryz.prog _ _ x13 _ from (bits_any T x13)).mono ?_
     rintro e x14 ⟨rfl, hbel14⟩
     have zx14 : x13.heap.size ≤ x14.heap.size := hbel14.size
     have hS14 : Below W.heap.size W x14 := hS13.trans (hbel14.mono (by omega))
     have hg9_14 := hg9_13.below hbel14 (by omega)
     have hg13_14 := hg13.below hbel14 (by omega)
     go_wp2_with fail
     refine ⟨hS14, ?_⟩
     refine wpAnyT_last (i := 6) hcl rfl (by kernel_rfl) (by kernel_rfl) (fun hcl => ?_)
     simp only [List.getElem_toArray, List.getElem_cons_zero, List.getElem_cons_succ, Act.put, List.setIfInBounds_toArray, List.set_cons_zero, List.set_cons_succ]
     refine wpList_store_bools rfl _ _ rfl x1.heap.size _ S rfl rfl hg9_14 (by simp [boolsC_len]) ?_
     intro y15 hrow15 hgr15 hz15
     refine wpList_nil ?_
     have hgb15 := hg13_14.grown hgr15 (by simp; omega)
     refine wpAnyT_last (i := 7) hcl rfl (by kernel_rfl) (by kernel_rfl) (fun hcl => ?_)
     simp only [List.getElem_toArray, List.getElem_cons_zero, List.getElem_cons_succ, Act.put, List.setIfInBounds_toArray, List.set_cons_zero, List.set_cons_succ]
     refine wpList_store_bools rfl _ _ rfl x9.heap.size _ T rfl rfl hgb15 (by simp [boolsC_len]) ?_
     intro v15 hrow215 hgr215 hz215
     refine wpList_nil ?_
     refine wpAnyT_done (by kernel_rfl) ?_ _
     have HX := hide (And.intro (hrow15.grown hgr215 (by simp; omega)) (And.intro hrow215 (below_grew (below_grew hS14 hgr15 (Nat.le_refl _) (fun q hq => by rw [← Option.some.inj hq]; omega)) hgr215 (Nat.le_refl _) (fun q hq => by rw [← Option.some.inj hq]; omega))))
     go_wp2_with fail
     go_meet
     case rel => exact ⟨_, _, rfl, rfl, by omega, by omega, by omega, HX.out.1, HX.out.2.1, HX.out.2.2⟩
   ·skip
    simp only [List.getElem_toArray, List.getElem_cons_zero, List.getElem_cons_succ, Act.put, List.setIfInBounds_toArray, List.set_cons_zero, List.set_cons_succ]
    refine wpList_alloc_bools rfl rfl ?_
    refine wpList_nil ?_
    generalize hx16 : x1.alloc (.cells (boolsC fun _ => false).toArray 132) = x16
    have hg16 : Blk x16 x1.heap.size 132 (boolsC fun _ => false).toArray := hx16 ▸ Blk.new x1 132 _
    have zx16 : x1.heap.size < x16.heap.size := by rw [← hx16]; simp
    have hS16 : Below W.heap.size W x16 := hx16 ▸ hS1.alloc (by omega) _
    have hbel16 : Below x1.heap.size x1 x16 := hx16 ▸ (Below.refl _ _).alloc (Nat.le_refl _) _
    clear hx16
    refine ⟨hS16, ?_⟩
    refine wpAnyT_pick2 (i := 3) (j := 4) hcl rfl rfl (by kernel_rfl) (fun hcl => ?_) (fun hcl => ?_)
    ·skip
     simp only [List.getElem_toArray, List.getElem_cons_zero, List.getElem_cons_succ, Act.put, List.setIfInBounds_toArray, List.set_cons_zero, List.set_cons_succ]
     go_wp2_with fail
     refine (show Calls Tryz.prog _ _ x16 _ from (bits_any T x16)).mono ?_
     rintro e x17 ⟨rfl, hbel17⟩
     have zx17 : x16.heap.size ≤ x17.heap.size := hbel17.size
     have hS17 : Below W.heap.size W x17 := hS16.trans (hbel17.mono (by omega))
     have hg16_17 := hg16.below hbel17 (by omega)
     go_wp2_with fail
     refine ⟨hS17, ?_⟩
     refine wpAnyT_step (i := 4) hcl rfl (by kernel_rfl) (fun hcl => ?_)
     simp only [List.getElem_toArray, List.getElem_cons_zero, List.getElem_cons_succ, Act.put, List.setIfInBounds_toArray, List.set_cons_zero, List.set_cons_succ]
     refine wpList_alloc_bools rfl rfl ?_
     refine wpList_nil ?_
     generalize hx18 : x17.alloc (.cells (boolsC fun _ => false).toArray 132) = x18
     have hg18 : Blk x18 x17.heap.size 132 (boolsC fun _ => false).toArray := hx18 ▸ Blk.new x17 132 _
     have zx18 : x17.heap.size < x18.heap.size := by rw [← hx18]; simp
     have hS18 : Below W.heap.size W x18 := hx18 ▸ hS17.alloc (by omega) _
     have hbel18 : Below x17.heap.size x17 x18 := hx18 ▸ (Below.refl _ _).alloc (Nat.le_refl _) _
     clear hx18
     have hg16_18 := hg16_17.below hbel18 (by omega)
     refine ⟨hS18, ?_⟩
     refine wpAnyT_last (i := 6) hcl rfl (by kernel_rfl) (by kernel_rfl) (fun hcl => ?_)
     simp only [List.getElem_toArray, List.getElem_cons_zero, List.getElem_cons_succ, Act.put, List.setIfInBounds_toArray, List.set_cons_zero, List.set_cons_succ]
     refine wpList_store_bools rfl _ _ rfl x17.heap.size _ S rfl rfl hg18 (by simp [boolsC_len]) ?_
     intro y19 hrow19 hgr19 hz19
     refine wpList_nil ?_
     have hgb19 := hg16_18.grown hgr19 (by simp; omega)
     refine wpAnyT_last (i := 7) hcl rfl (by kernel_rfl) (by kernel_rfl) (fun hcl => ?_)
     simp only [List.getElem_toArray, List.getElem_cons_zero, List.getElem_cons_succ, Act.put, List.setIfInBounds_toArray, List.set_cons_zero, List.set_cons_succ]
     refine wpList_store_bools rfl _ _ rfl x1.heap.size _ T rfl rfl hgb19 (by simp [boolsC_len]) ?_
     intro v19 hrow219 hgr219 hz219
     refine wpList_nil ?_
     refine wpAnyT_done (by kernel_rfl) ?_ _
     have HX := hide (And.intro (hrow19.grown hgr219 (by simp; omega)) (And.intro hrow219 (below_grew (below_grew hS18 hgr19 (Nat.le_refl _) (fun q hq => by rw [← Option.some.inj hq]; omega)) hgr219 (Nat.le_refl _) (fun q hq => by rw [← Option.some.inj hq]; omega))))
     go_wp2_with fail
     go_meet
     case rel => exact ⟨_, _, rfl, rfl, by omega, by omega, by omega, HX.out.1, HX.out.2.1, HX.out.2.2⟩
    ·skip
     simp only [List.getElem_toArray, List.getElem_cons_zero, List.getElem_cons_succ, Act.put, List.setIfInBounds_toArray, List.set_cons_zero, List.set_cons_succ]
     refine wpList_alloc_bools rfl rfl ?_
     refine wpList_nil ?_
     generalize hx20 : x16.alloc (.cells (boolsC fun _ => false).toArray 132) = x20
     have hg20 : Blk x20 x16.heap.size 132 (boolsC fun _ => false).toArray := hx20 ▸ Blk.new x16 132 _
     have zx20 : x16.heap.size < x20.heap.size := by rw [← hx20]; simp
     have hS20 : Below W.heap.size W x20 := hx20 ▸ hS16.alloc (by omega) _
     have hbel20 : Below x16.heap.size x16 x20 := hx20 ▸ (Below.refl _ _).alloc (Nat.le_refl _) _
     clear hx20
     have hg16_20 := hg16.below hbel20 (by omega)
     refine ⟨hS20, ?_⟩
     refine wpAnyT_step (i := 3) hcl rfl (by kernel_rfl) (fun hcl => ?_)
     simp only [List.getElem_toArray, List.getElem_cons_zero, List.getElem_cons_succ, Act.put, List.setIfInBounds_toArray, List.set_cons_zero, List.set_cons_succ]
     go_wp2_with fail
     refine (show Calls Tryz.prog _ _ x20 _ from (bits_any T x20)).mono ?_
     rintro e x21 ⟨rfl, hbel21⟩
     have zx21 : x20.heap.size ≤ x21.heap.size := hbel21.size
     have hS21 : Below W.heap.size W x21 := hS20.trans (hbel21.mono (by omega))
     have hg20_21 := hg20.below hbel21 (by omega)
     have hg16_21 := hg16_20.below hbel21 (by omega)
     go_wp2_with fail
     refine ⟨hS21, ?_⟩
     refine wpAnyT_last (i := 6) hcl rfl (by kernel_rfl) (by kernel_rfl) (fun hcl => ?_)
     simp only [List.getElem_toArray, List.getElem_cons_zero, List.getElem_cons_succ, Act.put, List.setIfInBounds_toArray, List.set_cons_zero, List.set_cons_succ]
     refine wpList_store_bools rfl _ _ rfl x16.heap.size _ S rfl rfl hg20_21 (by simp [boolsC_len]) ?_
     intro y22 hrow22 hgr22 hz22
     refine wpList_nil ?_
     have hgb22 := hg16_21.grown hgr22 (by simp; omega)
     refine wpAnyT_last (i := 7) hcl rfl (by kernel_rfl) (by kernel_rfl) (fun hcl => ?_)
     simp only [List.getElem_toArray, List.getElem_cons_zero, List.getElem_cons_succ, Act.put, List.setIfInBounds_toArray, List.set_cons_zero, List.set_cons_succ]
     refine wpList_store_bools rfl _ _ rfl x1.heap.size _ T rfl rfl hgb22 (by simp [boolsC_len]) ?_
     intro v22 hrow222 hgr222 hz222
     refine wpList_nil ?_
     refine wpAnyT_done (by kernel_rfl) ?_ _
     have HX := hide (And.intro (hrow22.grown hgr222 (by simp; omega)) (And.intro hrow222 (below_grew (below_grew hS21 hgr22 (Nat.le_refl _) (fun q hq => by rw [← Option.some.inj hq]; omega)) hgr222 (Nat.le_refl _) (fun q hq => by rw [← Option.some.inj hq]; omega))))
     go_wp2_with fail
     go_meet
     case rel => exact ⟨_, _, rfl, rfl, by omega, by omega, by omega, HX.out.1, HX.out.2.1, HX.out.2.2⟩
  ·skip
   simp only [List.getElem_toArray, List.getElem_cons_zero, List.getElem_cons_succ, Act.put, List.setIfInBounds_toArray, List.set_cons_zero, List.set_cons_succ]
   refine wpList_alloc_bools rfl rfl ?_
   refine wpList_nil ?_
   generalize hx23 : x0.alloc (.cells (boolsC fun _ => false).toArray 132) = x23
   have hg23 : Blk x23 x0.heap.size 132 (boolsC fun _ => false).toArray := hx23 ▸ Blk.new x0 132 _
   have zx23 : x0.heap.size < x23.heap.size := by rw [← hx23]; simp
   have hS23 : Below W.heap.size W x23 := hx23 ▸ hS.alloc (by omega) _
   have hbel23 : Below x0.heap.size x0 x23 := hx23 ▸ (Below.refl _ _).alloc (Nat.le_refl _) _
   clear hx23
   refine ⟨hS23, ?_⟩
   refine wpAnyT_pick2 (i := 1) (j := 5) hcl rfl rfl (by kernel_rfl) (fun hcl => ?_) (fun hcl => ?_)
   ·skip
    simp only [List.getElem_toArray, List.getElem_cons_zero, List.getElem_cons_succ, Act.put, List.setIfInBounds_toArray, List.set_cons_zero, List.set_cons_succ]
    go_wp2_with fail
    refine (show Calls Tryz.prog _ _ x23 _ from (bits_any S x23)).mono ?_
    rintro e x24 ⟨rfl, hbel24⟩
    have zx24 : x23.heap.size ≤ x24.heap.size := hbel24.size
    have hS24 : Below W.heap.size W x24 := hS23.trans (hbel24.mono (by omega))
    have hg23_24 := hg23.below hbel24 (by omega)
    go_wp2_with fail
    refine ⟨hS24, ?_⟩
    refine wpAnyT_pick2 (i := 3) (j := 5) hcl rfl rfl (by kernel_rfl) (fun hcl => ?_) (fun hcl => ?_)
    ·skip
     simp only [List.getElem_toArray, List.getElem_cons_zero, List.getElem_cons_succ, Act.put, List.setIfInBounds_toArray, List.set_cons_zero, List.set_cons_succ]
     go_wp2_with fail
     refine (show Calls Tryz.prog _ _ x24 _ from (bits_any T x24)).mono ?_
     rintro e x25 ⟨rfl, hbel25⟩
     have zx25 : x24.heap.size ≤ x25.heap.size := hbel25.size
     have hS25 : Below W.heap.size W x25 := hS24.trans (hbel25.mono (by omega))
     have hg23_25 := hg23_24.below hbel25 (by omega)
     go_wp2_with fail
     refine ⟨hS25, ?_⟩
     refine wpAnyT_step (i := 5) hcl rfl (by kernel_rfl) (fun hcl => ?_)
     simp only [List.getElem_toArray, List.getElem_cons_zero, List.getElem_cons_succ, Act.put, List.setIfInBounds_toArray, List.set_cons_zero, List.set_cons_succ]
     refine wpList_alloc_bools rfl rfl ?_
     refine wpList_nil ?_
     generalize hx26 : x25.alloc (.cells (boolsC fun _ => false).toArray 132) = x26
     have hg26 : Blk x26 x25.heap.size 132 (boolsC fun _ => false).toArray := hx26 ▸ Blk.new x25 132 _
     have zx26 : x25.heap.size < x26.heap.size := by rw [← hx26]; simp
     have hS26 : Below W.heap.size W x26 := hx26 ▸ hS25.alloc (by omega) _
     have hbel26 : Below x25.heap.size x25 x26 := hx26 ▸ (Below.refl _ _).alloc (Nat.le_refl _) _
     clear hx26
     have hg23_26 := hg23_25.below hbel26 (by omega)
     refine ⟨hS26, ?_⟩
     refine wpAnyT_last (i := 6) hcl rfl (by kernel_rfl) (by kernel_rfl) (fun hcl => ?_)
     simp only [List.getElem_toArray, List.getElem_cons_zero, List.getElem_cons_succ, Act.put, List.setIfInBounds_toArray, List.set_cons_zero, List.set_cons_succ]
     refine wpList_store_bools rfl _ _ rfl x0.heap.size _ S rfl rfl hg23_26 (by simp [boolsC_len]) ?_
     intro y27 hrow27 hgr27 hz27
     refine wpList_nil ?_
     have hgb27 := hg26.grown hgr27 (by simp; omega)
     refine wpAnyT_last (i := 7) hcl rfl (by kernel_rfl) (by kernel_rfl) (fun hcl => ?_)
     simp only [List.getElem_toArray, List.getElem_cons_zero, List.getElem_cons_succ, Act.put, List.setIfInBounds_toArray, List.set_cons_zero, List.set_cons_succ]
     refine wpList_store_bools rfl _ _ rfl x25.heap.size _ T rfl rfl hgb27 (by simp [boolsC_len]) ?_
     intro v27 hrow227 hgr227 hz227
     refine wpList_nil ?_
     refine wpAnyT_done (by kernel_rfl) ?_ _
     have HX := hide (And.intro (hrow27.grown hgr227 (by simp; omega)) (And.intro hrow227 (below_grew (below_grew hS26 hgr27 (Nat.le_refl _) (fun q hq => by rw [← Option.some.inj hq]; omega)) hgr227 (Nat.le_refl _) (fun q hq => by rw [← Option.some.inj hq]; omega))))
     go_wp2_with fail
     go_meet
     case rel => exact ⟨_, _, rfl, rfl, by omega, by omega, by omega, HX.out.1, HX.out.2.1, HX.out.2.2⟩
    ·skip
     simp only [List.getElem_toArray, List.getElem_cons_zero, List.getElem_cons_succ, Act.put, List.setIfInBounds_toArray, List.set_cons_zero, List.set_cons_succ]
     refine wpList_alloc_bools rfl rfl ?_
     refine wpList_nil ?_
     generalize hx28 : x24.alloc (.cells (boolsC fun _ => false).toArray 132) = x28
     have hg28 : Blk x28 x24.heap.size 132 (boolsC fun _ => false).toArray := hx28 ▸ Blk.new x24 132 _
     have zx28 : x24.heap.size < x28.heap.size := by rw [← hx28]; simp
     have hS28 : Below W.heap.size W x28 := hx28 ▸ hS24.alloc (by omega) _
     have hbel28 : Below x24.heap.size x24 x28 := hx28 ▸ (Below.refl _ _).alloc (Nat.le_refl _) _
     clear hx28
     have hg23_28 := hg23_24.below hbel28 (by omega)
     refine ⟨hS28, ?_⟩
     refine wpAnyT_step (i := 3) hcl rfl (by kernel_rfl) (fun hcl => ?_)
     simp only [List.getElem_toArray, List.getElem_cons_zero, List.getElem_cons_succ, Act.put, List.setIfInBounds_toArray, List.set_cons_zero, List.set_cons_succ]
     go_wp2_with fail
     refine (show Calls Tryz.prog _ _ x28 _ from (bits_any T x28)).mono ?_
     rintro e x29 ⟨rfl, hbel29⟩
     have zx29 : x28.heap.size ≤ x29.heap.size := hbel29.size
     have hS29 : Below W.heap.size W x29 := hS28.trans (hbel29.mono (by omega))
     have hg23_29 := hg23_28.below hbel29 (by omega)
     have hg28_29 := hg28.below hbel29 (by omega)
     go_wp2_with fail
     refine ⟨hS29, ?_⟩
     refine wpAnyT_last (i := 6) hcl rfl (by kernel_rfl) (by kernel_rfl) (fun hcl => ?_)
     simp only [List.getElem_toArray, List.getElem_cons_zero, List.getElem_cons_succ, Act.put, List.setIfInBounds_toArray, List.set_cons_zero, List.set_cons_succ]
     refine wpList_store_bools rfl _ _ rfl x0.heap.size _ S rfl rfl hg23_29 (by simp [boolsC_len]) ?_
     intro y30 hrow30 hgr30 hz30
     refine wpList_nil ?_
     have hgb30 := hg28_29.grown hgr30 (by simp; omega)
     refine wpAnyT_last (i := 7) hcl rfl (by kernel_rfl) (by kernel_rfl) (fun hcl => ?_)
     simp only [List.getElem_toArray, List.getElem_cons_zero, List.getElem_cons_succ, Act.put, List.setIfInBounds_toArray, List.set_cons_zero, List.set_cons_succ]
     refine wpList_store_bools rfl _ _ rfl x24.heap.size _ T rfl rfl hgb30 (by simp [boolsC_len]) ?_
     intro v30 hrow230 hgr230 hz230
     refine wpList_nil ?_
     refine wpAnyT_done (by kernel_rfl) ?_ _
     have HX := hide (And.intro (hrow30.grown hgr230 (by simp; omega)) (And.intro hrow230 (below_grew (below_grew hS29 hgr30 (Nat.le_refl _) (fun q hq => by rw [← Option.some.inj hq]; omega)) hgr230 (Nat.le_refl _) (fun q hq => by rw [← Option.some.inj hq]; omega))))
     go_wp2_with fail
     go_meet
     case rel => exact ⟨_, _, rfl, rfl, by omega, by omega, by omega, HX.out.1, HX.out.2.1, HX.out.2.2⟩
   ·skip
    simp only [List.getElem_toArray, List.getElem_cons_zero, List.getElem_cons_succ, Act.put, List.setIfInBounds_toArray, List.set_cons_zero, List.set_cons_succ]
    refine wpList_alloc_bools rfl rfl ?_
    refine wpList_nil ?_
    generalize hx31 : x23.alloc (.cells (boolsC fun _ => false).toArray 132) = x31
    have hg31 : Blk x31 x23.heap.size 132 (boolsC fun _ => false).toArray := hx31 ▸ Blk.new x23 132 _
    have zx31 : x23.heap.size < x31.heap.size := by rw [← hx31]; simp
    have hS31 : Below W.heap.size W x31 := hx31 ▸ hS23.alloc (by omega) _
    have hbel31 : Below x23.heap.size x23 x31 := hx31 ▸ (Below.refl _ _).alloc (Nat.le_refl _) _
    clear hx31
    have hg23_31 := hg23.below hbel31 (by omega)
    refine ⟨hS31, ?_⟩
    refine wpAnyT_step (i := 1) hcl rfl (by kernel_rfl) (fun hcl => ?_)
    simp only [List.getElem_toArray, List.getElem_cons_zero, List.getElem_cons_succ, Act.put, List.setIfInBounds_toArray, List.set_cons_zero, List.set_cons_succ]
    go_wp2_with fail
    refine (show Calls Tryz.prog _ _ x31 _ from (bits_any S x31)).mono ?_
    rintro e x32 ⟨rfl, hbel32⟩
    have zx32 : x31.heap.size ≤ x32.heap.size := hbel32.size
    have hS32 : Below W.heap.size W x32 := hS31.trans (hbel32.mono (by omega))
    have hg23_32 := hg23_31.below hbel32 (by omega)
    have hg31_32 := hg31.below hbel32 (by omega)
    go_wp2_with fail
    refine ⟨hS32, ?_⟩
    refine wpAnyT_step (i := 3) hcl rfl (by kernel_rfl) (fun hcl => ?_)
    simp only [List.getElem_toArray, List.getElem_cons_zero, List.getElem_cons_succ, Act.put, List.setIfInBounds_toArray, List.set_cons_zero, List.set_cons_succ]
    go_wp2_with fail
    refine (show Calls Tryz.prog _ _ x32 _ from (bits_any T x32)).mono ?_
    rintro e x33 ⟨rfl, hbel33⟩
    have zx33 : x32.heap.size ≤ x33.heap.size := hbel33.size
    have hS33 : Below W.heap.size W x33 := hS32.trans (hbel33.mono (by omega))
    have hg23_33 := hg23_32.below hbel33 (by omega)
    have hg31_33 := hg31_32.below hbel33 (by omega)
    go_wp2_with fail
    refine ⟨hS33, ?_⟩
    refine wpAnyT_last (i := 6) hcl rfl (by kernel_rfl) (by kernel_rfl) (fun hcl => ?_)
    simp only [List.getElem_toArray, List.getElem_cons_zero, List.getElem_cons_succ, Act.put, List.setIfInBounds_toArray, List.set_cons_zero, List.set_cons_succ]
    refine wpList_store_bools rfl _ _ rfl x0.heap.size _ S rfl rfl hg23_33 (by simp [boolsC_len]) ?_
    intro y34 hrow34 hgr34 hz34
    refine wpList_nil ?_
    have hgb34 := hg31_33.grown hgr34 (by simp; omega)
    refine wpAnyT_last (i := 7) hcl rfl (by kernel_rfl) (by kernel_rfl) (fun hcl => ?_)
    simp only [List.getElem_toArray, List.getElem_cons_zero, List.getElem_cons_succ, Act.put, List.setIfInBounds_toArray, List.set_cons_zero, List.set_cons_succ]
    refine wpList_store_bools rfl _ _ rfl x23.heap.size _ T rfl rfl hgb34 (by simp [boolsC_len]) ?_
    intro v34 hrow234 hgr234 hz234
    refine wpList_nil ?_
    refine wpAnyT_done (by kernel_rfl) ?_ _
    have HX := hide (And.intro (hrow34.grown hgr234 (by simp; omega)) (And.intro hrow234 (below_grew (below_grew hS33 hgr34 (Nat.le_refl _) (fun q hq => by rw [← Option.some.inj hq]; omega)) hgr234 (Nat.le_refl _) (fun q hq => by rw [← Option.some.inj hq]; omega))))
    go_wp2_with fail
    go_meet
    case rel => exact ⟨_, _, rfl, rfl, by omega, by omega, by omega, HX.out.1, HX.out.2.1, HX.out.2.2⟩
  ·skip
   simp only [List.getElem_toArray, List.getElem_cons_zero, List.getElem_cons_succ, Act.put, List.setIfInBounds_toArray, List.set_cons_zero, List.set_cons_succ]
   refine wpList_alloc_bools rfl rfl ?_
   refine wpList_nil ?_
   generalize hx35 : x0.alloc (.cells (boolsC fun _ => false).toArray 132) = x35
   have hg35 : Blk x35 x0.heap.size 132 (boolsC fun _ => false).toArray := hx35 ▸ Blk.new x0 132 _
   have zx35 : x0.heap.size < x35.heap.size := by rw [← hx35]; simp
   have hS35 : Below W.heap.size W x35 := hx35 ▸ hS.alloc (by omega) _
   have hbel35 : Below x0.heap.size x0 x35 := hx35 ▸ (Below.refl _ _).alloc (Nat.le_refl _) _
   clear hx35
   refine ⟨hS35, ?_⟩
   refine wpAnyT_pick2 (i := 1) (j := 4) hcl rfl rfl (by kernel_rfl) (fun hcl => ?_) (fun hcl => ?_)
   ·skip
    simp only [List.getElem_toArray, List.getElem_cons_zero, List.getElem_cons_succ, Act.put, List.setIfInBounds_toArray, List.set_cons_zero, List.set_cons_succ]
    go_wp2_with fail
    refine (show Calls Tryz.prog _ _ x35 _ from (bits_any S x35)).mono ?_
    rintro e x36 ⟨rfl, hbel36⟩
    have zx36 : x35.heap.size ≤ x36.heap.size := hbel36.size
    have hS36 : Below W.heap.size W x36 := hS35.trans (hbel36.mono (by omega))
    have hg35_36 := hg35.below hbel36 (by omega)
    go_wp2_with fail
    refine ⟨hS36, ?_⟩
    refine wpAnyT_pick2 (i := 3) (j := 4) hcl rfl rfl (by kernel_rfl) (fun hcl => ?_) (fun hcl => ?_)
    ·skip
     simp only [List.getElem_toArray, List.getElem_cons_zero, List.getElem_cons_succ, Act.put, List.setIfInBounds_toArray, List.set_cons_zero, List.set_cons_succ]
     go_wp2_with fail
     refine (show Calls Tryz.prog _ _ x36 _ from (bits_any T x36)).mono ?_
     rintro e x37 ⟨rfl, hbel37⟩
     have zx37 : x36.heap.size ≤ x37.heap.size := hbel37.size
     have hS37 : Below W.heap.size W x37 := hS36.trans (hbel37.mono (by omega))
     have hg35_37 := hg35_36.below hbel37 (by omega)
     go_wp2_with fail
     refine ⟨hS37, ?_⟩
     refine wpAnyT_step (i := 4) hcl rfl (by kernel_rfl) (fun hcl => ?_)
     simp only [List.getElem_toArray, List.getElem_cons_zero, List.getElem_cons_succ, Act.put, List.setIfInBounds_toArray, List.set_cons_zero, List.set_cons_succ]
     refine wpList_alloc_bools rfl rfl ?_
     refine wpList_nil ?_
     generalize hx38 : x37.alloc (.cells (boolsC fun _ => false).toArray 132) = x38
     have hg38 : Blk x38 x37.heap.size 132 (boolsC fun _ => false).toArray := hx38 ▸ Blk.new x37 132 _
     have zx38 : x37.heap.size < x38.heap.size := by rw [← hx38]; simp
     have hS38 : Below W.heap.size W x38 := hx38 ▸ hS37.alloc (by omega) _
     have hbel38 : Below x37.heap.size x37 x38 := hx38 ▸ (Below.refl _ _).alloc (Nat.le_refl _) _
     clear hx38
     have hg35_38 := hg35_37.below hbel38 (by omega)
     refine ⟨hS38, ?_⟩
     refine wpAnyT_last (i := 6) hcl rfl (by kernel_rfl) (by kernel_rfl) (fun hcl => ?_)
     simp only [List.getElem_toArray, List.getElem_cons_zero, List.getElem_cons_succ, Act.put, List.setIfInBounds_toArray, List.set_cons_zero, List.set_cons_succ]
     refine wpList_store_bools rfl _ _ rfl x37.heap.size _ S rfl rfl hg38 (by simp [boolsC_len]) ?_
     intro y39 hrow39 hgr39 hz39
     refine wpList_nil ?_
     have hgb39 := hg35_38.grown hgr39 (by simp; omega)
     refine wpAnyT_last (i := 7) hcl rfl (by kernel_rfl) (by kernel_rfl) (fun hcl => ?_)
     simp only [List.getElem_toArray, List.getElem_cons_zero, List.getElem_cons_succ, Act.put, List.setIfInBounds_toArray, List.set_cons_zero, List.set_cons_succ]
     refine wpList_store_bools rfl _ _ rfl x0.heap.size _ T rfl rfl hgb39 (by simp [boolsC_len]) ?_
     intro v39 hrow239 hgr239 hz239
     refine wpList_nil ?_
     refine wpAnyT_done (by kernel_rfl) ?_ _
     have HX := hide (And.intro (hrow39.grown hgr239 (by simp; omega)) (And.intro hrow239 (below_grew (below_grew hS38 hgr39 (Nat.le_refl _) (fun q hq => by rw [← Option.some.inj hq]; omega)) hgr239 (Nat.le_refl _) (fun q hq => by rw [← Option.some.inj hq]; omega))))
     go_wp2_with fail
     go_meet
     case rel => exact ⟨_, _, rfl, rfl, by omega, by omega, by omega, HX.out.1, HX.out.2.1, HX.out.2.2⟩
    ·skip
     simp only [List.getElem_toArray, List.getElem_cons_zero, List.getElem_cons_succ, Act.put, List.setIfInBounds_toArray, List.set_cons_zero, List.set_cons_succ]
     refine wpList_alloc_bools rfl rfl ?_
     refine wpList_nil ?_
     generalize hx40 : x36.alloc (.cells (boolsC fun _ => false).toArray 132) = x40
     have hg40 : Blk x40 x36.heap.size 132 (boolsC fun _ => false).toArray := hx40 ▸ Blk.new x36 132 _
     have zx40 : x36.heap.size < x40.heap.size := by rw [← hx40]; simp
     have hS40 : Below W.heap.size W x40 := hx40 ▸ hS36.alloc (by omega) _
     have hbel40 : Below x36.heap.size x36 x40 := hx40 ▸ (Below.refl _ _).alloc (Nat.le_refl _) _
     clear hx40
     have hg35_40 := hg35_36.below hbel40 (by omega)
     refine ⟨hS40, ?_⟩
     refine wpAnyT_step (i := 3) hcl rfl (by kernel_rfl) (fun hcl => ?_)
     simp only [List.getElem_toArray, List.getElem_cons_zero, List.getElem_cons_succ, Act.put, List.setIfInBounds_toArray, List.set_cons_zero, List.set_cons_succ]
     go_wp2_with fail
     refine (show Calls Tryz.prog _ _ x40 _ from (bits_any T x40)).mono ?_
     rintro e x41 ⟨rfl, hbel41⟩
     have zx41 : x40.heap.size ≤ x41.heap.size := hbel41.size
     have hS41 : Below W.heap.size W x41 := hS40.trans (hbel41.mono (by omega))
     have hg40_41 := hg40.below hbel41 (by omega)
     have hg35_41 := hg35_40.below hbel41 (by omega)
     go_wp2_with fail
     refine ⟨hS41, ?_⟩
     refine wpAnyT_last (i := 6) hcl rfl (by kernel_rfl) (by kernel_rfl) (fun hcl => ?_)
     simp only [List.getElem_toArray, List.getElem_cons_zero, List.getElem_cons_succ, Act.put, List.setIfInBounds_toArray, List.set_cons_zero, List.set_cons_succ]
     refine wpList_store_bools rfl _ _ rfl x36.heap.size _ S rfl rfl hg40_41 (by simp [boolsC_len]) ?_
     intro y42 hrow42 hgr42 hz42
     refine wpList_nil ?_
     have hgb42 := hg35_41.grown hgr42 (by simp; omega)
     refine wpAnyT_last (i := 7) hcl rfl (by kernel_rfl) (by kernel_rfl) (fun hcl => ?_)
     simp only [List.getElem_toArray, List.getElem_cons_zero, List.getElem_cons_succ, Act.put, List.setIfInBounds_toArray, List.set_cons_zero, List.set_cons_succ]
     refine wpList_store_bools rfl _ _ rfl x0.heap.size _ T rfl rfl hgb42 (by simp [boolsC_len]) ?_
     intro v42 hrow242 hgr242 hz242
     refine wpList_nil ?_
     refine wpAnyT_done (by kernel_rfl) ?_ _
     have HX := hide (And.intro (hrow42.grown hgr242 (by simp; omega)) (And.intro hrow242 (below_grew (below_grew hS41 hgr42 (Nat.le_refl _) (fun q hq => by rw [← Option.some.inj hq]; omega)) hgr242 (Nat.le_refl _) (fun q hq => by rw [← Option.some.inj hq]; omega))))
     go_wp2_with fail
     go_meet
     case rel => exact ⟨_, _, rfl, rfl, by omega, by omega, by omega, HX.out.1, HX.out.2.1, HX.out.2.2⟩
   ·skip
    simp only [List.getElem_toArray, List.getElem_cons_zero, List.getElem_cons_succ, Act.put, List.setIfInBounds_toArray, List.set_cons_zero, List.set_cons_succ]
    refine wpList_alloc_bools rfl rfl ?_
    refine wpList_nil ?_
    generalize hx43 : x35.alloc (.cells (boolsC fun _ => false).toArray 132) = x43
    have hg43 : Blk x43 x35.heap.size 132 (boolsC fun _ => false).toArray := hx43 ▸ Blk.new x35 132 _
    have zx43 : x35.heap.size < x43.heap.size := by rw [← hx43]; simp
    have hS43 : Below W.heap.size W x43 := hx43 ▸ hS35.alloc (by omega) _
    have hbel43 : Below x35.heap.size x35 x43 := hx43 ▸ (Below.refl _ _).alloc (Nat.le_refl _) _
    clear hx43
    have hg35_43 := hg35.below hbel43 (by omega)
    refine ⟨hS43, ?_⟩
    refine wpAnyT_step (i := 1) hcl rfl (by kernel_rfl) (fun hcl => ?_)
    simp only [List.getElem_toArray, List.getElem_cons_zero, List.getElem_cons_succ, Act.put, List.setIfInBounds_toArray, List.set_cons_zero, List.set_cons_succ]
    go_wp2_with fail
    refine (show Calls Tryz.prog _ _ x43 _ from (bits_any S x43)).mono ?_
    rintro e x44 ⟨rfl, hbel44⟩
    have zx44 : x43.heap.size ≤ x44.heap.size := hbel44.size
    have hS44 : Below W.heap.size W x44 := hS43.trans (hbel44.mono (by omega))
    have hg43_44 := hg43.below hbel44 (by omega)
    have hg35_44 := hg35_43.below hbel44 (by omega)
    go_wp2_with fail
    refine ⟨hS44, ?_⟩
    refine wpAnyT_step (i := 3) hcl rfl (by kernel_rfl) (fun hcl => ?_)
    simp only [List.getElem_toArray, List.getElem_cons_zero, List.getElem_cons_succ, Act.put, List.setIfInBounds_toArray, List.set_cons_zero, List.set_cons_succ]
    go_wp2_with fail
    refine (show Calls Tryz.prog _ _ x44 _ from (bits_any T x44)).mono ?_
    rintro e x45 ⟨rfl, hbel45⟩
    have zx45 : x44.heap.size ≤ x45.heap.size := hbel45.size
    have hS45 : Below W.heap.size W x45 := hS44.trans (hbel45.mono (by omega))
    have hg43_45 := hg43_44.below hbel45 (by omega)
    have hg35_45 := hg35_44.below hbel45 (by omega)
    go_wp2_with fail
    refine ⟨hS45, ?_⟩
    refine wpAnyT_last (i := 6) hcl rfl (by kernel_rfl) (by kernel_rfl) (fun hcl => ?_)
    simp only [List.getElem_toArray, List.getElem_cons_zero, List.getElem_cons_succ, Act.put, List.setIfInBounds_toArray, List.set_cons_zero, List.set_cons_succ]
    refine wpList_store_bools rfl _ _ rfl x35.heap.size _ S rfl rfl hg43_45 (by simp [boolsC_len]) ?_
    intro y46 hrow46 hgr46 hz46
    refine wpList_nil ?_
    have hgb46 := hg35_45.grown hgr46 (by simp; omega)
    refine wpAnyT_last (i := 7) hcl rfl (by kernel_rfl) (by kernel_rfl) (fun hcl => ?_)
    simp only [List.getElem_toArray, List.getElem_cons_zero, List.getElem_cons_succ, Act.put, List.setIfInBounds_toArray, List.set_cons_zero, List.set_cons_succ]
    refine wpList_store_bools rfl _ _ rfl x0.heap.size _ T rfl rfl hgb46 (by simp [boolsC_len]) ?_
    intro v46 hrow246 hgr246 hz246
    refine wpList_nil ?_
    refine wpAnyT_done (by kernel_rfl) ?_ _
    have HX := hide (And.intro (hrow46.grown hgr246 (by simp; omega)) (And.intro hrow246 (below_grew (below_grew hS45 hgr46 (Nat.le_refl _) (fun q hq => by rw [← Option.some.inj hq]; omega)) hgr246 (Nat.le_refl _) (fun q hq => by rw [← Option.some.inj hq]; omega))))
    go_wp2_with fail
    go_meet
    case rel => exact ⟨_, _, rfl, rfl, by omega, by omega, by omega, HX.out.1, HX.out.2.1, HX.out.2.2⟩
 case rest =>
 obtain ⟨g5, g6, rfl, rfl, hne, hl5, hl6, hb5, hb6, hbW⟩ := hcut
 rename World => W2
 have hbR := H0.out.2.2.1.below hbW (by omega)
 have H1 := hide (And.intro hb5 (And.intro hb6 (And.intro hbR (H0.out.2.2.2.trans (hbW.mono (by omega))))))
 clear hb5 hb6 hbR hbW H0
 go_wp2_with fail
 go_loopw [7] (fun kv wr => ∃ k : Nat, kv = .int .i64 (k : Int) ∧ k ≤ 256 ∧ Blk wr g5 132 (boolsC fun x => if x < k then (S x || T x) else S x).toArray ∧ Blk wr g6 132 (boolsC T).toArray ∧ Blk wr (w.heap.size + 2) 24 #[.int .u64 0, .int .u64 0, .int .u64 0, .int .u64 0] ∧ Below w.heap.size w wr) (fun kv _ => 256 - (intOf kv).toNat)
 case atStart => exact ⟨0, rfl, by omega, (boolsC_congr (f := S) (g := fun x => if x < 0 then (S x || T x) else S x) (fun x _ => by rw [if_neg (by omega)])) ▸ H1.out.1, H1.out.2.1, H1.out.2.2.1, H1.out.2.2.2⟩
 case round =>
  clear H1
  obtain ⟨k, rfl, hk, h1, h2, h3, hb⟩ := hrel
  have HH := hide (And.intro h1 (And.intro h2 (And.intro h3 hb)))
  have hzb := hb.size
  clear h1 h2 h3 hb
  by_cases hlt : k < 256
  case neg =>
   have g1 : decide ((k : Int) < 256) = false := decide_eq_false (by omega)
   obtain rfl : k = 256 := by omega
   have H4 := hide (And.intro (show Blk wr g5 132 (boolsC fun x => S x || T x).toArray from (boolsC_congr (f := fun x => if x < 256 then (S x || T x) else S x) (g := fun x => S x || T x) (fun x hx => by rw [if_pos hx])) ▸ HH.out.1) HH.out.2.2)
   clear HH
   have HM := hide (made_any (fun x => S x || T x) wr)
   go_wp2_with (refine wpList_load_bools rfl _ rfl g5 _ rfl H4.out.1 ?_)
   refine HM.out.mono ?_
   rintro e w5 ⟨rfl, hb5⟩
   have H5 := hide (And.intro (H4.out.2.1.below hb5 (by have := H4.out.2.1.lt; exact this)) (H4.out.2.2.trans (hb5.mono H4.out.2.2.size)))
   clear hb5 H4 HM
   unfold setV
   simp only [setC]
   go_wp2_with (refine wpList_store_row rfl _ _ _ rfl (w.heap.size + 2) 0 _ _ _ rfl rfl H5.out.1 Tryz.sizeSetO (by simp) (by simp [Value.oneCell']) ?_)
   intro w9 hrow2 hg9 hz9
   have hrow := hrow2.out
   rw [splice_full (by rfl)] at hrow
   have hb9 := below_grew H5.out.2 hg9 (Nat.le_refl _) (fun q hq => by rw [← Option.some.inj hq]; omega)
   have HF := hide (And.intro hrow hb9)
   clear hrow hrow2 hg9 hz9
   go_wp2_with fail
   refine bodyPost_ret (results_cell_row rfl _ _ (w.heap.size + 2) _ _ (0, 0) _ rfl HF.out.1 Tryz.underlying24 rfl Tryz.sizeSetO) rfl ?_
   exact ⟨rfl, HF.out.2⟩
  have g1 : decide ((k : Int) < 256) = true := decide_eq_true (by omega)
  have hk6 : (k : Int) < 256 := by omega
  have c5 := HH.out.1.bit k hlt
  have c6 := HH.out.2.1.bit k hlt
  have f5 := HH.out.1.frozen k
  rw [if_neg (by omega)] at c5
  have hnew : boolsC (fun x => if x < k + 1 then (S x || T x) else S x) = boolsC (fun x => if x = k then (S k || T k) else if x < k then (S x || T x) else S x) := boolsC_congr fun x _ => by
   by_cases e : x = k
   ·subst e; rw [if_pos (by omega), if_pos rfl]
   ·rw [if_neg e]
    by_cases h : x < k
    ·rw [if_pos (by omega), if_pos h]
    ·rw [if_neg (by omega), if_neg h]
  have HNW := hide hnew
  clear hnew
  obtain ⟨sk, hsk⟩ : ∃ b, b = S k := ⟨_, rfl⟩
  obtain ⟨tk, htk⟩ : ∃ b, b = T k := ⟨_, rfl⟩
  rw [← hsk] at c5 HNW
  rw [← htk] at c6 HNW
  clear hsk htk
  cases sk <;> cases tk
  all_goals
   go_wp2_with fail
   go_roundw
   case rel =>
    refine ⟨k + 1, by go_num, by omega, ?_, HH.out.2.1.far (by show g6 ≠ g5; exact fun e => hne e.symm) _, HH.out.2.2.1.far (by show w.heap.size + 2 ≠ g5; omega) _, HH.out.2.2.2.setCell (by show w.heap.size ≤ g5; omega) _⟩
    rw [HNW.out]
    exact HH.out.1.setBit k _
   case measure => simp [intOf]; omega

set_option maxRecDepth 100000 in
set_option maxHeartbeats 4000000 in
theorem refMeet_any (S T : Nat → Bool) (w : World) : Calls Tryz.prog 155 #[setV S, setV T] w (SetIs (fun x => S x && T x) w) := by
 unfold setV
 have hb := (((Below.refl w.heap.size w).alloc (Nat.le_refl _) (.cells (setC S).toArray 24)).alloc (by simp) (.cells (setC T).toArray 24)).alloc (by simp; omega) (.cells #[.int .u64 0, .int .u64 0, .int .u64 0, .int .u64 0] 24)
 have h1 := ((Blk.new w 24 (setC S).toArray).alloc (.cells (setC T).toArray 24)).alloc (.cells #[.int .u64 0, .int .u64 0, .int .u64 0, .int .u64 0] 24)
 have h2 := (Blk.new (w.alloc (.cells (setC S).toArray 24)) 24 (setC T).toArray).alloc (.cells #[.int .u64 0, .int .u64 0, .int .u64 0, .int .u64 0] 24)
 have h3 := Blk.new ((w.alloc (.cells (setC S).toArray 24)).alloc (.cells (setC T).toArray 24)) 24 #[.int .u64 0, .int .u64 0, .int .u64 0, .int .u64 0]
 rw [World.size_alloc, World.size_alloc] at h3
 rw [World.size_alloc] at h2
 have hsz : w.heap.size + 2 < (((w.alloc (.cells (setC S).toArray 24)).alloc (.cells (setC T).toArray 24)).alloc (.cells #[.int .u64 0, .int .u64 0, .int .u64 0, .int .u64 0] 24)).heap.size := by simp
 have H0 := hide (And.intro h1 (And.intro h2 (And.intro h3 hb)))
 clear hb h1 h2 h3
 go_enter Tryz.func155, Tryz.ntmps155
 go_upto_region 1 with fail
 generalize (((w.alloc (.cells (setC S).toArray 24)).alloc (.cells (setC T).toArray 24)).alloc (.cells #[.int .u64 0, .int .u64 0, .int .u64 0, .int .u64 0] 24)) = W at *
 go_cut [5, 6] (fun p q wx => ∃ g5 g6, p = .pointer (some ⟨g5, 0, none⟩) ∧ q = .pointer (some ⟨g6, 0, none⟩) ∧ g5 ≠ g6 ∧ W.heap.size ≤ g5 ∧ W.heap.size ≤ g6 ∧ Blk wx g5 132 (boolsC S).toArray ∧ Blk wx g6 132 (boolsC T).toArray ∧ Below W.heap.size W wx)
 case first =>
  refine wp_region_mix (fun x => Below W.heap.size W x) [6, 7] (by kernel_rfl) (fun hcl => ?_)
  have hS : Below W.heap.size W W.drew := (Below.refl _ _).drew
  refine wpAnyT_take (i := 0) hcl rfl (by kernel_rfl) (v := ?_) (fun _ _ _ h => h) hS (Or.inl ⟨rfl, fun w' hS => ?_⟩) (fun hcl => ?_)
  rotate_left
  ·skip
   have cw : ∀ i : Nat, _ = _ := (H0.out.1.below hS (by omega)).cell
   simp only [setC] at cw
   go_simp
   with_reducible rfl
  simp only [List.getElem_toArray, List.getElem_cons_zero, List.getElem_cons_succ, Act.put, List.setIfInBounds_toArray, List.set_cons_zero, List.set_cons_succ]
  refine wpAnyT_take (i := 2) hcl rfl (by kernel_rfl) (v := ?_) (fun _ _ _ h => h) hS (Or.inl ⟨rfl, fun w' hS => ?_⟩) (fun hcl => ?_)
  rotate_left
  ·skip
   have cw : ∀ i : Nat, _ = _ := (H0.out.2.1.below hS (by omega)).cell
   simp only [setC] at cw
   go_simp
   with_reducible rfl
  simp only [List.getElem_toArray, List.getElem_cons_zero, List.getElem_cons_succ, Act.put, List.setIfInBounds_toArray, List.set_cons_zero, List.set_cons_succ]
  obtain ⟨x0, hx0⟩ : ∃ x, x = W.drew := ⟨_, rfl⟩
  rw [← hx0] at hS ⊢
  have zx0 : W.heap.size ≤ x0.heap.size := hS.size
  clear hx0
  refine wpAnyT_pick3 (i := 1) (j := 4) (l := 5) hcl rfl rfl rfl (by kernel_rfl) (fun hcl => ?_) (fun hcl => ?_) (fun hcl => ?_)
  ·skip
   simp only [List.getElem_toArray, List.getElem_cons_zero, List.getElem_cons_succ, Act.put, List.setIfInBounds_toArray, List.set_cons_zero, List.set_cons_succ]
   go_wp2_with fail
   refine (show Calls Tryz.prog _ _ x0 _ from (bits_any S x0)).mono ?_
   rintro e x1 ⟨rfl, hbel1⟩
   have zx1 : x0.heap.size ≤ x1.heap.size := hbel1.size
   have hS1 : Below W.heap.size W x1 := hS.trans (hbel1.mono (by omega))
   go_wp2_with fail
   refine ⟨hS1, ?_⟩
   refine wpAnyT_pick3 (i := 3) (j := 4) (l := 5) hcl rfl rfl rfl (by kernel_rfl) (fun hcl => ?_) (fun hcl => ?_) (fun hcl => ?_)
   ·skip
    simp only [List.getElem_toArray, List.getElem_cons_zero, List.getElem_cons_succ, Act.put, List.setIfInBounds_toArray, List.set_cons_zero, List.set_cons_succ]
    go_wp2_with fail
    refine (show Calls Tryz.prog _ _ x1 _ from (bits_any T x1)).mono ?_
    rintro e x2 ⟨rfl, hbel2⟩
    have zx2 : x1.heap.size ≤ x2.heap.size := hbel2.size
    have hS2 : Below W.heap.size W x2 := hS1.trans (hbel2.mono (by omega))
    go_wp2_with fail
    refine ⟨hS2, ?_⟩
    refine wpAnyT_pick2 (i := 4) (j := 5) hcl rfl rfl (by kernel_rfl) (fun hcl => ?_) (fun hcl => ?_)
    ·skip
     simp only [List.getElem_toArray, List.getElem_cons_zero, List.getElem_cons_succ, Act.put, List.setIfInBounds_toArray, List.set_cons_zero, List.set_cons_succ]
     refine wpList_alloc_bools rfl rfl ?_
     refine wpList_nil ?_
     generalize hx3 : x2.alloc (.cells (boolsC fun _ => false).toArray 132) = x3
     have hg3 : Blk x3 x2.heap.size 132 (boolsC fun _ => false).toArray := hx3 ▸ Blk.new x2 132 _
     have zx3 : x2.heap.size < x3.heap.size := by rw [← hx3]; simp
     have hS3 : Below W.heap.size W x3 := hx3 ▸ hS2.alloc (by omega) _
     have hbel3 : Below x2.heap.size x2 x3 := hx3 ▸ (Below.refl _ _).alloc (Nat.le_refl _) _
     clear hx3
     refine ⟨hS3, ?_⟩
     refine wpAnyT_step (i := 5) hcl rfl (by kernel_rfl) (fun hcl => ?_)
     simp only [List.getElem_toArray, List.getElem_cons_zero, List.getElem_cons_succ, Act.put, List.setIfInBounds_toArray, List.set_cons_zero, List.set_cons_succ]
     refine wpList_alloc_bools rfl rfl ?_
     refine wpList_nil ?_
     generalize hx4 : x3.alloc (.cells (boolsC fun _ => false).toArray 132) = x4
     have hg4 : Blk x4 x3.heap.size 132 (boolsC fun _ => false).toArray := hx4 ▸ Blk.new x3 132 _
     have zx4 : x3.heap.size < x4.heap.size := by rw [← hx4]; simp
     have hS4 : Below W.heap.size W x4 := hx4 ▸ hS3.alloc (by omega) _
     have hbel4 : Below x3.heap.size x3 x4 := hx4 ▸ (Below.refl _ _).alloc (Nat.le_refl _) _
     clear hx4
     have hg3_4 := hg3.below hbel4 (by omega)
     refine ⟨hS4, ?_⟩
     refine wpAnyT_last (i := 6) hcl rfl (by kernel_rfl) (by kernel_rfl) (fun hcl => ?_)
     simp only [List.getElem_toArray, List.getElem_cons_zero, List.getElem_cons_succ, Act.put, List.setIfInBounds_toArray, List.set_cons_zero, List.set_cons_succ]
     refine wpList_store_bools rfl _ _ rfl x2.heap.size _ S rfl rfl hg3_4 (by simp [boolsC_len]) ?_
     intro y5 hrow5 hgr5 hz5
     refine wpList_nil ?_
     have hgb5 := hg4.grown hgr5 (by simp; omega)
     refine wpAnyT_last (i := 7) hcl rfl (by kernel_rfl) (by kernel_rfl) (fun hcl => ?_)
     simp only [List.getElem_toArray, List.getElem_cons_zero, List.getElem_cons_succ, Act.put, List.setIfInBounds_toArray, List.set_cons_zero, List.set_cons_succ]
     refine wpList_store_bools rfl _ _ rfl x3.heap.size _ T rfl rfl hgb5 (by simp [boolsC_len]) ?_
     intro v5 hrow25 hgr25 hz25
     refine wpList_nil ?_
     refine wpAnyT_done (by kernel_rfl) ?_ _
     have HX := hide (And.intro (hrow5.grown hgr25 (by simp; omega)) (And.intro hrow25 (below_grew (below_grew hS4 hgr5 (Nat.le_refl _) (fun q hq => by rw [← Option.some.inj hq]; omega)) hgr25 (Nat.le_refl _) (fun q hq => by rw [← Option.some.inj hq]; omega))))
     go_wp2_with fail
     go_meet
     case rel => exact ⟨_, _, rfl, rfl, by omega, by omega, by omega, HX.out.1, HX.out.2.1, HX.out.2.2⟩
    ·skip
     simp only [List.getElem_toArray, List.getElem_cons_zero, List.getElem_cons_succ, Act.put, List.setIfInBounds_toArray, List.set_cons_zero, List.set_cons_succ]
     refine wpList_alloc_bools rfl rfl ?_
     refine wpList_nil ?_
     generalize hx6 : x2.alloc (.cells (boolsC fun _ => false).toArray 132) = x6
     have hg6 : Blk x6 x2.heap.size 132 (boolsC fun _ => false).toArray := hx6 ▸ Blk.new x2 132 _
     have zx6 : x2.heap.size < x6.heap.size := by rw [← hx6]; simp
     have hS6 : Below W.heap.size W x6 := hx6 ▸ hS2.alloc (by omega) _
     have hbel6 : Below x2.heap.size x2 x6 := hx6 ▸ (Below.refl _ _).alloc (Nat.le_refl _) _
     clear hx6
     refine ⟨hS6, ?_⟩
     refine wpAnyT_step (i := 4) hcl rfl (by kernel_rfl) (fun hcl => ?_)
     simp only [List.getElem_toArray, List.getElem_cons_zero, List.getElem_cons_succ, Act.put, List.setIfInBounds_toArray, List.set_cons_zero, List.set_cons_succ]
     refine wpList_alloc_bools rfl rfl ?_
     refine wpList_nil ?_
     generalize hx7 : x6.alloc (.cells (boolsC fun _ => false).toArray 132) = x7
     have hg7 : Blk x7 x6.heap.size 132 (boolsC fun _ => false).toArray := hx7 ▸ Blk.new x6 132 _
     have zx7 : x6.heap.size < x7.heap.size := by rw [← hx7]; simp
     have hS7 : Below W.heap.size W x7 := hx7 ▸ hS6.alloc (by omega) _
     have hbel7 : Below x6.heap.size x6 x7 := hx7 ▸ (Below.refl _ _).alloc (Nat.le_refl _) _
     clear hx7
     have hg6_7 := hg6.below hbel7 (by omega)
     refine ⟨hS7, ?_⟩
     refine wpAnyT_last (i := 6) hcl rfl (by kernel_rfl) (by kernel_rfl) (fun hcl => ?_)
     simp only [List.getElem_toArray, List.getElem_cons_zero, List.getElem_cons_succ, Act.put, List.setIfInBounds_toArray, List.set_cons_zero, List.set_cons_succ]
     refine wpList_store_bools rfl _ _ rfl x6.heap.size _ S rfl rfl hg7 (by simp [boolsC_len]) ?_
     intro y8 hrow8 hgr8 hz8
     refine wpList_nil ?_
     have hgb8 := hg6_7.grown hgr8 (by simp; omega)
     refine wpAnyT_last (i := 7) hcl rfl (by kernel_rfl) (by kernel_rfl) (fun hcl => ?_)
     simp only [List.getElem_toArray, List.getElem_cons_zero, List.getElem_cons_succ, Act.put, List.setIfInBounds_toArray, List.set_cons_zero, List.set_cons_succ]
     refine wpList_store_bools rfl _ _ rfl x2.heap.size _ T rfl rfl hgb8 (by simp [boolsC_len]) ?_
     intro v8 hrow28 hgr28 hz28
     refine wpList_nil ?_
     refine wpAnyT_done (by kernel_rfl) ?_ _
     have HX := hide (And.intro (hrow8.grown hgr28 (by simp; omega)) (And.intro hrow28 (below_grew (below_grew hS7 hgr8 (Nat.le_refl _) (fun q hq => by rw [← Option.some.inj hq]; omega)) hgr28 (Nat.le_refl _) (fun q hq => by rw [← Option.some.inj hq]; omega))))
     go_wp2_with fail
     go_meet
     case rel => exact ⟨_, _, rfl, rfl, by omega, by omega, by omega, HX.out.1, HX.out.2.1, HX.out.2.2⟩
   ·skip
    simp only [List.getElem_toArray, List.getElem_cons_zero, List.getElem_cons_succ, Act.put, List.setIfInBounds_toArray, List.set_cons_zero, List.set_cons_succ]
    refine wpList_alloc_bools rfl rfl ?_
    refine wpList_nil ?_
    generalize hx9 : x1.alloc (.cells (boolsC fun _ => false).toArray 132) = x9
    have hg9 : Blk x9 x1.heap.size 132 (boolsC fun _ => false).toArray := hx9 ▸ Blk.new x1 132 _
    have zx9 : x1.heap.size < x9.heap.size := by rw [← hx9]; simp
    have hS9 : Below W.heap.size W x9 := hx9 ▸ hS1.alloc (by omega) _
    have hbel9 : Below x1.heap.size x1 x9 := hx9 ▸ (Below.refl _ _).alloc (Nat.le_refl _) _
    clear hx9
    refine ⟨hS9, ?_⟩
    refine wpAnyT_pick2 (i := 3) (j := 5) hcl rfl rfl (by kernel_rfl) (fun hcl => ?_) (fun hcl => ?_)
    ·skip
     simp only [List.getElem_toArray, List.getElem_cons_zero, List.getElem_cons_succ, Act.put, List.setIfInBounds_toArray, List.set_cons_zero, List.set_cons_succ]
     go_wp2_with fail
     refine (show Calls Tryz.prog _ _ x9 _ from (bits_any T x9)).mono ?_
     rintro e x10 ⟨rfl, hbel10⟩
     have zx10 : x9.heap.size ≤ x10.heap.size := hbel10.size
     have hS10 : Below W.heap.size W x10 := hS9.trans (hbel10.mono (by omega))
     have hg9_10 := hg9.below hbel10 (by omega)
     go_wp2_with fail
     refine ⟨hS10, ?_⟩
     refine wpAnyT_step (i := 5) hcl rfl (by kernel_rfl) (fun hcl => ?_)
     simp only [List.getElem_toArray, List.getElem_cons_zero, List.getElem_cons_succ, Act.put, List.setIfInBounds_toArray, List.set_cons_zero, List.set_cons_succ]
     refine wpList_alloc_bools rfl rfl ?_
     refine wpList_nil ?_
     generalize hx11 : x10.alloc (.cells (boolsC fun _ => false).toArray 132) = x11
     have hg11 : Blk x11 x10.heap.size 132 (boolsC fun _ => false).toArray := hx11 ▸ Blk.new x10 132 _
     have zx11 : x10.heap.size < x11.heap.size := by rw [← hx11]; simp
     have hS11 : Below W.heap.size W x11 := hx11 ▸ hS10.alloc (by omega) _
     have hbel11 : Below x10.heap.size x10 x11 := hx11 ▸ (Below.refl _ _).alloc (Nat.le_refl _) _
     clear hx11
     have hg9_11 := hg9_10.below hbel11 (by omega)
     refine ⟨hS11, ?_⟩
     refine wpAnyT_last (i := 6) hcl rfl (by kernel_rfl) (by kernel_rfl) (fun hcl => ?_)
     simp only [List.getElem_toArray, List.getElem_cons_zero, List.getElem_cons_succ, Act.put, List.setIfInBounds_toArray, List.set_cons_zero, List.set_cons_succ]
     refine wpList_store_bools rfl _ _ rfl x1.heap.size _ S rfl rfl hg9_11 (by simp [boolsC_len]) ?_
     intro y12 hrow12 hgr12 hz12
     refine wpList_nil ?_
     have hgb12 := hg11.grown hgr12 (by simp; omega)
     refine wpAnyT_last (i := 7) hcl rfl (by kernel_rfl) (by kernel_rfl) (fun hcl => ?_)
     simp only [List.getElem_toArray, List.getElem_cons_zero, List.getElem_cons_succ, Act.put, List.setIfInBounds_toArray, List.set_cons_zero, List.set_cons_succ]
     refine wpList_store_bools rfl _ _ rfl x10.heap.size _ T rfl rfl hgb12 (by simp [boolsC_len]) ?_
     intro v12 hrow212 hgr212 hz212
     refine wpList_nil ?_
     refine wpAnyT_done (by kernel_rfl) ?_ _
     have HX := hide (And.intro (hrow12.grown hgr212 (by simp; omega)) (And.intro hrow212 (below_grew (below_grew hS11 hgr12 (Nat.le_refl _) (fun q hq => by rw [← Option.some.inj hq]; omega)) hgr212 (Nat.le_refl _) (fun q hq => by rw [← Option.some.inj hq]; omega))))
     go_wp2_with fail
     go_meet
     case rel => exact ⟨_, _, rfl, rfl, by omega, by omega, by omega, HX.out.1, HX.out.2.1, HX.out.2.2⟩
    ·skip
     simp only [List.getElem_toArray, List.getElem_cons_zero, List.getElem_cons_succ, Act.put, List.setIfInBounds_toArray, List.set_cons_zero, List.set_cons_succ]
     refine wpList_alloc_bools rfl rfl ?_
     refine wpList_nil ?_
     generalize hx13 : x9.alloc (.cells (boolsC fun _ => false).toArray 132) = x13
     have hg13 : Blk x13 x9.heap.size 132 (boolsC fun _ => false).toArray := hx13 ▸ Blk.new x9 132 _
     have zx13 : x9.heap.size < x13.heap.size := by rw [← hx13]; simp
     have hS13 : Below W.heap.size W x13 := hx13 ▸ hS9.alloc (by omega) _
     have hbel13 : Below x9.heap.size x9 x13 := hx13 ▸ (Below.refl _ _).alloc (Nat.le_refl _) _
     clear hx13
     have hg9_13 := hg9.below hbel13 (by omega)
     refine ⟨hS13, ?_⟩
     refine wpAnyT_step (i := 3) hcl rfl (by kernel_rfl) (fun hcl => ?_)
     simp only [List.getElem_toArray, List.getElem_cons_zero, List.getElem_cons_succ, Act.put, List.setIfInBounds_toArray, List.set_cons_zero, List.set_cons_succ]
     go_wp2_with fail
     refine (show Calls Tryz.prog _ _ x13 _ from (bits_any T x13)).mono ?_
     rintro e x14 ⟨rfl, hbel14⟩
     have zx14 : x13.heap.size ≤ x14.heap.size := hbel14.size
     have hS14 : Below W.heap.size W x14 := hS13.trans (hbel14.mono (by omega))
     have hg9_14 := hg9_13.below hbel14 (by omega)
     have hg13_14 := hg13.below hbel14 (by omega)
     go_wp2_with fail
     refine ⟨hS14, ?_⟩
     refine wpAnyT_last (i := 6) hcl rfl (by kernel_rfl) (by kernel_rfl) (fun hcl => ?_)
     simp only [List.getElem_toArray, List.getElem_cons_zero, List.getElem_cons_succ, Act.put, List.setIfInBounds_toArray, List.set_cons_zero, List.set_cons_succ]
     refine wpList_store_bools rfl _ _ rfl x1.heap.size _ S rfl rfl hg9_14 (by simp [boolsC_len]) ?_
     intro y15 hrow15 hgr15 hz15
     refine wpList_nil ?_
     have hgb15 := hg13_14.grown hgr15 (by simp; omega)
     refine wpAnyT_last (i := 7) hcl rfl (by kernel_rfl) (by kernel_rfl) (fun hcl => ?_)
     simp only [List.getElem_toArray, List.getElem_cons_zero, List.getElem_cons_succ, Act.put, List.setIfInBounds_toArray, List.set_cons_zero, List.set_cons_succ]
     refine wpList_store_bools rfl _ _ rfl x9.heap.size _ T rfl rfl hgb15 (by simp [boolsC_len]) ?_
     intro v15 hrow215 hgr215 hz215
     refine wpList_nil ?_
     refine wpAnyT_done (by kernel_rfl) ?_ _
     have HX := hide (And.intro (hrow15.grown hgr215 (by simp; omega)) (And.intro hrow215 (below_grew (below_grew hS14 hgr15 (Nat.le_refl _) (fun q hq => by rw [← Option.some.inj hq]; omega)) hgr215 (Nat.le_refl _) (fun q hq => by rw [← Option.some.inj hq]; omega))))
     go_wp2_with fail
     go_meet
     case rel => exact ⟨_, _, rfl, rfl, by omega, by omega, by omega, HX.out.1, HX.out.2.1, HX.out.2.2⟩
   ·skip
    simp only [List.getElem_toArray, List.getElem_cons_zero, List.getElem_cons_succ, Act.put, List.setIfInBounds_toArray, List.set_cons_zero, List.set_cons_succ]
    refine wpList_alloc_bools rfl rfl ?_
    refine wpList_nil ?_
    generalize hx16 : x1.alloc (.cells (boolsC fun _ => false).toArray 132) = x16
    have hg16 : Blk x16 x1.heap.size 132 (boolsC fun _ => false).toArray := hx16 ▸ Blk.new x1 132 _
    have zx16 : x1.heap.size < x16.heap.size := by rw [← hx16]; simp
    have hS16 : Below W.heap.size W x16 := hx16 ▸ hS1.alloc (by omega) _
    have hbel16 : Below x1.heap.size x1 x16 := hx16 ▸ (Below.refl _ _).alloc (Nat.le_refl _) _
    clear hx16
    refine ⟨hS16, ?_⟩
    refine wpAnyT_pick2 (i := 3) (j := 4) hcl rfl rfl (by kernel_rfl) (fun hcl => ?_) (fun hcl => ?_)
    ·skip
     simp only [List.getElem_toArray, List.getElem_cons_zero, List.getElem_cons_succ, Act.put, List.setIfInBounds_toArray, List.set_cons_zero, List.set_cons_succ]
     go_wp2_with fail
     refine (show Calls Tryz.prog _ _ x16 _ from (bits_any T x16)).mono ?_
     rintro e x17 ⟨rfl, hbel17⟩
     have zx17 : x16.heap.size ≤ x17.heap.size := hbel17.size
     have hS17 : Below W.heap.size W x17 := hS16.trans (hbel17.mono (by omega))
     have hg16_17 := hg16.below hbel17 (by omega)
     go_wp2_with fail
     refine ⟨hS17, ?_⟩
     refine wpAnyT_step (i := 4) hcl rfl (by kernel_rfl) (fun hcl => ?_)
     simp only [List.getElem_toArray, List.getElem_cons_zero, List.getElem_cons_succ, Act.put, List.setIfInBounds_toArray, List.set_cons_zero, List.set_cons_succ]
     refine wpList_alloc_bools rfl rfl ?_
     refine wpList_nil ?_
     generalize hx18 : x17.alloc (.cells (boolsC fun _ => false).toArray 132) = x18
     have hg18 : Blk x18 x17.heap.size 132 (boolsC fun _ => false).toArray := hx18 ▸ Blk.new x17 132 _
     have zx18 : x17.heap.size < x18.heap.size := by rw [← hx18]; simp
     have hS18 : Below W.heap.size W x18 := hx18 ▸ hS17.alloc (by omega) _
     have hbel18 : Below x17.heap.size x17 x18 := hx18 ▸ (Below.refl _ _).alloc (Nat.le_refl _) _
     clear hx18
     have hg16_18 := hg16_17.below hbel18 (by omega)
     refine ⟨hS18, ?_⟩
     refine wpAnyT_last (i := 6) hcl rfl (by kernel_rfl) (by kernel_rfl) (fun hcl => ?_)
     simp only [List.getElem_toArray, List.getElem_cons_zero, List.getElem_cons_succ, Act.put, List.setIfInBounds_toArray, List.set_cons_zero, List.set_cons_succ]
     refine wpList_store_bools rfl _ _ rfl x17.heap.size _ S rfl rfl hg18 (by simp [boolsC_len]) ?_
     intro y19 hrow19 hgr19 hz19
     refine wpList_nil ?_
     have hgb19 := hg16_18.grown hgr19 (by simp; omega)
     refine wpAnyT_last (i := 7) hcl rfl (by kernel_rfl) (by kernel_rfl) (fun hcl => ?_)
     simp only [List.getElem_toArray, List.getElem_cons_zero, List.getElem_cons_succ, Act.put, List.setIfInBounds_toArray, List.set_cons_zero, List.set_cons_succ]
     refine wpList_store_bools rfl _ _ rfl x1.heap.size _ T rfl rfl hgb19 (by simp [boolsC_len]) ?_
     intro v19 hrow219 hgr219 hz219
     refine wpList_nil ?_
     refine wpAnyT_done (by kernel_rfl) ?_ _
     have HX := hide (And.intro (hrow19.grown hgr219 (by simp; omega)) (And.intro hrow219 (below_grew (below_grew hS18 hgr19 (Nat.le_refl _) (fun q hq => by rw [← Option.some.inj hq]; omega)) hgr219 (Nat.le_refl _) (fun q hq => by rw [← Option.some.inj hq]; omega))))
     go_wp2_with fail
     go_meet
     case rel => exact ⟨_, _, rfl, rfl, by omega, by omega, by omega, HX.out.1, HX.out.2.1, HX.out.2.2⟩
    ·skip
     simp only [List.getElem_toArray, List.getElem_cons_zero, List.getElem_cons_succ, Act.put, List.setIfInBounds_toArray, List.set_cons_zero, List.set_cons_succ]
     refine wpList_alloc_bools rfl rfl ?_
     refine wpList_nil ?_
     generalize hx20 : x16.alloc (.cells (boolsC fun _ => false).toArray 132) = x20
     have hg20 : Blk x20 x16.heap.size 132 (boolsC fun _ => false).toArray := hx20 ▸ Blk.new x16 132 _
     have zx20 : x16.heap.size < x20.heap.size := by rw [← hx20]; simp
     have hS20 : Below W.heap.size W x20 := hx20 ▸ hS16.alloc (by omega) _
     have hbel20 : Below x16.heap.size x16 x20 := hx20 ▸ (Below.refl _ _).alloc (Nat.le_refl _) _
     clear hx20
     have hg16_20 := hg16.below hbel20 (by omega)
     refine ⟨hS20, ?_⟩
     refine wpAnyT_step (i := 3) hcl rfl (by kernel_rfl) (fun hcl => ?_)
     simp only [List.getElem_toArray, List.getElem_cons_zero, List.getElem_cons_succ, Act.put, List.setIfInBounds_toArray, List.set_cons_zero, List.set_cons_succ]
     go_wp2_with fail
     refine (show Calls Tryz.prog _ _ x20 _ from (bits_any T x20)).mono ?_
     rintro e x21 ⟨rfl, hbel21⟩
     have zx21 : x20.heap.size ≤ x21.heap.size := hbel21.size
     have hS21 : Below W.heap.size W x21 := hS20.trans (hbel21.mono (by omega))
     have hg20_21 := hg20.below hbel21 (by omega)
     have hg16_21 := hg16_20.below hbel21 (by omega)
     go_wp2_with fail
     refine ⟨hS21, ?_⟩
     refine wpAnyT_last (i := 6) hcl rfl (by kernel_rfl) (by kernel_rfl) (fun hcl => ?_)
     simp only [List.getElem_toArray, List.getElem_cons_zero, List.getElem_cons_succ, Act.put, List.setIfInBounds_toArray, List.set_cons_zero, List.set_cons_succ]
     refine wpList_store_bools rfl _ _ rfl x16.heap.size _ S rfl rfl hg20_21 (by simp [boolsC_len]) ?_
     intro y22 hrow22 hgr22 hz22
     refine wpList_nil ?_
     have hgb22 := hg16_21.grown hgr22 (by simp; omega)
     refine wpAnyT_last (i := 7) hcl rfl (by kernel_rfl) (by kernel_rfl) (fun hcl => ?_)
     simp only [List.getElem_toArray, List.getElem_cons_zero, List.getElem_cons_succ, Act.put, List.setIfInBounds_toArray, List.set_cons_zero, List.set_cons_succ]
     refine wpList_store_bools rfl _ _ rfl x1.heap.size _ T rfl rfl hgb22 (by simp [boolsC_len]) ?_
     intro v22 hrow222 hgr222 hz222
     refine wpList_nil ?_
     refine wpAnyT_done (by kernel_rfl) ?_ _
     have HX := hide (And.intro (hrow22.grown hgr222 (by simp; omega)) (And.intro hrow222 (below_grew (below_grew hS21 hgr22 (Nat.le_refl _) (fun q hq => by rw [← Option.some.inj hq]; omega)) hgr222 (Nat.le_refl _) (fun q hq => by rw [← Option.some.inj hq]; omega))))
     go_wp2_with fail
     go_meet
     case rel => exact ⟨_, _, rfl, rfl, by omega, by omega, by omega, HX.out.1, HX.out.2.1, HX.out.2.2⟩
  ·skip
   simp only [List.getElem_toArray, List.getElem_cons_zero, List.getElem_cons_succ, Act.put, List.setIfInBounds_toArray, List.set_cons_zero, List.set_cons_succ]
   refine wpList_alloc_bools rfl rfl ?_
   refine wpList_nil ?_
   generalize hx23 : x0.alloc (.cells (boolsC fun _ => false).toArray 132) = x23
   have hg23 : Blk x23 x0.heap.size 132 (boolsC fun _ => false).toArray := hx23 ▸ Blk.new x0 132 _
   have zx23 : x0.heap.size < x23.heap.size := by rw [← hx23]; simp
   have hS23 : Below W.heap.size W x23 := hx23 ▸ hS.alloc (by omega) _
   have hbel23 : Below x0.heap.size x0 x23 := hx23 ▸ (Below.refl _ _).alloc (Nat.le_refl _) _
   clear hx23
   refine ⟨hS23, ?_⟩
   refine wpAnyT_pick2 (i := 1) (j := 5) hcl rfl rfl (by kernel_rfl) (fun hcl => ?_) (fun hcl => ?_)
   ·skip
    simp only [List.getElem_toArray, List.getElem_cons_zero, List.getElem_cons_succ, Act.put, List.setIfInBounds_toArray, List.set_cons_zero, List.set_cons_succ]
    go_wp2_with fail
    refine (show Calls Tryz.prog _ _ x23 _ from (bits_any S x23)).mono ?_
    rintro e x24 ⟨rfl, hbel24⟩
    have zx24 : x23.heap.size ≤ x24.heap.size := hbel24.size
    have hS24 : Below W.heap.size W x24 := hS23.trans (hbel24.mono (by omega))
    have hg23_24 := hg23.below hbel24 (by omega)
    go_wp2_with fail
    refine ⟨hS24, ?_⟩
    refine wpAnyT_pick2 (i := 3) (j := 5) hcl rfl rfl (by kernel_rfl) (fun hcl => ?_) (fun hcl => ?_)
    ·skip
     simp only [List.getElem_toArray, List.getElem_cons_zero, List.getElem_cons_succ, Act.put, List.setIfInBounds_toArray, List.set_cons_zero, List.set_cons_succ]
     go_wp2_with fail
     refine (show Calls Tryz.prog _ _ x24 _ from (bits_any T x24)).mono ?_
     rintro e x25 ⟨rfl, hbel25⟩
     have zx25 : x24.heap.size ≤ x25.heap.size := hbel25.size
     have hS25 : Below W.heap.size W x25 := hS24.trans (hbel25.mono (by omega))
     have hg23_25 := hg23_24.below hbel25 (by omega)
     go_wp2_with fail
     refine ⟨hS25, ?_⟩
     refine wpAnyT_step (i := 5) hcl rfl (by kernel_rfl) (fun hcl => ?_)
     simp only [List.getElem_toArray, List.getElem_cons_zero, List.getElem_cons_succ, Act.put, List.setIfInBounds_toArray, List.set_cons_zero, List.set_cons_succ]
     refine wpList_alloc_bools rfl rfl ?_
     refine wpList_nil ?_
     generalize hx26 : x25.alloc (.cells (boolsC fun _ => false).toArray 132) = x26
     have hg26 : Blk x26 x25.heap.size 132 (boolsC fun _ => false).toArray := hx26 ▸ Blk.new x25 132 _
     have zx26 : x25.heap.size < x26.heap.size := by rw [← hx26]; simp
     have hS26 : Below W.heap.size W x26 := hx26 ▸ hS25.alloc (by omega) _
     have hbel26 : Below x25.heap.size x25 x26 := hx26 ▸ (Below.refl _ _).alloc (Nat.le_refl _) _
     clear hx26
     have hg23_26 := hg23_25.below hbel26 (by omega)
     refine ⟨hS26, ?_⟩
     refine wpAnyT_last (i := 6) hcl rfl (by kernel_rfl) (by kernel_rfl) (fun hcl => ?_)
     simp only [List.getElem_toArray, List.getElem_cons_zero, List.getElem_cons_succ, Act.put, List.setIfInBounds_toArray, List.set_cons_zero, List.set_cons_succ]
     refine wpList_store_bools rfl _ _ rfl x0.heap.size _ S rfl rfl hg23_26 (by simp [boolsC_len]) ?_
     intro y27 hrow27 hgr27 hz27
     refine wpList_nil ?_
     have hgb27 := hg26.grown hgr27 (by simp; omega)
     refine wpAnyT_last (i := 7) hcl rfl (by kernel_rfl) (by kernel_rfl) (fun hcl => ?_)
     simp only [List.getElem_toArray, List.getElem_cons_zero, List.getElem_cons_succ, Act.put, List.setIfInBounds_toArray, List.set_cons_zero, List.set_cons_succ]
     refine wpList_store_bools rfl _ _ rfl x25.heap.size _ T rfl rfl hgb27 (by simp [boolsC_len]) ?_
     intro v27 hrow227 hgr227 hz227
     refine wpList_nil ?_
     refine wpAnyT_done (by kernel_rfl) ?_ _
     have HX := hide (And.intro (hrow27.grown hgr227 (by simp; omega)) (And.intro hrow227 (below_grew (below_grew hS26 hgr27 (Nat.le_refl _) (fun q hq => by rw [← Option.some.inj hq]; omega)) hgr227 (Nat.le_refl _) (fun q hq => by rw [← Option.some.inj hq]; omega))))
     go_wp2_with fail
     go_meet
     case rel => exact ⟨_, _, rfl, rfl, by omega, by omega, by omega, HX.out.1, HX.out.2.1, HX.out.2.2⟩
    ·skip
     simp only [List.getElem_toArray, List.getElem_cons_zero, List.getElem_cons_succ, Act.put, List.setIfInBounds_toArray, List.set_cons_zero, List.set_cons_succ]
     refine wpList_alloc_bools rfl rfl ?_
     refine wpList_nil ?_
     generalize hx28 : x24.alloc (.cells (boolsC fun _ => false).toArray 132) = x28
     have hg28 : Blk x28 x24.heap.size 132 (boolsC fun _ => false).toArray := hx28 ▸ Blk.new x24 132 _
     have zx28 : x24.heap.size < x28.heap.size := by rw [← hx28]; simp
     have hS28 : Below W.heap.size W x28 := hx28 ▸ hS24.alloc (by omega) _
     have hbel28 : Below x24.heap.size x24 x28 := hx28 ▸ (Below.refl _ _).alloc (Nat.le_refl _) _
     clear hx28
     have hg23_28 := hg23_24.below hbel28 (by omega)
     refine ⟨hS28, ?_⟩
     refine wpAnyT_step (i := 3) hcl rfl (by kernel_rfl) (fun hcl => ?_)
     simp only [List.getElem_toArray, List.getElem_cons_zero, List.getElem_cons_succ, Act.put, List.setIfInBounds_toArray, List.set_cons_zero, List.set_cons_succ]
     go_wp2_with fail
     refine (show Calls Tryz.prog _ _ x28 _ from (bits_any T x28)).mono ?_
     rintro e x29 ⟨rfl, hbel29⟩
     have zx29 : x28.heap.size ≤ x29.heap.size := hbel29.size
     have hS29 : Below W.heap.size W x29 := hS28.trans (hbel29.mono (by omega))
     have hg23_29 := hg23_28.below hbel29 (by omega)
     have hg28_29 := hg28.below hbel29 (by omega)
     go_wp2_with fail
     refine ⟨hS29, ?_⟩
     refine wpAnyT_last (i := 6) hcl rfl (by kernel_rfl) (by kernel_rfl) (fun hcl => ?_)
     simp only [List.getElem_toArray, List.getElem_cons_zero, List.getElem_cons_succ, Act.put, List.setIfInBounds_toArray, List.set_cons_zero, List.set_cons_succ]
     refine wpList_store_bools rfl _ _ rfl x0.heap.size _ S rfl rfl hg23_29 (by simp [boolsC_len]) ?_
     intro y30 hrow30 hgr30 hz30
     refine wpList_nil ?_
     have hgb30 := hg28_29.grown hgr30 (by simp; omega)
     refine wpAnyT_last (i := 7) hcl rfl (by kernel_rfl) (by kernel_rfl) (fun hcl => ?_)
     simp only [List.getElem_toArray, List.getElem_cons_zero, List.getElem_cons_succ, Act.put, List.setIfInBounds_toArray, List.set_cons_zero, List.set_cons_succ]
     refine wpList_store_bools rfl _ _ rfl x24.heap.size _ T rfl rfl hgb30 (by simp [boolsC_len]) ?_
     intro v30 hrow230 hgr230 hz230
     refine wpList_nil ?_
     refine wpAnyT_done (by kernel_rfl) ?_ _
     have HX := hide (And.intro (hrow30.grown hgr230 (by simp; omega)) (And.intro hrow230 (below_grew (below_grew hS29 hgr30 (Nat.le_refl _) (fun q hq => by rw [← Option.some.inj hq]; omega)) hgr230 (Nat.le_refl _) (fun q hq => by rw [← Option.some.inj hq]; omega))))
     go_wp2_with fail
     go_meet
     case rel => exact ⟨_, _, rfl, rfl, by omega, by omega, by omega, HX.out.1, HX.out.2.1, HX.out.2.2⟩
   ·skip
    simp only [List.getElem_toArray, List.getElem_cons_zero, List.getElem_cons_succ, Act.put, List.setIfInBounds_toArray, List.set_cons_zero, List.set_cons_succ]
    refine wpList_alloc_bools rfl rfl ?_
    refine wpList_nil ?_
    generalize hx31 : x23.alloc (.cells (boolsC fun _ => false).toArray 132) = x31
    have hg31 : Blk x31 x23.heap.size 132 (boolsC fun _ => false).toArray := hx31 ▸ Blk.new x23 132 _
    have zx31 : x23.heap.size < x31.heap.size := by rw [← hx31]; simp
    have hS31 : Below W.heap.size W x31 := hx31 ▸ hS23.alloc (by omega) _
    have hbel31 : Below x23.heap.size x23 x31 := hx31 ▸ (Below.refl _ _).alloc (Nat.le_refl _) _
    clear hx31
    have hg23_31 := hg23.below hbel31 (by omega)
    refine ⟨hS31, ?_⟩
    refine wpAnyT_step (i := 1) hcl rfl (by kernel_rfl) (fun hcl => ?_)
    simp only [List.getElem_toArray, List.getElem_cons_zero, List.getElem_cons_succ, Act.put, List.setIfInBounds_toArray, List.set_cons_zero, List.set_cons_succ]
    go_wp2_with fail
    refine (show Calls Tryz.prog _ _ x31 _ from (bits_any S x31)).mono ?_
    rintro e x32 ⟨rfl, hbel32⟩
    have zx32 : x31.heap.size ≤ x32.heap.size := hbel32.size
    have hS32 : Below W.heap.size W x32 := hS31.trans (hbel32.mono (by omega))
    have hg23_32 := hg23_31.below hbel32 (by omega)
    have hg31_32 := hg31.below hbel32 (by omega)
    go_wp2_with fail
    refine ⟨hS32, ?_⟩
    refine wpAnyT_step (i := 3) hcl rfl (by kernel_rfl) (fun hcl => ?_)
    simp only [List.getElem_toArray, List.getElem_cons_zero, List.getElem_cons_succ, Act.put, List.setIfInBounds_toArray, List.set_cons_zero, List.set_cons_succ]
    go_wp2_with fail
    refine (show Calls Tryz.prog _ _ x32 _ from (bits_any T x32)).mono ?_
    rintro e x33 ⟨rfl, hbel33⟩
    have zx33 : x32.heap.size ≤ x33.heap.size := hbel33.size
    have hS33 : Below W.heap.size W x33 := hS32.trans (hbel33.mono (by omega))
    have hg23_33 := hg23_32.below hbel33 (by omega)
    have hg31_33 := hg31_32.below hbel33 (by omega)
    go_wp2_with fail
    refine ⟨hS33, ?_⟩
    refine wpAnyT_last (i := 6) hcl rfl (by kernel_rfl) (by kernel_rfl) (fun hcl => ?_)
    simp only [List.getElem_toArray, List.getElem_cons_zero, List.getElem_cons_succ, Act.put, List.setIfInBounds_toArray, List.set_cons_zero, List.set_cons_succ]
    refine wpList_store_bools rfl _ _ rfl x0.heap.size _ S rfl rfl hg23_33 (by simp [boolsC_len]) ?_
    intro y34 hrow34 hgr34 hz34
    refine wpList_nil ?_
    have hgb34 := hg31_33.grown hgr34 (by simp; omega)
    refine wpAnyT_last (i := 7) hcl rfl (by kernel_rfl) (by kernel_rfl) (fun hcl => ?_)
    simp only [List.getElem_toArray, List.getElem_cons_zero, List.getElem_cons_succ, Act.put, List.setIfInBounds_toArray, List.set_cons_zero, List.set_cons_succ]
    refine wpList_store_bools rfl _ _ rfl x23.heap.size _ T rfl rfl hgb34 (by simp [boolsC_len]) ?_
    intro v34 hrow234 hgr234 hz234
    refine wpList_nil ?_
    refine wpAnyT_done (by kernel_rfl) ?_ _
    have HX := hide (And.intro (hrow34.grown hgr234 (by simp; omega)) (And.intro hrow234 (below_grew (below_grew hS33 hgr34 (Nat.le_refl _) (fun q hq => by rw [← Option.some.inj hq]; omega)) hgr234 (Nat.le_refl _) (fun q hq => by rw [← Option.some.inj hq]; omega))))
    go_wp2_with fail
    go_meet
    case rel => exact ⟨_, _, rfl, rfl, by omega, by omega, by omega, HX.out.1, HX.out.2.1, HX.out.2.2⟩
  ·skip
   simp only [List.getElem_toArray, List.getElem_cons_zero, List.getElem_cons_succ, Act.put, List.setIfInBounds_toArray, List.set_cons_zero, List.set_cons_succ]
   refine wpList_alloc_bools rfl rfl ?_
   refine wpList_nil ?_
   generalize hx35 : x0.alloc (.cells (boolsC fun _ => false).toArray 132) = x35
   have hg35 : Blk x35 x0.heap.size 132 (boolsC fun _ => false).toArray := hx35 ▸ Blk.new x0 132 _
   have zx35 : x0.heap.size < x35.heap.size := by rw [← hx35]; simp
   have hS35 : Below W.heap.size W x35 := hx35 ▸ hS.alloc (by omega) _
   have hbel35 : Below x0.heap.size x0 x35 := hx35 ▸ (Below.refl _ _).alloc (Nat.le_refl _) _
   clear hx35
   refine ⟨hS35, ?_⟩
   refine wpAnyT_pick2 (i := 1) (j := 4) hcl rfl rfl (by kernel_rfl) (fun hcl => ?_) (fun hcl => ?_)
   ·skip
    simp only [List.getElem_toArray, List.getElem_cons_zero, List.getElem_cons_succ, Act.put, List.setIfInBounds_toArray, List.set_cons_zero, List.set_cons_succ]
    go_wp2_with fail
    refine (show Calls Tryz.prog _ _ x35 _ from (bits_any S x35)).mono ?_
    rintro e x36 ⟨rfl, hbel36⟩
    have zx36 : x35.heap.size ≤ x36.heap.size := hbel36.size
    have hS36 : Below W.heap.size W x36 := hS35.trans (hbel36.mono (by omega))
    have hg35_36 := hg35.below hbel36 (by omega)
    go_wp2_with fail
    refine ⟨hS36, ?_⟩
    refine wpAnyT_pick2 (i := 3) (j := 4) hcl rfl rfl (by kernel_rfl) (fun hcl => ?_) (fun hcl => ?_)
    ·skip
     simp only [List.getElem_toArray, List.getElem_cons_zero, List.getElem_cons_succ, Act.put, List.setIfInBounds_toArray, List.set_cons_zero, List.set_cons_succ]
     go_wp2_with fail
     refine (show Calls Tryz.prog _ _ x36 _ from (bits_any T x36)).mono ?_
     rintro e x37 ⟨rfl, hbel37⟩
     have zx37 : x36.heap.size ≤ x37.heap.size := hbel37.size
     have hS37 : Below W.heap.size W x37 := hS36.trans (hbel37.mono (by omega))
     have hg35_37 := hg35_36.below hbel37 (by omega)
     go_wp2_with fail
     refine ⟨hS37, ?_⟩
     refine wpAnyT_step (i := 4) hcl rfl (by kernel_rfl) (fun hcl => ?_)
     simp only [List.getElem_toArray, List.getElem_cons_zero, List.getElem_cons_succ, Act.put, List.setIfInBounds_toArray, List.set_cons_zero, List.set_cons_succ]
     refine wpList_alloc_bools rfl rfl ?_
     refine wpList_nil ?_
     generalize hx38 : x37.alloc (.cells (boolsC fun _ => false).toArray 132) = x38
     have hg38 : Blk x38 x37.heap.size 132 (boolsC fun _ => false).toArray := hx38 ▸ Blk.new x37 132 _
     have zx38 : x37.heap.size < x38.heap.size := by rw [← hx38]; simp
     have hS38 : Below W.heap.size W x38 := hx38 ▸ hS37.alloc (by omega) _
     have hbel38 : Below x37.heap.size x37 x38 := hx38 ▸ (Below.refl _ _).alloc (Nat.le_refl _) _
     clear hx38
     have hg35_38 := hg35_37.below hbel38 (by omega)
     refine ⟨hS38, ?_⟩
     refine wpAnyT_last (i := 6) hcl rfl (by kernel_rfl) (by kernel_rfl) (fun hcl => ?_)
     simp only [List.getElem_toArray, List.getElem_cons_zero, List.getElem_cons_succ, Act.put, List.setIfInBounds_toArray, List.set_cons_zero, List.set_cons_succ]
     refine wpList_store_bools rfl _ _ rfl x37.heap.size _ S rfl rfl hg38 (by simp [boolsC_len]) ?_
     intro y39 hrow39 hgr39 hz39
     refine wpList_nil ?_
     have hgb39 := hg35_38.grown hgr39 (by simp; omega)
     refine wpAnyT_last (i := 7) hcl rfl (by kernel_rfl) (by kernel_rfl) (fun hcl => ?_)
     simp only [List.getElem_toArray, List.getElem_cons_zero, List.getElem_cons_succ, Act.put, List.setIfInBounds_toArray, List.set_cons_zero, List.set_cons_succ]
     refine wpList_store_bools rfl _ _ rfl x0.heap.size _ T rfl rfl hgb39 (by simp [boolsC_len]) ?_
     intro v39 hrow239 hgr239 hz239
     refine wpList_nil ?_
     refine wpAnyT_done (by kernel_rfl) ?_ _
     have HX := hide (And.intro (hrow39.grown hgr239 (by simp; omega)) (And.intro hrow239 (below_grew (below_grew hS38 hgr39 (Nat.le_refl _) (fun q hq => by rw [← Option.some.inj hq]; omega)) hgr239 (Nat.le_refl _) (fun q hq => by rw [← Option.some.inj hq]; omega))))
     go_wp2_with fail
     go_meet
     case rel => exact ⟨_, _, rfl, rfl, by omega, by omega, by omega, HX.out.1, HX.out.2.1, HX.out.2.2⟩
    ·skip
     simp only [List.getElem_toArray, List.getElem_cons_zero, List.getElem_cons_succ, Act.put, List.setIfInBounds_toArray, List.set_cons_zero, List.set_cons_succ]
     refine wpList_alloc_bools rfl rfl ?_
     refine wpList_nil ?_
     generalize hx40 : x36.alloc (.cells (boolsC fun _ => false).toArray 132) = x40
     have hg40 : Blk x40 x36.heap.size 132 (boolsC fun _ => false).toArray := hx40 ▸ Blk.new x36 132 _
     have zx40 : x36.heap.size < x40.heap.size := by rw [← hx40]; simp
     have hS40 : Below W.heap.size W x40 := hx40 ▸ hS36.alloc (by omega) _
     have hbel40 : Below x36.heap.size x36 x40 := hx40 ▸ (Below.refl _ _).alloc (Nat.le_refl _) _
     clear hx40
     have hg35_40 := hg35_36.below hbel40 (by omega)
     refine ⟨hS40, ?_⟩
     refine wpAnyT_step (i := 3) hcl rfl (by kernel_rfl) (fun hcl => ?_)
     simp only [List.getElem_toArray, List.getElem_cons_zero, List.getElem_cons_succ, Act.put, List.setIfInBounds_toArray, List.set_cons_zero, List.set_cons_succ]
     go_wp2_with fail
     refine (show Calls Tryz.prog _ _ x40 _ from (bits_any T x40)).mono ?_
     rintro e x41 ⟨rfl, hbel41⟩
     have zx41 : x40.heap.size ≤ x41.heap.size := hbel41.size
     have hS41 : Below W.heap.size W x41 := hS40.trans (hbel41.mono (by omega))
     have hg40_41 := hg40.below hbel41 (by omega)
     have hg35_41 := hg35_40.below hbel41 (by omega)
     go_wp2_with fail
     refine ⟨hS41, ?_⟩
     refine wpAnyT_last (i := 6) hcl rfl (by kernel_rfl) (by kernel_rfl) (fun hcl => ?_)
     simp only [List.getElem_toArray, List.getElem_cons_zero, List.getElem_cons_succ, Act.put, List.setIfInBounds_toArray, List.set_cons_zero, List.set_cons_succ]
     refine wpList_store_bools rfl _ _ rfl x36.heap.size _ S rfl rfl hg40_41 (by simp [boolsC_len]) ?_
     intro y42 hrow42 hgr42 hz42
     refine wpList_nil ?_
     have hgb42 := hg35_41.grown hgr42 (by simp; omega)
     refine wpAnyT_last (i := 7) hcl rfl (by kernel_rfl) (by kernel_rfl) (fun hcl => ?_)
     simp only [List.getElem_toArray, List.getElem_cons_zero, List.getElem_cons_succ, Act.put, List.setIfInBounds_toArray, List.set_cons_zero, List.set_cons_succ]
     refine wpList_store_bools rfl _ _ rfl x0.heap.size _ T rfl rfl hgb42 (by simp [boolsC_len]) ?_
     intro v42 hrow242 hgr242 hz242
     refine wpList_nil ?_
     refine wpAnyT_done (by kernel_rfl) ?_ _
     have HX := hide (And.intro (hrow42.grown hgr242 (by simp; omega)) (And.intro hrow242 (below_grew (below_grew hS41 hgr42 (Nat.le_refl _) (fun q hq => by rw [← Option.some.inj hq]; omega)) hgr242 (Nat.le_refl _) (fun q hq => by rw [← Option.some.inj hq]; omega))))
     go_wp2_with fail
     go_meet
     case rel => exact ⟨_, _, rfl, rfl, by omega, by omega, by omega, HX.out.1, HX.out.2.1, HX.out.2.2⟩
   ·skip
    simp only [List.getElem_toArray, List.getElem_cons_zero, List.getElem_cons_succ, Act.put, List.setIfInBounds_toArray, List.set_cons_zero, List.set_cons_succ]
    refine wpList_alloc_bools rfl rfl ?_
    refine wpList_nil ?_
    generalize hx43 : x35.alloc (.cells (boolsC fun _ => false).toArray 132) = x43
    have hg43 : Blk x43 x35.heap.size 132 (boolsC fun _ => false).toArray := hx43 ▸ Blk.new x35 132 _
    have zx43 : x35.heap.size < x43.heap.size := by rw [← hx43]; simp
    have hS43 : Below W.heap.size W x43 := hx43 ▸ hS35.alloc (by omega) _
    have hbel43 : Below x35.heap.size x35 x43 := hx43 ▸ (Below.refl _ _).alloc (Nat.le_refl _) _
    clear hx43
    have hg35_43 := hg35.below hbel43 (by omega)
    refine ⟨hS43, ?_⟩
    refine wpAnyT_step (i := 1) hcl rfl (by kernel_rfl) (fun hcl => ?_)
    simp only [List.getElem_toArray, List.getElem_cons_zero, List.getElem_cons_succ, Act.put, List.setIfInBounds_toArray, List.set_cons_zero, List.set_cons_succ]
    go_wp2_with fail
    refine (show Calls Tryz.prog _ _ x43 _ from (bits_any S x43)).mono ?_
    rintro e x44 ⟨rfl, hbel44⟩
    have zx44 : x43.heap.size ≤ x44.heap.size := hbel44.size
    have hS44 : Below W.heap.size W x44 := hS43.trans (hbel44.mono (by omega))
    have hg43_44 := hg43.below hbel44 (by omega)
    have hg35_44 := hg35_43.below hbel44 (by omega)
    go_wp2_with fail
    refine ⟨hS44, ?_⟩
    refine wpAnyT_step (i := 3) hcl rfl (by kernel_rfl) (fun hcl => ?_)
    simp only [List.getElem_toArray, List.getElem_cons_zero, List.getElem_cons_succ, Act.put, List.setIfInBounds_toArray, List.set_cons_zero, List.set_cons_succ]
    go_wp2_with fail
    refine (show Calls Tryz.prog _ _ x44 _ from (bits_any T x44)).mono ?_
    rintro e x45 ⟨rfl, hbel45⟩
    have zx45 : x44.heap.size ≤ x45.heap.size := hbel45.size
    have hS45 : Below W.heap.size W x45 := hS44.trans (hbel45.mono (by omega))
    have hg43_45 := hg43_44.below hbel45 (by omega)
    have hg35_45 := hg35_44.below hbel45 (by omega)
    go_wp2_with fail
    refine ⟨hS45, ?_⟩
    refine wpAnyT_last (i := 6) hcl rfl (by kernel_rfl) (by kernel_rfl) (fun hcl => ?_)
    simp only [List.getElem_toArray, List.getElem_cons_zero, List.getElem_cons_succ, Act.put, List.setIfInBounds_toArray, List.set_cons_zero, List.set_cons_succ]
    refine wpList_store_bools rfl _ _ rfl x35.heap.size _ S rfl rfl hg43_45 (by simp [boolsC_len]) ?_
    intro y46 hrow46 hgr46 hz46
    refine wpList_nil ?_
    have hgb46 := hg35_45.grown hgr46 (by simp; omega)
    refine wpAnyT_last (i := 7) hcl rfl (by kernel_rfl) (by kernel_rfl) (fun hcl => ?_)
    simp only [List.getElem_toArray, List.getElem_cons_zero, List.getElem_cons_succ, Act.put, List.setIfInBounds_toArray, List.set_cons_zero, List.set_cons_succ]
    refine wpList_store_bools rfl _ _ rfl x0.heap.size _ T rfl rfl hgb46 (by simp [boolsC_len]) ?_
    intro v46 hrow246 hgr246 hz246
    refine wpList_nil ?_
    refine wpAnyT_done (by kernel_rfl) ?_ _
    have HX := hide (And.intro (hrow46.grown hgr246 (by simp; omega)) (And.intro hrow246 (below_grew (below_grew hS45 hgr46 (Nat.le_refl _) (fun q hq => by rw [← Option.some.inj hq]; omega)) hgr246 (Nat.le_refl _) (fun q hq => by rw [← Option.some.inj hq]; omega))))
    go_wp2_with fail
    go_meet
    case rel => exact ⟨_, _, rfl, rfl, by omega, by omega, by omega, HX.out.1, HX.out.2.1, HX.out.2.2⟩
 case rest =>
 obtain ⟨g5, g6, rfl, rfl, hne, hl5, hl6, hb5, hb6, hbW⟩ := hcut
 rename World => W2
 have hbR := H0.out.2.2.1.below hbW (by omega)
 have H1 := hide (And.intro hb5 (And.intro hb6 (And.intro hbR (H0.out.2.2.2.trans (hbW.mono (by omega))))))
 clear hb5 hb6 hbR hbW H0
 go_wp2_with fail
 go_loopw [7] (fun kv wr => ∃ k : Nat, kv = .int .i64 (k : Int) ∧ k ≤ 256 ∧ Blk wr g5 132 (boolsC fun x => if x < k then (S x && T x) else S x).toArray ∧ Blk wr g6 132 (boolsC T).toArray ∧ Blk wr (w.heap.size + 2) 24 #[.int .u64 0, .int .u64 0, .int .u64 0, .int .u64 0] ∧ Below w.heap.size w wr) (fun kv _ => 256 - (intOf kv).toNat)
 case atStart => exact ⟨0, rfl, by omega, (boolsC_congr (f := S) (g := fun x => if x < 0 then (S x && T x) else S x) (fun x _ => by rw [if_neg (by omega)])) ▸ H1.out.1, H1.out.2.1, H1.out.2.2.1, H1.out.2.2.2⟩
 case round =>
  clear H1
  obtain ⟨k, rfl, hk, h1, h2, h3, hb⟩ := hrel
  have HH := hide (And.intro h1 (And.intro h2 (And.intro h3 hb)))
  have hzb := hb.size
  clear h1 h2 h3 hb
  by_cases hlt : k < 256
  case neg =>
   have g1 : decide ((k : Int) < 256) = false := decide_eq_false (by omega)
   obtain rfl : k = 256 := by omega
   have H4 := hide (And.intro (show Blk wr g5 132 (boolsC fun x => S x && T x).toArray from (boolsC_congr (f := fun x => if x < 256 then (S x && T x) else S x) (g := fun x => S x && T x) (fun x hx => by rw [if_pos hx])) ▸ HH.out.1) HH.out.2.2)
   clear HH
   have HM := hide (made_any (fun x => S x && T x) wr)
   go_wp2_with (refine wpList_load_bools rfl _ rfl g5 _ rfl H4.out.1 ?_)
   refine HM.out.mono ?_
   rintro e w5 ⟨rfl, hb5⟩
   have H5 := hide (And.intro (H4.out.2.1.below hb5 (by have := H4.out.2.1.lt; exact this)) (H4.out.2.2.trans (hb5.mono H4.out.2.2.size)))
   clear hb5 H4 HM
   unfold setV
   simp only [setC]
   go_wp2_with (refine wpList_store_row rfl _ _ _ rfl (w.heap.size + 2) 0 _ _ _ rfl rfl H5.out.1 Tryz.sizeSetO (by simp) (by simp [Value.oneCell']) ?_)
   intro w9 hrow2 hg9 hz9
   have hrow := hrow2.out
   rw [splice_full (by rfl)] at hrow
   have hb9 := below_grew H5.out.2 hg9 (Nat.le_refl _) (fun q hq => by rw [← Option.some.inj hq]; omega)
   have HF := hide (And.intro hrow hb9)
   clear hrow hrow2 hg9 hz9
   go_wp2_with fail
   refine bodyPost_ret (results_cell_row rfl _ _ (w.heap.size + 2) _ _ (0, 0) _ rfl HF.out.1 Tryz.underlying24 rfl Tryz.sizeSetO) rfl ?_
   exact ⟨rfl, HF.out.2⟩
  have g1 : decide ((k : Int) < 256) = true := decide_eq_true (by omega)
  have hk6 : (k : Int) < 256 := by omega
  have c5 := HH.out.1.bit k hlt
  have c6 := HH.out.2.1.bit k hlt
  have f5 := HH.out.1.frozen k
  rw [if_neg (by omega)] at c5
  have hnew : boolsC (fun x => if x < k + 1 then (S x && T x) else S x) = boolsC (fun x => if x = k then (S k && T k) else if x < k then (S x && T x) else S x) := boolsC_congr fun x _ => by
   by_cases e : x = k
   ·subst e; rw [if_pos (by omega), if_pos rfl]
   ·rw [if_neg e]
    by_cases h : x < k
    ·rw [if_pos (by omega), if_pos h]
    ·rw [if_neg (by omega), if_neg h]
  have HNW := hide hnew
  clear hnew
  obtain ⟨sk, hsk⟩ : ∃ b, b = S k := ⟨_, rfl⟩
  obtain ⟨tk, htk⟩ : ∃ b, b = T k := ⟨_, rfl⟩
  rw [← hsk] at c5 HNW
  rw [← htk] at c6 HNW
  clear hsk htk
  cases sk <;> cases tk
  all_goals
   go_wp2_with fail
   go_roundw
   case rel =>
    refine ⟨k + 1, by go_num, by omega, ?_, HH.out.2.1.far (by show g6 ≠ g5; exact fun e => hne e.symm) _, HH.out.2.2.1.far (by show w.heap.size + 2 ≠ g5; omega) _, HH.out.2.2.2.setCell (by show w.heap.size ≤ g5; omega) _⟩
    rw [HNW.out]
    exact HH.out.1.setBit k _
   case measure => simp [intOf]; omega

set_option maxRecDepth 100000 in
set_option maxHeartbeats 4000000 in
theorem refNot_any (S : Nat → Bool) (w : World) : Calls Tryz.prog 104 #[setV S] w (SetIs (fun x => !S x) w) := by
 obtain ⟨R, hR⟩ : ∃ R : Nat → Bool, R = (fun x => !S x) := ⟨_, rfl⟩
 rw [← hR]
 have HR := hide hR
 clear hR
 have hb := ((Below.refl w.heap.size w).alloc (Nat.le_refl _) (.cells (setC S).toArray 24)).alloc (by simp) (.cells #[.int .u64 0, .int .u64 0, .int .u64 0, .int .u64 0] 24)
 have h1 := (Blk.new w 24 (setC S).toArray).alloc (.cells #[.int .u64 0, .int .u64 0, .int .u64 0, .int .u64 0] 24)
 have h3 := Blk.new (w.alloc (.cells (setC S).toArray 24)) 24 #[.int .u64 0, .int .u64 0, .int .u64 0, .int .u64 0]
 rw [World.size_alloc] at h3
 have hsz : w.heap.size + 1 < ((w.alloc (.cells (setC S).toArray 24)).alloc (.cells #[.int .u64 0, .int .u64 0, .int .u64 0, .int .u64 0] 24)).heap.size := by simp
 have H0 := hide (And.intro h1 (And.intro h3 hb))
 clear hb h1 h3
 unfold setV
 go_enter Tryz.func104, Tryz.ntmps104
 go_upto_region 1 with fail
 generalize ((w.alloc (.cells (setC S).toArray 24)).alloc (.cells #[.int .u64 0, .int .u64 0, .int .u64 0, .int .u64 0] 24)) = W at *
 have c0 : ∀ i : Nat, _ = _ := H0.out.1.cell
 simp only [setC] at c0
 have HB := hide (bits_any S W)
 unfold setV setC at HB
 go_wp2_with fail
 refine HB.out.mono ?_
 rintro e w1 ⟨rfl, hb1⟩
 have hal := (Below.refl w1.heap.size w1).alloc (Nat.le_refl _) (.cells (boolsC fun _ => false).toArray 132)
 have hzb := Blk.new w1 132 (boolsC fun _ => false).toArray
 have hw1 := hb1.size
 have H1 := hide (And.intro (H0.out.2.1.below hb1 (by omega)) (H0.out.2.2.trans (hb1.mono (by omega))))
 clear hb1 HB c0 H0
 go_wp2_with (first | refine wpList_alloc_bools rfl rfl ?_ | refine wpList_store_bools rfl _ _ rfl w1.heap.size _ S rfl rfl hzb (by simp [boolsC_len]) ?_)
 intro w2 hrow hg9 hz9
 have hbE : Below w1.heap.size w1 w2 := below_grew hal hg9 (Nat.le_refl _) (fun q hq => by rw [← Option.some.inj hq]; exact Nat.le_refl _)
 have H2 := hide (And.intro hrow (And.intro (H1.out.1.below hbE (by have := H1.out.1.lt; exact this)) (H1.out.2.trans (hbE.mono (by omega)))))
 have hgl := hrow.lt
 clear hrow hg9 hz9 hal hzb hbE H1
 generalize hgb : w1.heap.size = gb at *
 clear hgb w1
 go_wp2_with fail
 go_loopw [4] (fun kv wr => ∃ k : Nat, kv = .int .i64 (k : Int) ∧ k ≤ 256 ∧ Blk wr gb 132 (boolsC fun x => if x < k then R x else S x).toArray ∧ Blk wr (w.heap.size + 1) 24 #[.int .u64 0, .int .u64 0, .int .u64 0, .int .u64 0] ∧ Below w.heap.size w wr) (fun kv _ => 256 - (intOf kv).toNat)
 case atStart => exact ⟨0, rfl, by omega, (boolsC_congr (f := S) (g := fun x => if x < 0 then R x else S x) (fun x _ => by rw [if_neg (by omega)])) ▸ H2.out.1, H2.out.2.1, H2.out.2.2⟩
 case round =>
  clear H2
  obtain ⟨k, rfl, hk, h1, h3, hb⟩ := hrel
  have HH := hide (And.intro h1 (And.intro h3 hb))
  have hzb := hb.size
  clear h1 h3 hb
  by_cases hlt : k < 256
  case neg =>
   have g1 : decide ((k : Int) < 256) = false := decide_eq_false (by omega)
   obtain rfl : k = 256 := by omega
   have H4 := hide (And.intro (show Blk wr gb 132 (boolsC R).toArray from (boolsC_congr (f := fun x => if x < 256 then R x else S x) (g := R) (fun x hx => by rw [if_pos hx])) ▸ HH.out.1) HH.out.2)
   clear HH
   have HM := hide (made_any R wr)
   go_wp2_with (refine wpList_load_bools rfl _ rfl gb _ rfl H4.out.1 ?_)
   refine HM.out.mono ?_
   rintro e w5 ⟨rfl, hb5⟩
   have H5 := hide (And.intro (H4.out.2.1.below hb5 (by have := H4.out.2.1.lt; exact this)) (H4.out.2.2.trans (hb5.mono H4.out.2.2.size)))
   clear hb5 H4 HM
   unfold setV
   simp only [setC]
   go_wp2_with (refine wpList_store_row rfl _ _ _ rfl (w.heap.size + 1) 0 _ _ _ rfl rfl H5.out.1 Tryz.sizeSetO (by simp) (by simp [Value.oneCell']) ?_)
   intro w9 hrow2 hg9 hz9
   have hrow := hrow2.out
   rw [splice_full (by rfl)] at hrow
   have hb9 := below_grew H5.out.2 hg9 (Nat.le_refl _) (fun q hq => by rw [← Option.some.inj hq]; omega)
   have HF := hide (And.intro hrow hb9)
   clear hrow hrow2 hg9 hz9
   go_wp2_with fail
   refine bodyPost_ret (results_cell_row rfl _ _ (w.heap.size + 1) _ _ (0, 0) _ rfl HF.out.1 Tryz.underlying24 rfl Tryz.sizeSetO) rfl ?_
   exact ⟨rfl, HF.out.2⟩
  have g1 : decide ((k : Int) < 256) = true := decide_eq_true (by omega)
  have hk6 : (k : Int) < 256 := by omega
  have c5 := HH.out.1.bit k hlt
  have f5 := HH.out.1.frozen k
  rw [if_neg (by omega)] at c5
  have hnew : boolsC (fun x => if x < k + 1 then R x else S x) = boolsC (fun x => if x = k then R k else if x < k then R x else S x) := boolsC_congr fun x _ => by
   by_cases e : x = k
   ·subst e; rw [if_pos (by omega), if_pos rfl]
   ·rw [if_neg e]
    by_cases h : x < k
    ·rw [if_pos (by omega), if_pos h]
    ·rw [if_neg (by omega), if_neg h]
  have hRk : R k = !S k := by rw [HR.out]
  rw [hRk] at hnew
  have HNW := hide hnew
  clear hnew hRk
  obtain ⟨sk, hsk⟩ : ∃ b, b = S k := ⟨_, rfl⟩
  rw [← hsk] at c5 HNW
  clear hsk
  cases sk
  all_goals
   go_wp2_with fail
   go_roundw
   case rel =>
    refine ⟨k + 1, by go_num, by omega, ?_, HH.out.2.1.far (by show w.heap.size + 1 ≠ gb; omega) _, HH.out.2.2.setCell (by show w.heap.size ≤ gb; omega) _⟩
    rw [HNW.out]
    exact HH.out.1.setBit k _
   case measure => simp [intOf]; omega

set_option maxRecDepth 100000 in
set_option maxHeartbeats 4000000 in
theorem refRange_any (lo hi : Nat) (w : World) (h1 : lo < 256) (h2 : hi < 256) : Calls Tryz.prog 173 #[.int .u8 (lo : Int), .int .u8 (hi : Int)] w (SetIs (fun x => decide (lo ≤ x ∧ x ≤ hi)) w) := by
 obtain ⟨R, hR⟩ : ∃ R : Nat → Bool, R = (fun x => decide (lo ≤ x ∧ x ≤ hi)) := ⟨_, rfl⟩
 rw [← hR]
 have HR := hide hR
 clear hR
 have hb := ((Below.refl w.heap.size w).alloc (Nat.le_refl _) (.cells #[.int .u64 0, .int .u64 0, .int .u64 0, .int .u64 0] 24)).alloc (by simp) (.cells (boolsC fun _ => false).toArray 132)
 have h1' := (Blk.new w 24 #[.int .u64 0, .int .u64 0, .int .u64 0, .int .u64 0]).alloc (.cells (boolsC fun _ => false).toArray 132)
 have h3 := Blk.new (w.alloc (.cells #[.int .u64 0, .int .u64 0, .int .u64 0, .int .u64 0] 24)) 132 (boolsC fun _ => false).toArray
 rw [World.size_alloc] at h3
 have hsz : w.heap.size + 1 < ((w.alloc (.cells #[.int .u64 0, .int .u64 0, .int .u64 0, .int .u64 0] 24)).alloc (.cells (boolsC fun _ => false).toArray 132)).heap.size := by simp
 have H0 := hide (And.intro h3 (And.intro h1' hb))
 clear hb h1' h3
 go_enter Tryz.func173, Tryz.ntmps173
 go_wp2_with (refine wpList_alloc_bools rfl rfl ?_)
 generalize ((w.alloc (.cells #[.int .u64 0, .int .u64 0, .int .u64 0, .int .u64 0] 24)).alloc (.cells (boolsC fun _ => false).toArray 132)) = W at *
 go_loopw [6] (fun kv wr => ∃ k : Nat, kv = .int .i64 (k : Int) ∧ k ≤ 256 ∧ Blk wr (w.heap.size + 1) 132 (boolsC fun x => decide (x < k) && R x).toArray ∧ Blk wr w.heap.size 24 #[.int .u64 0, .int .u64 0, .int .u64 0, .int .u64 0] ∧ Below w.heap.size w wr) (fun kv _ => 256 - (intOf kv).toNat)
 case atStart => exact ⟨0, rfl, by omega, (boolsC_congr (f := fun _ => false) (g := fun x => decide (x < 0) && R x) (fun x _ => by simp)) ▸ H0.out.1, H0.out.2.1, H0.out.2.2⟩
 case round =>
  clear H0
  obtain ⟨k, rfl, hk, h1', h3, hb⟩ := hrel
  have HH := hide (And.intro h1' (And.intro h3 hb))
  have hzb := hb.size
  clear h1' h3 hb
  by_cases hlt : k < 256
  case neg =>
   have g1 : decide ((k : Int) < 256) = false := decide_eq_false (by omega)
   obtain rfl : k = 256 := by omega
   have H4 := hide (And.intro (show Blk wr (w.heap.size + 1) 132 (boolsC R).toArray from (boolsC_congr (f := fun x => decide (x < 256) && R x) (g := R) (fun x hx => by simp [hx])) ▸ HH.out.1) HH.out.2)
   clear HH
   have HM := hide (made_any R wr)
   go_wp2_with (refine wpList_load_bools rfl _ rfl (w.heap.size + 1) _ rfl H4.out.1 ?_)
   refine HM.out.mono ?_
   rintro e w5 ⟨rfl, hb5⟩
   have H5 := hide (And.intro (H4.out.2.1.below hb5 (by have := H4.out.2.1.lt; exact this)) (H4.out.2.2.trans (hb5.mono H4.out.2.2.size)))
   clear hb5 H4 HM
   unfold setV
   simp only [setC]
   go_wp2_with (refine wpList_store_row rfl _ _ _ rfl w.heap.size 0 _ _ _ rfl rfl H5.out.1 Tryz.sizeSetO (by simp) (by simp [Value.oneCell']) ?_)
   intro w9 hrow2 hg9 hz9
   have hrow := hrow2.out
   rw [splice_full (by rfl)] at hrow
   have hb9 := below_grew H5.out.2 hg9 (Nat.le_refl _) (fun q hq => by rw [← Option.some.inj hq]; omega)
   have HF := hide (And.intro hrow hb9)
   clear hrow hrow2 hg9 hz9
   go_wp2_with fail
   refine bodyPost_ret (results_cell_row rfl _ _ w.heap.size _ _ (0, 0) _ rfl HF.out.1 Tryz.underlying24 rfl Tryz.sizeSetO) rfl ?_
   exact ⟨rfl, HF.out.2⟩
  have g1 : decide ((k : Int) < 256) = true := decide_eq_true (by omega)
  have hk6 : (k : Int) < 256 := by omega
  have c5 := HH.out.1.bit k hlt
  have f5 := HH.out.1.frozen k
  have hnew : boolsC (fun x => decide (x < k + 1) && R x) = boolsC (fun x => if x = k then R k else decide (x < k) && R x) := boolsC_congr fun x _ => by
   by_cases e : x = k
   ·subst e; simp
   ·rw [if_neg e, show decide (x < k + 1) = decide (x < k) from decide_eq_decide.2 (by omega)]
  have hRk : R k = decide (lo ≤ k ∧ k ≤ hi) := by rw [HR.out]
  by_cases a1 : lo ≤ k
  case neg =>
   have e1 : decide ((lo : Int) ≤ (k : Int)) = false := decide_eq_false (by omega)
   rw [hRk, decide_eq_false (fun h => a1 h.1)] at hnew
   have HNW := hide hnew
   clear hnew hRk
   go_wp2_with fail
   go_roundw
   case rel =>
    refine ⟨k + 1, by go_num, by omega, ?_, HH.out.2.1.far (by show w.heap.size ≠ w.heap.size + 1; omega) _, HH.out.2.2.setCell (by show w.heap.size ≤ w.heap.size + 1; omega) _⟩
    rw [HNW.out]
    exact HH.out.1.setBit k _
   case measure => simp [intOf]; omega
  have e1 : decide ((lo : Int) ≤ (k : Int)) = true := decide_eq_true (by omega)
  by_cases a2 : k ≤ hi
  case neg =>
   have e2 : decide ((k : Int) ≤ (hi : Int)) = false := decide_eq_false (by omega)
   rw [hRk, decide_eq_false (fun h => a2 h.2)] at hnew
   have HNW := hide hnew
   clear hnew hRk
   go_wp2_with fail
   go_roundw
   case rel =>
    refine ⟨k + 1, by go_num, by omega, ?_, HH.out.2.1.far (by show w.heap.size ≠ w.heap.size + 1; omega) _, HH.out.2.2.setCell (by show w.heap.size ≤ w.heap.size + 1; omega) _⟩
    rw [HNW.out]
    exact HH.out.1.setBit k _
   case measure => simp [intOf]; omega
  have e2 : decide ((k : Int) ≤ (hi : Int)) = true := decide_eq_true (by omega)
  rw [hRk, decide_eq_true ⟨a1, a2⟩] at hnew
  have HNW := hide hnew
  clear hnew hRk
  go_wp2_with fail
  go_roundw
  case rel =>
   refine ⟨k + 1, by go_num, by omega, ?_, HH.out.2.1.far (by show w.heap.size ≠ w.heap.size + 1; omega) _, HH.out.2.2.setCell (by show w.heap.size ≤ w.heap.size + 1; omega) _⟩
   rw [HNW.out]
   exact HH.out.1.setBit k _
  case measure => simp [intOf]; omega

set_option maxRecDepth 100000 in
set_option maxHeartbeats 4000000 in
/-- Of a text of one byte. -/
theorem refOf_one (b : UInt8) (w : World) : Calls Tryz.prog 136 #[.string ⟨#[b]⟩] w (SetIs (fun x => decide (x = b.toNat)) w) := by
 obtain ⟨R, hR⟩ : ∃ R : Nat → Bool, R = (fun x => decide (x = b.toNat)) := ⟨_, rfl⟩
 rw [← hR]
 have HR := hide hR
 clear hR
 have hb := ((Below.refl w.heap.size w).alloc (Nat.le_refl _) (.cells #[.int .u64 0, .int .u64 0, .int .u64 0, .int .u64 0] 24)).alloc (by simp) (.cells (boolsC fun _ => false).toArray 132)
 have h1' := (Blk.new w 24 #[.int .u64 0, .int .u64 0, .int .u64 0, .int .u64 0]).alloc (.cells (boolsC fun _ => false).toArray 132)
 have h3 := Blk.new (w.alloc (.cells #[.int .u64 0, .int .u64 0, .int .u64 0, .int .u64 0] 24)) 132 (boolsC fun _ => false).toArray
 rw [World.size_alloc] at h3
 have hsz : w.heap.size + 1 < ((w.alloc (.cells #[.int .u64 0, .int .u64 0, .int .u64 0, .int .u64 0] 24)).alloc (.cells (boolsC fun _ => false).toArray 132)).heap.size := by simp
 have H0 := hide (And.intro h3 (And.intro h1' hb))
 clear hb h1' h3
 have hb256 : b.toNat < 256 := b.toNat_lt
 go_enter Tryz.func136, Tryz.ntmps136
 go_wp2_with (refine wpList_alloc_bools rfl rfl ?_)
 generalize ((w.alloc (.cells #[.int .u64 0, .int .u64 0, .int .u64 0, .int .u64 0] 24)).alloc (.cells (boolsC fun _ => false).toArray 132)) = wr at *
 have c5 := H0.out.1.bit b.toNat hb256
 have f5 := H0.out.1.frozen b.toNat
 have hx : ∀ h, ({ data := #[b] } : ByteArray)[0]'h = b := fun _ => rfl
 refine wp_loop_rounds 2 ?_
 rw [rounds_succ]
 go_wp2_with fail
 rw [rounds_succ]
 have H4 := hide (And.intro (show Blk (wr.setCell ⟨w.heap.size + 1, b.toNat, none⟩ (.bool true)) (w.heap.size + 1) 132 (boolsC R).toArray from (boolsC_congr (f := fun x => if x = b.toNat then true else false) (g := R) (fun x _ => by rw [HR.out]; by_cases h : x = b.toNat <;> simp [h])) ▸ H0.out.1.setBit b.toNat true) (And.intro (H0.out.2.1.far (p := ⟨w.heap.size + 1, b.toNat, none⟩) (by show w.heap.size ≠ w.heap.size + 1; omega) (.bool true)) (H0.out.2.2.setCell (p := ⟨w.heap.size + 1, b.toNat, none⟩) (by show w.heap.size ≤ w.heap.size + 1; omega) (.bool true))))
 generalize (wr.setCell ⟨w.heap.size + 1, b.toNat, none⟩ (.bool true)) = wr2 at *
 clear c5 f5 H0
 have HM := hide (made_any R wr2)
 go_wp2_with (refine wpList_load_bools rfl _ rfl (w.heap.size + 1) _ rfl H4.out.1 ?_)
 refine HM.out.mono ?_
 rintro e w5 ⟨rfl, hb5⟩
 have H5 := hide (And.intro (H4.out.2.1.below hb5 (by have := H4.out.2.1.lt; exact this)) (H4.out.2.2.trans (hb5.mono H4.out.2.2.size)))
 clear hb5 H4 HM
 unfold setV
 simp only [setC]
 go_wp2_with (refine wpList_store_row rfl _ _ _ rfl w.heap.size 0 _ _ _ rfl rfl H5.out.1 Tryz.sizeSetO (by simp) (by simp [Value.oneCell']) ?_)
 intro w9 hrow2 hg9 hz9
 have hrow := hrow2.out
 rw [splice_full (by rfl)] at hrow
 have hb9 := below_grew H5.out.2 hg9 (Nat.le_refl _) (fun q hq => by rw [← Option.some.inj hq]; omega)
 have HF := hide (And.intro hrow hb9)
 clear hrow hrow2 hg9 hz9
 go_wp2_with fail
 refine bodyPost_ret (results_cell_row rfl _ _ w.heap.size _ _ (0, 0) _ rfl HF.out.1 Tryz.underlying24 rfl Tryz.sizeSetO) rfl ?_
 exact ⟨rfl, HF.out.2⟩
end Go.Proofs.YtpkcklpjbeginaaGreatDoor
