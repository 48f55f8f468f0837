/- Named5: class.Named. (Printed by gen_named5.py.)
Named5b: class.Named of any name. (Printed by gen_named5.py.) -/
import Derived.Test.YtpkcklpjbeginaaGreatDoorClasses
import Derived.Test.YtpkcklpjbeginaaGreatDoorAsFault
set_option linter.unusedSimpArgs false
set_option linter.unusedVariables false
set_option linter.unnecessarySimpa false

/-! ## Named5 -/
namespace Go.Proofs.YtpkcklpjbeginaaGreatDoor
open Go.RowKit

/-- The error of a class's name. -/
def named5V (s : ByteArray) (a : Nat → Addr) : Value := .tuple #[setV (memb5 s), if (cls5 s.toList).isSome then .nilIface else errV (a 8)]
theorem toList_alnum : (⟨#[97, 108, 110, 117, 109]⟩ : ByteArray).toList = [97, 108, 110, 117, 109] := by first | rfl | kernel_rfl | decide +kernel | simp [ByteArray.toList, ByteArray.toList.loop]
theorem memb5_none {s : ByteArray} (h : cls5 s.toList = none) : memb5 s = fun _ => false := by funext x; unfold memb5; rw [h]
set_option maxRecDepth 100000 in
set_option maxHeartbeats 4000000 in
theorem named5_alnum (s : ByteArray) (hcs : s.toList = [97, 108, 110, 117, 109]) (w : World) : Calls Tryz.prog 149 #[.string s] w fun e w' => e = .returned (.tuple #[setV (fun b => up5 b || low5 b || dig5 b), .nilIface]) ∧ Below w.heap.size w w' := by
  have talnum : (s.toList == [97, 108, 110, 117, 109]) = true := by rw [hcs]; decide
  have talpha : (s.toList == [97, 108, 112, 104, 97]) = false := by rw [hcs]; decide
  have tlower : (s.toList == [108, 111, 119, 101, 114]) = false := by rw [hcs]; decide
  have tupper : (s.toList == [117, 112, 112, 101, 114]) = false := by rw [hcs]; decide
  have txdigit : (s.toList == [120, 100, 105, 103, 105, 116]) = false := by rw [hcs]; decide
  have tdigit : (s.toList == [100, 105, 103, 105, 116]) = false := by rw [hcs]; decide
  have tspace : (s.toList == [115, 112, 97, 99, 101]) = false := by rw [hcs]; decide
  have tblank : (s.toList == [98, 108, 97, 110, 107]) = false := by rw [hcs]; decide
  have tcntrl : (s.toList == [99, 110, 116, 114, 108]) = false := by rw [hcs]; decide
  have tprint : (s.toList == [112, 114, 105, 110, 116]) = false := by rw [hcs]; decide
  have tgraph : (s.toList == [103, 114, 97, 112, 104]) = false := by rw [hcs]; decide
  have tpunct : (s.toList == [112, 117, 110, 99, 116]) = false := by rw [hcs]; decide
  clear hcs
  have hb := ((Below.refl w.heap.size w).alloc (Nat.le_refl _) (.cells #[.int .u64 0, .int .u64 0, .int .u64 0, .int .u64 0] 24)).alloc (by simp) (.cells #[.int .u64 0, .int .u64 0, .int .u64 0, .int .u64 0] 24)
  have h1 := (Blk.new w 24 #[.int .u64 0, .int .u64 0, .int .u64 0, .int .u64 0]).alloc (.cells #[.int .u64 0, .int .u64 0, .int .u64 0, .int .u64 0] 24)
  have h3 := Blk.new (w.alloc (.cells #[.int .u64 0, .int .u64 0, .int .u64 0, .int .u64 0] 24)) 24 #[.int .u64 0, .int .u64 0, .int .u64 0, .int .u64 0]
  rw [World.size_alloc] at h3
  have hsz : w.heap.size + 1 < ((w.alloc (.cells #[.int .u64 0, .int .u64 0, .int .u64 0, .int .u64 0] 24)).alloc (.cells #[.int .u64 0, .int .u64 0, .int .u64 0, .int .u64 0] 24)).heap.size := by simp
  obtain ⟨T0, ht0⟩ : ∃ R : Nat → Bool, R = fun _ => false := ⟨_, rfl⟩
  have hz0 : (#[.int .u64 0, .int .u64 0, .int .u64 0, .int .u64 0] : Array Value) = (setC T0).toArray := by rw [ht0]; unfold setC; rw [wd_none, wd_none, wd_none, wd_none]; rfl
  have HT0 := hide ht0
  have H0 := hide (And.intro (show Blk ((w.alloc (.cells #[.int .u64 0, .int .u64 0, .int .u64 0, .int .u64 0] 24)).alloc (.cells #[.int .u64 0, .int .u64 0, .int .u64 0, .int .u64 0] 24)) (w.heap.size + 1) 24 (setC T0).toArray by rw [← hz0]; exact h3) (And.intro h1 hb))
  clear hb h1 h3 ht0 hz0
  go_enter Tryz.func149, Tryz.ntmps149
  go_upto_region 2 with fail
  generalize ((w.alloc (.cells #[.int .u64 0, .int .u64 0, .int .u64 0, .int .u64 0] 24)).alloc (.cells #[.int .u64 0, .int .u64 0, .int .u64 0, .int .u64 0] 24)) = W at *
  go_upto_region 15 with fail
  refine wp_region_mix (fun z => Below W.heap.size W z) [4] (by kernel_rfl) (fun hcl => ?_)
  have hS : Below W.heap.size W W.drew := (Below.refl _ _).drew
  refine wpAnyT_take (i := 0) hcl rfl (by kernel_rfl) (v := ?_) (fun _ _ _ h => h) hS (Or.inl ⟨rfl, fun w' hS => ?_⟩) (fun hcl => ?_)
  rotate_left
  · skip
    have cb : ∀ i : Nat, _ = _ := (H0.out.1.below hS (by omega)).cell
    simp only [setC] at cb
    go_simp
    with_reducible rfl
  simp only [List.getElem_toArray, List.getElem_cons_zero, List.getElem_cons_succ, Act.put, List.setIfInBounds_toArray, List.set_cons_zero, List.set_cons_succ]
  refine wpAnyT_step (i := 1) hcl rfl (by kernel_rfl) (fun hcl => ?_)
  simp only [List.getElem_toArray, List.getElem_cons_zero, List.getElem_cons_succ, Act.put, List.setIfInBounds_toArray, List.set_cons_zero, List.set_cons_succ]
  go_wp2_with fail
  refine (range_any 48 57 _ (by decide) (by decide)).mono ?_
  rintro e W1 ⟨rfl, hb1⟩
  generalize ht1 : (fun x => decide (48 ≤ x ∧ x ≤ 57)) = T1
  have HT1 := hide ht1.symm
  clear ht1
  unfold setV setC
  have hS1 := hS.trans (hb1.mono hS.size)
  go_wp2_with fail
  refine ⟨hS1, ?_⟩
  clear hS hb1
  refine wpAnyT_step (i := 2) hcl rfl (by kernel_rfl) (fun hcl => ?_)
  simp only [List.getElem_toArray, List.getElem_cons_zero, List.getElem_cons_succ, Act.put, List.setIfInBounds_toArray, List.set_cons_zero, List.set_cons_succ]
  go_wp2_with fail
  have hu := Blk.new W1 24 #[.int .u64 ((wd T0 0 : Nat) : Int), .int .u64 ((wd T0 1 : Nat) : Int), .int .u64 ((wd T0 2 : Nat) : Int), .int .u64 ((wd T0 3 : Nat) : Int), .int .u64 ((wd T1 0 : Nat) : Int), .int .u64 ((wd T1 1 : Nat) : Int), .int .u64 ((wd T1 2 : Nat) : Int), .int .u64 ((wd T1 3 : Nat) : Int)]
  have hbu := (Below.refl W1.heap.size W1).alloc (Nat.le_refl _) (.cells #[.int .u64 ((wd T0 0 : Nat) : Int), .int .u64 ((wd T0 1 : Nat) : Int), .int .u64 ((wd T0 2 : Nat) : Int), .int .u64 ((wd T0 3 : Nat) : Int), .int .u64 ((wd T1 0 : Nat) : Int), .int .u64 ((wd T1 1 : Nat) : Int), .int .u64 ((wd T1 2 : Nat) : Int), .int .u64 ((wd T1 3 : Nat) : Int)] 24)
  have hS2 := hS1.trans (hbu.mono hS1.size)
  clear hbu hS1
  generalize (W1.alloc (.cells #[.int .u64 ((wd T0 0 : Nat) : Int), .int .u64 ((wd T0 1 : Nat) : Int), .int .u64 ((wd T0 2 : Nat) : Int), .int .u64 ((wd T0 3 : Nat) : Int), .int .u64 ((wd T1 0 : Nat) : Int), .int .u64 ((wd T1 1 : Nat) : Int), .int .u64 ((wd T1 2 : Nat) : Int), .int .u64 ((wd T1 3 : Nat) : Int)] 24)) = W2 at *
  generalize W1.heap.size = g2 at *
  refine ⟨hS2, ?_⟩
  refine wpAnyT_step (i := 3) hcl rfl (by kernel_rfl) (fun hcl => ?_)
  simp only [List.getElem_toArray, List.getElem_cons_zero, List.getElem_cons_succ, Act.put, List.setIfInBounds_toArray, List.set_cons_zero, List.set_cons_succ]
  go_wp2_with fail
  refine (join2_any T0 T1 g2 W2 hu).mono ?_
  rintro e W3 ⟨rfl, hb3⟩
  generalize ht3 : (fun x => T0 x || T1 x) = T3
  have HT3 := hide ht3.symm
  clear ht3
  unfold setV setC
  have hS3 := hS2.trans (hb3.mono hS2.size)
  go_wp2_with fail
  refine ⟨hS3, ?_⟩
  clear hb3 hS2 hu
  have H3 := hide (And.intro (H0.out.1.below hS3 (by omega)) (And.intro (H0.out.2.1.below hS3 (by omega)) (H0.out.2.2.trans (hS3.mono (by omega)))))
  have hzA3 := H3.out.1.lt
  have hzB3 := H3.out.2.1.lt
  have hzC3 := hS3.size
  clear hS3
  refine wpAnyT_last (i := 4) hcl rfl (by kernel_rfl) (by kernel_rfl) (fun hcl => ?_)
  simp only [List.getElem_toArray, List.getElem_cons_zero, List.getElem_cons_succ, Act.put, List.setIfInBounds_toArray, List.set_cons_zero, List.set_cons_succ]
  refine wpList_store_row rfl _ _ _ rfl (w.heap.size + 1) 0 _ _ _ rfl rfl H3.out.1 Tryz.sizeSetO (by simp [setC]) (by simp [Value.oneCell']) ?_
  intro W4 hrow2 hg9 hz9
  refine wpList_nil ?_
  have hrow := hrow2.out
  rw [splice_full (by rfl)] at hrow
  have H4 := hide (And.intro (show Blk W4 (w.heap.size + 1) 24 (setC T3).toArray from hrow) (And.intro (H3.out.2.1.grown hg9 (fun e => by have := Option.some.inj e; omega)) (below_grew H3.out.2.2 hg9 (Nat.le_refl _) (fun q hq => by rw [← Option.some.inj hq]; omega))))
  have hzA4 := H4.out.1.lt
  have hzB4 := H4.out.2.1.lt
  clear hrow hrow2 hg9 hz9 H3
  refine wpAnyT_done (by kernel_rfl) ?_ _
  go_upto_region 16 with fail
  refine wp_region_mix (fun z => Below W4.heap.size W4 z) [4] (by kernel_rfl) (fun hcl => ?_)
  have hS : Below W4.heap.size W4 W4.drew := (Below.refl _ _).drew
  refine wpAnyT_take (i := 0) hcl rfl (by kernel_rfl) (v := ?_) (fun _ _ _ h => h) hS (Or.inl ⟨rfl, fun w' hS => ?_⟩) (fun hcl => ?_)
  rotate_left
  · skip
    have cb : ∀ i : Nat, _ = _ := (H4.out.1.below hS (by omega)).cell
    simp only [setC] at cb
    go_simp
    with_reducible rfl
  simp only [List.getElem_toArray, List.getElem_cons_zero, List.getElem_cons_succ, Act.put, List.setIfInBounds_toArray, List.set_cons_zero, List.set_cons_succ]
  refine wpAnyT_step (i := 1) hcl rfl (by kernel_rfl) (fun hcl => ?_)
  simp only [List.getElem_toArray, List.getElem_cons_zero, List.getElem_cons_succ, Act.put, List.setIfInBounds_toArray, List.set_cons_zero, List.set_cons_succ]
  go_wp2_with fail
  refine (range_any 65 90 _ (by decide) (by decide)).mono ?_
  rintro e W5 ⟨rfl, hb5⟩
  generalize ht5 : (fun x => decide (65 ≤ x ∧ x ≤ 90)) = T5
  have HT5 := hide ht5.symm
  clear ht5
  unfold setV setC
  have hS5 := hS.trans (hb5.mono hS.size)
  go_wp2_with fail
  refine ⟨hS5, ?_⟩
  clear hS hb5
  refine wpAnyT_step (i := 2) hcl rfl (by kernel_rfl) (fun hcl => ?_)
  simp only [List.getElem_toArray, List.getElem_cons_zero, List.getElem_cons_succ, Act.put, List.setIfInBounds_toArray, List.set_cons_zero, List.set_cons_succ]
  go_wp2_with fail
  have hu := Blk.new W5 24 #[.int .u64 ((wd T3 0 : Nat) : Int), .int .u64 ((wd T3 1 : Nat) : Int), .int .u64 ((wd T3 2 : Nat) : Int), .int .u64 ((wd T3 3 : Nat) : Int), .int .u64 ((wd T5 0 : Nat) : Int), .int .u64 ((wd T5 1 : Nat) : Int), .int .u64 ((wd T5 2 : Nat) : Int), .int .u64 ((wd T5 3 : Nat) : Int)]
  have hbu := (Below.refl W5.heap.size W5).alloc (Nat.le_refl _) (.cells #[.int .u64 ((wd T3 0 : Nat) : Int), .int .u64 ((wd T3 1 : Nat) : Int), .int .u64 ((wd T3 2 : Nat) : Int), .int .u64 ((wd T3 3 : Nat) : Int), .int .u64 ((wd T5 0 : Nat) : Int), .int .u64 ((wd T5 1 : Nat) : Int), .int .u64 ((wd T5 2 : Nat) : Int), .int .u64 ((wd T5 3 : Nat) : Int)] 24)
  have hS6 := hS5.trans (hbu.mono hS5.size)
  clear hbu hS5
  generalize (W5.alloc (.cells #[.int .u64 ((wd T3 0 : Nat) : Int), .int .u64 ((wd T3 1 : Nat) : Int), .int .u64 ((wd T3 2 : Nat) : Int), .int .u64 ((wd T3 3 : Nat) : Int), .int .u64 ((wd T5 0 : Nat) : Int), .int .u64 ((wd T5 1 : Nat) : Int), .int .u64 ((wd T5 2 : Nat) : Int), .int .u64 ((wd T5 3 : Nat) : Int)] 24)) = W6 at *
  generalize W5.heap.size = g6 at *
  refine ⟨hS6, ?_⟩
  refine wpAnyT_step (i := 3) hcl rfl (by kernel_rfl) (fun hcl => ?_)
  simp only [List.getElem_toArray, List.getElem_cons_zero, List.getElem_cons_succ, Act.put, List.setIfInBounds_toArray, List.set_cons_zero, List.set_cons_succ]
  go_wp2_with fail
  refine (join2_any T3 T5 g6 W6 hu).mono ?_
  rintro e W7 ⟨rfl, hb7⟩
  generalize ht7 : (fun x => T3 x || T5 x) = T7
  have HT7 := hide ht7.symm
  clear ht7
  unfold setV setC
  have hS7 := hS6.trans (hb7.mono hS6.size)
  go_wp2_with fail
  refine ⟨hS7, ?_⟩
  clear hb7 hS6 hu
  have H7 := hide (And.intro (H4.out.1.below hS7 (by omega)) (And.intro (H4.out.2.1.below hS7 (by omega)) (H4.out.2.2.trans (hS7.mono (by omega)))))
  have hzA7 := H7.out.1.lt
  have hzB7 := H7.out.2.1.lt
  have hzC7 := hS7.size
  clear hS7
  refine wpAnyT_last (i := 4) hcl rfl (by kernel_rfl) (by kernel_rfl) (fun hcl => ?_)
  simp only [List.getElem_toArray, List.getElem_cons_zero, List.getElem_cons_succ, Act.put, List.setIfInBounds_toArray, List.set_cons_zero, List.set_cons_succ]
  refine wpList_store_row rfl _ _ _ rfl (w.heap.size + 1) 0 _ _ _ rfl rfl H7.out.1 Tryz.sizeSetO (by simp [setC]) (by simp [Value.oneCell']) ?_
  intro W8 hrow2 hg9 hz9
  refine wpList_nil ?_
  have hrow := hrow2.out
  rw [splice_full (by rfl)] at hrow
  have H8 := hide (And.intro (show Blk W8 (w.heap.size + 1) 24 (setC T7).toArray from hrow) (And.intro (H7.out.2.1.grown hg9 (fun e => by have := Option.some.inj e; omega)) (below_grew H7.out.2.2 hg9 (Nat.le_refl _) (fun q hq => by rw [← Option.some.inj hq]; omega))))
  have hzA8 := H8.out.1.lt
  have hzB8 := H8.out.2.1.lt
  clear hrow hrow2 hg9 hz9 H7
  refine wpAnyT_done (by kernel_rfl) ?_ _
  go_upto_region 17 with fail
  refine wp_region_mix (fun z => Below W8.heap.size W8 z) [4] (by kernel_rfl) (fun hcl => ?_)
  have hS : Below W8.heap.size W8 W8.drew := (Below.refl _ _).drew
  refine wpAnyT_take (i := 0) hcl rfl (by kernel_rfl) (v := ?_) (fun _ _ _ h => h) hS (Or.inl ⟨rfl, fun w' hS => ?_⟩) (fun hcl => ?_)
  rotate_left
  · skip
    have cb : ∀ i : Nat, _ = _ := (H8.out.1.below hS (by omega)).cell
    simp only [setC] at cb
    go_simp
    with_reducible rfl
  simp only [List.getElem_toArray, List.getElem_cons_zero, List.getElem_cons_succ, Act.put, List.setIfInBounds_toArray, List.set_cons_zero, List.set_cons_succ]
  refine wpAnyT_step (i := 1) hcl rfl (by kernel_rfl) (fun hcl => ?_)
  simp only [List.getElem_toArray, List.getElem_cons_zero, List.getElem_cons_succ, Act.put, List.setIfInBounds_toArray, List.set_cons_zero, List.set_cons_succ]
  go_wp2_with fail
  refine (range_any 97 122 _ (by decide) (by decide)).mono ?_
  rintro e W9 ⟨rfl, hb9⟩
  generalize ht9 : (fun x => decide (97 ≤ x ∧ x ≤ 122)) = T9
  have HT9 := hide ht9.symm
  clear ht9
  unfold setV setC
  have hS9 := hS.trans (hb9.mono hS.size)
  go_wp2_with fail
  refine ⟨hS9, ?_⟩
  clear hS hb9
  refine wpAnyT_step (i := 2) hcl rfl (by kernel_rfl) (fun hcl => ?_)
  simp only [List.getElem_toArray, List.getElem_cons_zero, List.getElem_cons_succ, Act.put, List.setIfInBounds_toArray, List.set_cons_zero, List.set_cons_succ]
  go_wp2_with fail
  have hu := Blk.new W9 24 #[.int .u64 ((wd T7 0 : Nat) : Int), .int .u64 ((wd T7 1 : Nat) : Int), .int .u64 ((wd T7 2 : Nat) : Int), .int .u64 ((wd T7 3 : Nat) : Int), .int .u64 ((wd T9 0 : Nat) : Int), .int .u64 ((wd T9 1 : Nat) : Int), .int .u64 ((wd T9 2 : Nat) : Int), .int .u64 ((wd T9 3 : Nat) : Int)]
  have hbu := (Below.refl W9.heap.size W9).alloc (Nat.le_refl _) (.cells #[.int .u64 ((wd T7 0 : Nat) : Int), .int .u64 ((wd T7 1 : Nat) : Int), .int .u64 ((wd T7 2 : Nat) : Int), .int .u64 ((wd T7 3 : Nat) : Int), .int .u64 ((wd T9 0 : Nat) : Int), .int .u64 ((wd T9 1 : Nat) : Int), .int .u64 ((wd T9 2 : Nat) : Int), .int .u64 ((wd T9 3 : Nat) : Int)] 24)
  have hS10 := hS9.trans (hbu.mono hS9.size)
  clear hbu hS9
  generalize (W9.alloc (.cells #[.int .u64 ((wd T7 0 : Nat) : Int), .int .u64 ((wd T7 1 : Nat) : Int), .int .u64 ((wd T7 2 : Nat) : Int), .int .u64 ((wd T7 3 : Nat) : Int), .int .u64 ((wd T9 0 : Nat) : Int), .int .u64 ((wd T9 1 : Nat) : Int), .int .u64 ((wd T9 2 : Nat) : Int), .int .u64 ((wd T9 3 : Nat) : Int)] 24)) = W10 at *
  generalize W9.heap.size = g10 at *
  refine ⟨hS10, ?_⟩
  refine wpAnyT_step (i := 3) hcl rfl (by kernel_rfl) (fun hcl => ?_)
  simp only [List.getElem_toArray, List.getElem_cons_zero, List.getElem_cons_succ, Act.put, List.setIfInBounds_toArray, List.set_cons_zero, List.set_cons_succ]
  go_wp2_with fail
  refine (join2_any T7 T9 g10 W10 hu).mono ?_
  rintro e W11 ⟨rfl, hb11⟩
  generalize ht11 : (fun x => T7 x || T9 x) = T11
  have HT11 := hide ht11.symm
  clear ht11
  unfold setV setC
  have hS11 := hS10.trans (hb11.mono hS10.size)
  go_wp2_with fail
  refine ⟨hS11, ?_⟩
  clear hb11 hS10 hu
  have H11 := hide (And.intro (H8.out.1.below hS11 (by omega)) (And.intro (H8.out.2.1.below hS11 (by omega)) (H8.out.2.2.trans (hS11.mono (by omega)))))
  have hzA11 := H11.out.1.lt
  have hzB11 := H11.out.2.1.lt
  have hzC11 := hS11.size
  clear hS11
  refine wpAnyT_last (i := 4) hcl rfl (by kernel_rfl) (by kernel_rfl) (fun hcl => ?_)
  simp only [List.getElem_toArray, List.getElem_cons_zero, List.getElem_cons_succ, Act.put, List.setIfInBounds_toArray, List.set_cons_zero, List.set_cons_succ]
  refine wpList_store_row rfl _ _ _ rfl (w.heap.size + 1) 0 _ _ _ rfl rfl H11.out.1 Tryz.sizeSetO (by simp [setC]) (by simp [Value.oneCell']) ?_
  intro W12 hrow2 hg9 hz9
  refine wpList_nil ?_
  have hrow := hrow2.out
  rw [splice_full (by rfl)] at hrow
  have H12 := hide (And.intro (show Blk W12 (w.heap.size + 1) 24 (setC T11).toArray from hrow) (And.intro (H11.out.2.1.grown hg9 (fun e => by have := Option.some.inj e; omega)) (below_grew H11.out.2.2 hg9 (Nat.le_refl _) (fun q hq => by rw [← Option.some.inj hq]; omega))))
  have hzA12 := H12.out.1.lt
  have hzB12 := H12.out.2.1.lt
  clear hrow hrow2 hg9 hz9 H11
  refine wpAnyT_done (by kernel_rfl) ?_ _
  have cb : ∀ i : Nat, _ = _ := H12.out.1.cell
  simp only [setC] at cb
  go_wp2_with (refine wpList_store_row rfl _ _ _ rfl w.heap.size 0 _ _ _ rfl rfl H12.out.2.1 Tryz.sizeSetO (by simp) (by simp [Value.oneCell']) ?_)
  intro w9 hrow2 hg9 hz9
  have hrow := hrow2.out
  rw [splice_full (by rfl)] at hrow
  have hb9 := below_grew H12.out.2.2 hg9 (Nat.le_refl _) (fun q hq => by rw [← Option.some.inj hq]; omega)
  have HF := hide (And.intro (show Blk w9 w.heap.size 24 (setC T11).toArray from hrow) hb9)
  clear hrow hrow2 hg9 hz9 hb9 cb
  go_wp2_with fail
  have c9 : ∀ i : Nat, _ = _ := HF.out.1.cell
  simp only [setC] at c9
  refine bodyPost_ret (v := .tuple #[setV T11, .nilIface]) (by unfold setV setC; simp [results, Tryz.results149, go_sem, c9]) rfl ?_
  refine ⟨?_, HF.out.2⟩
  rw [setV_congr (S := T11) (T := (fun b => up5 b || low5 b || dig5 b)) (fun x hx => ?_)]
  simp only [HT0.out, HT1.out, HT3.out, HT5.out, HT7.out, HT9.out, HT11.out]
  revert x
  decide +kernel
set_option maxRecDepth 100000 in
set_option maxHeartbeats 4000000 in
theorem named5_alpha (s : ByteArray) (hcs : s.toList = [97, 108, 112, 104, 97]) (w : World) : Calls Tryz.prog 149 #[.string s] w fun e w' => e = .returned (.tuple #[setV (fun b => up5 b || low5 b), .nilIface]) ∧ Below w.heap.size w w' := by
  have talnum : (s.toList == [97, 108, 110, 117, 109]) = false := by rw [hcs]; decide
  have talpha : (s.toList == [97, 108, 112, 104, 97]) = true := by rw [hcs]; decide
  have tlower : (s.toList == [108, 111, 119, 101, 114]) = false := by rw [hcs]; decide
  have tupper : (s.toList == [117, 112, 112, 101, 114]) = false := by rw [hcs]; decide
  have txdigit : (s.toList == [120, 100, 105, 103, 105, 116]) = false := by rw [hcs]; decide
  have tdigit : (s.toList == [100, 105, 103, 105, 116]) = false := by rw [hcs]; decide
  have tspace : (s.toList == [115, 112, 97, 99, 101]) = false := by rw [hcs]; decide
  have tblank : (s.toList == [98, 108, 97, 110, 107]) = false := by rw [hcs]; decide
  have tcntrl : (s.toList == [99, 110, 116, 114, 108]) = false := by rw [hcs]; decide
  have tprint : (s.toList == [112, 114, 105, 110, 116]) = false := by rw [hcs]; decide
  have tgraph : (s.toList == [103, 114, 97, 112, 104]) = false := by rw [hcs]; decide
  have tpunct : (s.toList == [112, 117, 110, 99, 116]) = false := by rw [hcs]; decide
  clear hcs
  have hb := ((Below.refl w.heap.size w).alloc (Nat.le_refl _) (.cells #[.int .u64 0, .int .u64 0, .int .u64 0, .int .u64 0] 24)).alloc (by simp) (.cells #[.int .u64 0, .int .u64 0, .int .u64 0, .int .u64 0] 24)
  have h1 := (Blk.new w 24 #[.int .u64 0, .int .u64 0, .int .u64 0, .int .u64 0]).alloc (.cells #[.int .u64 0, .int .u64 0, .int .u64 0, .int .u64 0] 24)
  have h3 := Blk.new (w.alloc (.cells #[.int .u64 0, .int .u64 0, .int .u64 0, .int .u64 0] 24)) 24 #[.int .u64 0, .int .u64 0, .int .u64 0, .int .u64 0]
  rw [World.size_alloc] at h3
  have hsz : w.heap.size + 1 < ((w.alloc (.cells #[.int .u64 0, .int .u64 0, .int .u64 0, .int .u64 0] 24)).alloc (.cells #[.int .u64 0, .int .u64 0, .int .u64 0, .int .u64 0] 24)).heap.size := by simp
  obtain ⟨T0, ht0⟩ : ∃ R : Nat → Bool, R = fun _ => false := ⟨_, rfl⟩
  have hz0 : (#[.int .u64 0, .int .u64 0, .int .u64 0, .int .u64 0] : Array Value) = (setC T0).toArray := by rw [ht0]; unfold setC; rw [wd_none, wd_none, wd_none, wd_none]; rfl
  have HT0 := hide ht0
  have H0 := hide (And.intro (show Blk ((w.alloc (.cells #[.int .u64 0, .int .u64 0, .int .u64 0, .int .u64 0] 24)).alloc (.cells #[.int .u64 0, .int .u64 0, .int .u64 0, .int .u64 0] 24)) (w.heap.size + 1) 24 (setC T0).toArray by rw [← hz0]; exact h3) (And.intro h1 hb))
  clear hb h1 h3 ht0 hz0
  go_enter Tryz.func149, Tryz.ntmps149
  go_upto_region 2 with fail
  generalize ((w.alloc (.cells #[.int .u64 0, .int .u64 0, .int .u64 0, .int .u64 0] 24)).alloc (.cells #[.int .u64 0, .int .u64 0, .int .u64 0, .int .u64 0] 24)) = W at *
  go_upto_region 16 with fail
  refine wp_region_mix (fun z => Below W.heap.size W z) [4] (by kernel_rfl) (fun hcl => ?_)
  have hS : Below W.heap.size W W.drew := (Below.refl _ _).drew
  refine wpAnyT_take (i := 0) hcl rfl (by kernel_rfl) (v := ?_) (fun _ _ _ h => h) hS (Or.inl ⟨rfl, fun w' hS => ?_⟩) (fun hcl => ?_)
  rotate_left
  · skip
    have cb : ∀ i : Nat, _ = _ := (H0.out.1.below hS (by omega)).cell
    simp only [setC] at cb
    go_simp
    with_reducible rfl
  simp only [List.getElem_toArray, List.getElem_cons_zero, List.getElem_cons_succ, Act.put, List.setIfInBounds_toArray, List.set_cons_zero, List.set_cons_succ]
  refine wpAnyT_step (i := 1) hcl rfl (by kernel_rfl) (fun hcl => ?_)
  simp only [List.getElem_toArray, List.getElem_cons_zero, List.getElem_cons_succ, Act.put, List.setIfInBounds_toArray, List.set_cons_zero, List.set_cons_succ]
  go_wp2_with fail
  refine (range_any 65 90 _ (by decide) (by decide)).mono ?_
  rintro e W1 ⟨rfl, hb1⟩
  generalize ht1 : (fun x => decide (65 ≤ x ∧ x ≤ 90)) = T1
  have HT1 := hide ht1.symm
  clear ht1
  unfold setV setC
  have hS1 := hS.trans (hb1.mono hS.size)
  go_wp2_with fail
  refine ⟨hS1, ?_⟩
  clear hS hb1
  refine wpAnyT_step (i := 2) hcl rfl (by kernel_rfl) (fun hcl => ?_)
  simp only [List.getElem_toArray, List.getElem_cons_zero, List.getElem_cons_succ, Act.put, List.setIfInBounds_toArray, List.set_cons_zero, List.set_cons_succ]
  go_wp2_with fail
  have hu := Blk.new W1 24 #[.int .u64 ((wd T0 0 : Nat) : Int), .int .u64 ((wd T0 1 : Nat) : Int), .int .u64 ((wd T0 2 : Nat) : Int), .int .u64 ((wd T0 3 : Nat) : Int), .int .u64 ((wd T1 0 : Nat) : Int), .int .u64 ((wd T1 1 : Nat) : Int), .int .u64 ((wd T1 2 : Nat) : Int), .int .u64 ((wd T1 3 : Nat) : Int)]
  have hbu := (Below.refl W1.heap.size W1).alloc (Nat.le_refl _) (.cells #[.int .u64 ((wd T0 0 : Nat) : Int), .int .u64 ((wd T0 1 : Nat) : Int), .int .u64 ((wd T0 2 : Nat) : Int), .int .u64 ((wd T0 3 : Nat) : Int), .int .u64 ((wd T1 0 : Nat) : Int), .int .u64 ((wd T1 1 : Nat) : Int), .int .u64 ((wd T1 2 : Nat) : Int), .int .u64 ((wd T1 3 : Nat) : Int)] 24)
  have hS2 := hS1.trans (hbu.mono hS1.size)
  clear hbu hS1
  generalize (W1.alloc (.cells #[.int .u64 ((wd T0 0 : Nat) : Int), .int .u64 ((wd T0 1 : Nat) : Int), .int .u64 ((wd T0 2 : Nat) : Int), .int .u64 ((wd T0 3 : Nat) : Int), .int .u64 ((wd T1 0 : Nat) : Int), .int .u64 ((wd T1 1 : Nat) : Int), .int .u64 ((wd T1 2 : Nat) : Int), .int .u64 ((wd T1 3 : Nat) : Int)] 24)) = W2 at *
  generalize W1.heap.size = g2 at *
  refine ⟨hS2, ?_⟩
  refine wpAnyT_step (i := 3) hcl rfl (by kernel_rfl) (fun hcl => ?_)
  simp only [List.getElem_toArray, List.getElem_cons_zero, List.getElem_cons_succ, Act.put, List.setIfInBounds_toArray, List.set_cons_zero, List.set_cons_succ]
  go_wp2_with fail
  refine (join2_any T0 T1 g2 W2 hu).mono ?_
  rintro e W3 ⟨rfl, hb3⟩
  generalize ht3 : (fun x => T0 x || T1 x) = T3
  have HT3 := hide ht3.symm
  clear ht3
  unfold setV setC
  have hS3 := hS2.trans (hb3.mono hS2.size)
  go_wp2_with fail
  refine ⟨hS3, ?_⟩
  clear hb3 hS2 hu
  have H3 := hide (And.intro (H0.out.1.below hS3 (by omega)) (And.intro (H0.out.2.1.below hS3 (by omega)) (H0.out.2.2.trans (hS3.mono (by omega)))))
  have hzA3 := H3.out.1.lt
  have hzB3 := H3.out.2.1.lt
  have hzC3 := hS3.size
  clear hS3
  refine wpAnyT_last (i := 4) hcl rfl (by kernel_rfl) (by kernel_rfl) (fun hcl => ?_)
  simp only [List.getElem_toArray, List.getElem_cons_zero, List.getElem_cons_succ, Act.put, List.setIfInBounds_toArray, List.set_cons_zero, List.set_cons_succ]
  refine wpList_store_row rfl _ _ _ rfl (w.heap.size + 1) 0 _ _ _ rfl rfl H3.out.1 Tryz.sizeSetO (by simp [setC]) (by simp [Value.oneCell']) ?_
  intro W4 hrow2 hg9 hz9
  refine wpList_nil ?_
  have hrow := hrow2.out
  rw [splice_full (by rfl)] at hrow
  have H4 := hide (And.intro (show Blk W4 (w.heap.size + 1) 24 (setC T3).toArray from hrow) (And.intro (H3.out.2.1.grown hg9 (fun e => by have := Option.some.inj e; omega)) (below_grew H3.out.2.2 hg9 (Nat.le_refl _) (fun q hq => by rw [← Option.some.inj hq]; omega))))
  have hzA4 := H4.out.1.lt
  have hzB4 := H4.out.2.1.lt
  clear hrow hrow2 hg9 hz9 H3
  refine wpAnyT_done (by kernel_rfl) ?_ _
  go_upto_region 17 with fail
  refine wp_region_mix (fun z => Below W4.heap.size W4 z) [4] (by kernel_rfl) (fun hcl => ?_)
  have hS : Below W4.heap.size W4 W4.drew := (Below.refl _ _).drew
  refine wpAnyT_take (i := 0) hcl rfl (by kernel_rfl) (v := ?_) (fun _ _ _ h => h) hS (Or.inl ⟨rfl, fun w' hS => ?_⟩) (fun hcl => ?_)
  rotate_left
  · skip
    have cb : ∀ i : Nat, _ = _ := (H4.out.1.below hS (by omega)).cell
    simp only [setC] at cb
    go_simp
    with_reducible rfl
  simp only [List.getElem_toArray, List.getElem_cons_zero, List.getElem_cons_succ, Act.put, List.setIfInBounds_toArray, List.set_cons_zero, List.set_cons_succ]
  refine wpAnyT_step (i := 1) hcl rfl (by kernel_rfl) (fun hcl => ?_)
  simp only [List.getElem_toArray, List.getElem_cons_zero, List.getElem_cons_succ, Act.put, List.setIfInBounds_toArray, List.set_cons_zero, List.set_cons_succ]
  go_wp2_with fail
  refine (range_any 97 122 _ (by decide) (by decide)).mono ?_
  rintro e W5 ⟨rfl, hb5⟩
  generalize ht5 : (fun x => decide (97 ≤ x ∧ x ≤ 122)) = T5
  have HT5 := hide ht5.symm
  clear ht5
  unfold setV setC
  have hS5 := hS.trans (hb5.mono hS.size)
  go_wp2_with fail
  refine ⟨hS5, ?_⟩
  clear hS hb5
  refine wpAnyT_step (i := 2) hcl rfl (by kernel_rfl) (fun hcl => ?_)
  simp only [List.getElem_toArray, List.getElem_cons_zero, List.getElem_cons_succ, Act.put, List.setIfInBounds_toArray, List.set_cons_zero, List.set_cons_succ]
  go_wp2_with fail
  have hu := Blk.new W5 24 #[.int .u64 ((wd T3 0 : Nat) : Int), .int .u64 ((wd T3 1 : Nat) : Int), .int .u64 ((wd T3 2 : Nat) : Int), .int .u64 ((wd T3 3 : Nat) : Int), .int .u64 ((wd T5 0 : Nat) : Int), .int .u64 ((wd T5 1 : Nat) : Int), .int .u64 ((wd T5 2 : Nat) : Int), .int .u64 ((wd T5 3 : Nat) : Int)]
  have hbu := (Below.refl W5.heap.size W5).alloc (Nat.le_refl _) (.cells #[.int .u64 ((wd T3 0 : Nat) : Int), .int .u64 ((wd T3 1 : Nat) : Int), .int .u64 ((wd T3 2 : Nat) : Int), .int .u64 ((wd T3 3 : Nat) : Int), .int .u64 ((wd T5 0 : Nat) : Int), .int .u64 ((wd T5 1 : Nat) : Int), .int .u64 ((wd T5 2 : Nat) : Int), .int .u64 ((wd T5 3 : Nat) : Int)] 24)
  have hS6 := hS5.trans (hbu.mono hS5.size)
  clear hbu hS5
  generalize (W5.alloc (.cells #[.int .u64 ((wd T3 0 : Nat) : Int), .int .u64 ((wd T3 1 : Nat) : Int), .int .u64 ((wd T3 2 : Nat) : Int), .int .u64 ((wd T3 3 : Nat) : Int), .int .u64 ((wd T5 0 : Nat) : Int), .int .u64 ((wd T5 1 : Nat) : Int), .int .u64 ((wd T5 2 : Nat) : Int), .int .u64 ((wd T5 3 : Nat) : Int)] 24)) = W6 at *
  generalize W5.heap.size = g6 at *
  refine ⟨hS6, ?_⟩
  refine wpAnyT_step (i := 3) hcl rfl (by kernel_rfl) (fun hcl => ?_)
  simp only [List.getElem_toArray, List.getElem_cons_zero, List.getElem_cons_succ, Act.put, List.setIfInBounds_toArray, List.set_cons_zero, List.set_cons_succ]
  go_wp2_with fail
  refine (join2_any T3 T5 g6 W6 hu).mono ?_
  rintro e W7 ⟨rfl, hb7⟩
  generalize ht7 : (fun x => T3 x || T5 x) = T7
  have HT7 := hide ht7.symm
  clear ht7
  unfold setV setC
  have hS7 := hS6.trans (hb7.mono hS6.size)
  go_wp2_with fail
  refine ⟨hS7, ?_⟩
  clear hb7 hS6 hu
  have H7 := hide (And.intro (H4.out.1.below hS7 (by omega)) (And.intro (H4.out.2.1.below hS7 (by omega)) (H4.out.2.2.trans (hS7.mono (by omega)))))
  have hzA7 := H7.out.1.lt
  have hzB7 := H7.out.2.1.lt
  have hzC7 := hS7.size
  clear hS7
  refine wpAnyT_last (i := 4) hcl rfl (by kernel_rfl) (by kernel_rfl) (fun hcl => ?_)
  simp only [List.getElem_toArray, List.getElem_cons_zero, List.getElem_cons_succ, Act.put, List.setIfInBounds_toArray, List.set_cons_zero, List.set_cons_succ]
  refine wpList_store_row rfl _ _ _ rfl (w.heap.size + 1) 0 _ _ _ rfl rfl H7.out.1 Tryz.sizeSetO (by simp [setC]) (by simp [Value.oneCell']) ?_
  intro W8 hrow2 hg9 hz9
  refine wpList_nil ?_
  have hrow := hrow2.out
  rw [splice_full (by rfl)] at hrow
  have H8 := hide (And.intro (show Blk W8 (w.heap.size + 1) 24 (setC T7).toArray from hrow) (And.intro (H7.out.2.1.grown hg9 (fun e => by have := Option.some.inj e; omega)) (below_grew H7.out.2.2 hg9 (Nat.le_refl _) (fun q hq => by rw [← Option.some.inj hq]; omega))))
  have hzA8 := H8.out.1.lt
  have hzB8 := H8.out.2.1.lt
  clear hrow hrow2 hg9 hz9 H7
  refine wpAnyT_done (by kernel_rfl) ?_ _
  have cb : ∀ i : Nat, _ = _ := H8.out.1.cell
  simp only [setC] at cb
  go_wp2_with (refine wpList_store_row rfl _ _ _ rfl w.heap.size 0 _ _ _ rfl rfl H8.out.2.1 Tryz.sizeSetO (by simp) (by simp [Value.oneCell']) ?_)
  intro w9 hrow2 hg9 hz9
  have hrow := hrow2.out
  rw [splice_full (by rfl)] at hrow
  have hb9 := below_grew H8.out.2.2 hg9 (Nat.le_refl _) (fun q hq => by rw [← Option.some.inj hq]; omega)
  have HF := hide (And.intro (show Blk w9 w.heap.size 24 (setC T7).toArray from hrow) hb9)
  clear hrow hrow2 hg9 hz9 hb9 cb
  go_wp2_with fail
  have c9 : ∀ i : Nat, _ = _ := HF.out.1.cell
  simp only [setC] at c9
  refine bodyPost_ret (v := .tuple #[setV T7, .nilIface]) (by unfold setV setC; simp [results, Tryz.results149, go_sem, c9]) rfl ?_
  refine ⟨?_, HF.out.2⟩
  rw [setV_congr (S := T7) (T := (fun b => up5 b || low5 b)) (fun x hx => ?_)]
  simp only [HT0.out, HT1.out, HT3.out, HT5.out, HT7.out]
  revert x
  decide +kernel
set_option maxRecDepth 100000 in
set_option maxHeartbeats 4000000 in
theorem named5_lower (s : ByteArray) (hcs : s.toList = [108, 111, 119, 101, 114]) (w : World) : Calls Tryz.prog 149 #[.string s] w fun e w' => e = .returned (.tuple #[setV (fun b => low5 b), .nilIface]) ∧ Below w.heap.size w w' := by
  have talnum : (s.toList == [97, 108, 110, 117, 109]) = false := by rw [hcs]; decide
  have talpha : (s.toList == [97, 108, 112, 104, 97]) = false := by rw [hcs]; decide
  have tlower : (s.toList == [108, 111, 119, 101, 114]) = true := by rw [hcs]; decide
  have tupper : (s.toList == [117, 112, 112, 101, 114]) = false := by rw [hcs]; decide
  have txdigit : (s.toList == [120, 100, 105, 103, 105, 116]) = false := by rw [hcs]; decide
  have tdigit : (s.toList == [100, 105, 103, 105, 116]) = false := by rw [hcs]; decide
  have tspace : (s.toList == [115, 112, 97, 99, 101]) = false := by rw [hcs]; decide
  have tblank : (s.toList == [98, 108, 97, 110, 107]) = false := by rw [hcs]; decide
  have tcntrl : (s.toList == [99, 110, 116, 114, 108]) = false := by rw [hcs]; decide
  have tprint : (s.toList == [112, 114, 105, 110, 116]) = false := by rw [hcs]; decide
  have tgraph : (s.toList == [103, 114, 97, 112, 104]) = false := by rw [hcs]; decide
  have tpunct : (s.toList == [112, 117, 110, 99, 116]) = false := by rw [hcs]; decide
  clear hcs
  have hb := ((Below.refl w.heap.size w).alloc (Nat.le_refl _) (.cells #[.int .u64 0, .int .u64 0, .int .u64 0, .int .u64 0] 24)).alloc (by simp) (.cells #[.int .u64 0, .int .u64 0, .int .u64 0, .int .u64 0] 24)
  have h1 := (Blk.new w 24 #[.int .u64 0, .int .u64 0, .int .u64 0, .int .u64 0]).alloc (.cells #[.int .u64 0, .int .u64 0, .int .u64 0, .int .u64 0] 24)
  have h3 := Blk.new (w.alloc (.cells #[.int .u64 0, .int .u64 0, .int .u64 0, .int .u64 0] 24)) 24 #[.int .u64 0, .int .u64 0, .int .u64 0, .int .u64 0]
  rw [World.size_alloc] at h3
  have hsz : w.heap.size + 1 < ((w.alloc (.cells #[.int .u64 0, .int .u64 0, .int .u64 0, .int .u64 0] 24)).alloc (.cells #[.int .u64 0, .int .u64 0, .int .u64 0, .int .u64 0] 24)).heap.size := by simp
  obtain ⟨T0, ht0⟩ : ∃ R : Nat → Bool, R = fun _ => false := ⟨_, rfl⟩
  have hz0 : (#[.int .u64 0, .int .u64 0, .int .u64 0, .int .u64 0] : Array Value) = (setC T0).toArray := by rw [ht0]; unfold setC; rw [wd_none, wd_none, wd_none, wd_none]; rfl
  have HT0 := hide ht0
  have H0 := hide (And.intro (show Blk ((w.alloc (.cells #[.int .u64 0, .int .u64 0, .int .u64 0, .int .u64 0] 24)).alloc (.cells #[.int .u64 0, .int .u64 0, .int .u64 0, .int .u64 0] 24)) (w.heap.size + 1) 24 (setC T0).toArray by rw [← hz0]; exact h3) (And.intro h1 hb))
  clear hb h1 h3 ht0 hz0
  go_enter Tryz.func149, Tryz.ntmps149
  go_upto_region 2 with fail
  generalize ((w.alloc (.cells #[.int .u64 0, .int .u64 0, .int .u64 0, .int .u64 0] 24)).alloc (.cells #[.int .u64 0, .int .u64 0, .int .u64 0, .int .u64 0] 24)) = W at *
  go_upto_region 17 with fail
  refine wp_region_mix (fun z => Below W.heap.size W z) [4] (by kernel_rfl) (fun hcl => ?_)
  have hS : Below W.heap.size W W.drew := (Below.refl _ _).drew
  refine wpAnyT_take (i := 0) hcl rfl (by kernel_rfl) (v := ?_) (fun _ _ _ h => h) hS (Or.inl ⟨rfl, fun w' hS => ?_⟩) (fun hcl => ?_)
  rotate_left
  · skip
    have cb : ∀ i : Nat, _ = _ := (H0.out.1.below hS (by omega)).cell
    simp only [setC] at cb
    go_simp
    with_reducible rfl
  simp only [List.getElem_toArray, List.getElem_cons_zero, List.getElem_cons_succ, Act.put, List.setIfInBounds_toArray, List.set_cons_zero, List.set_cons_succ]
  refine wpAnyT_step (i := 1) hcl rfl (by kernel_rfl) (fun hcl => ?_)
  simp only [List.getElem_toArray, List.getElem_cons_zero, List.getElem_cons_succ, Act.put, List.setIfInBounds_toArray, List.set_cons_zero, List.set_cons_succ]
  go_wp2_with fail
  refine (range_any 97 122 _ (by decide) (by decide)).mono ?_
  rintro e W1 ⟨rfl, hb1⟩
  generalize ht1 : (fun x => decide (97 ≤ x ∧ x ≤ 122)) = T1
  have HT1 := hide ht1.symm
  clear ht1
  unfold setV setC
  have hS1 := hS.trans (hb1.mono hS.size)
  go_wp2_with fail
  refine ⟨hS1, ?_⟩
  clear hS hb1
  refine wpAnyT_step (i := 2) hcl rfl (by kernel_rfl) (fun hcl => ?_)
  simp only [List.getElem_toArray, List.getElem_cons_zero, List.getElem_cons_succ, Act.put, List.setIfInBounds_toArray, List.set_cons_zero, List.set_cons_succ]
  go_wp2_with fail
  have hu := Blk.new W1 24 #[.int .u64 ((wd T0 0 : Nat) : Int), .int .u64 ((wd T0 1 : Nat) : Int), .int .u64 ((wd T0 2 : Nat) : Int), .int .u64 ((wd T0 3 : Nat) : Int), .int .u64 ((wd T1 0 : Nat) : Int), .int .u64 ((wd T1 1 : Nat) : Int), .int .u64 ((wd T1 2 : Nat) : Int), .int .u64 ((wd T1 3 : Nat) : Int)]
  have hbu := (Below.refl W1.heap.size W1).alloc (Nat.le_refl _) (.cells #[.int .u64 ((wd T0 0 : Nat) : Int), .int .u64 ((wd T0 1 : Nat) : Int), .int .u64 ((wd T0 2 : Nat) : Int), .int .u64 ((wd T0 3 : Nat) : Int), .int .u64 ((wd T1 0 : Nat) : Int), .int .u64 ((wd T1 1 : Nat) : Int), .int .u64 ((wd T1 2 : Nat) : Int), .int .u64 ((wd T1 3 : Nat) : Int)] 24)
  have hS2 := hS1.trans (hbu.mono hS1.size)
  clear hbu hS1
  generalize (W1.alloc (.cells #[.int .u64 ((wd T0 0 : Nat) : Int), .int .u64 ((wd T0 1 : Nat) : Int), .int .u64 ((wd T0 2 : Nat) : Int), .int .u64 ((wd T0 3 : Nat) : Int), .int .u64 ((wd T1 0 : Nat) : Int), .int .u64 ((wd T1 1 : Nat) : Int), .int .u64 ((wd T1 2 : Nat) : Int), .int .u64 ((wd T1 3 : Nat) : Int)] 24)) = W2 at *
  generalize W1.heap.size = g2 at *
  refine ⟨hS2, ?_⟩
  refine wpAnyT_step (i := 3) hcl rfl (by kernel_rfl) (fun hcl => ?_)
  simp only [List.getElem_toArray, List.getElem_cons_zero, List.getElem_cons_succ, Act.put, List.setIfInBounds_toArray, List.set_cons_zero, List.set_cons_succ]
  go_wp2_with fail
  refine (join2_any T0 T1 g2 W2 hu).mono ?_
  rintro e W3 ⟨rfl, hb3⟩
  generalize ht3 : (fun x => T0 x || T1 x) = T3
  have HT3 := hide ht3.symm
  clear ht3
  unfold setV setC
  have hS3 := hS2.trans (hb3.mono hS2.size)
  go_wp2_with fail
  refine ⟨hS3, ?_⟩
  clear hb3 hS2 hu
  have H3 := hide (And.intro (H0.out.1.below hS3 (by omega)) (And.intro (H0.out.2.1.below hS3 (by omega)) (H0.out.2.2.trans (hS3.mono (by omega)))))
  have hzA3 := H3.out.1.lt
  have hzB3 := H3.out.2.1.lt
  have hzC3 := hS3.size
  clear hS3
  refine wpAnyT_last (i := 4) hcl rfl (by kernel_rfl) (by kernel_rfl) (fun hcl => ?_)
  simp only [List.getElem_toArray, List.getElem_cons_zero, List.getElem_cons_succ, Act.put, List.setIfInBounds_toArray, List.set_cons_zero, List.set_cons_succ]
  refine wpList_store_row rfl _ _ _ rfl (w.heap.size + 1) 0 _ _ _ rfl rfl H3.out.1 Tryz.sizeSetO (by simp [setC]) (by simp [Value.oneCell']) ?_
  intro W4 hrow2 hg9 hz9
  refine wpList_nil ?_
  have hrow := hrow2.out
  rw [splice_full (by rfl)] at hrow
  have H4 := hide (And.intro (show Blk W4 (w.heap.size + 1) 24 (setC T3).toArray from hrow) (And.intro (H3.out.2.1.grown hg9 (fun e => by have := Option.some.inj e; omega)) (below_grew H3.out.2.2 hg9 (Nat.le_refl _) (fun q hq => by rw [← Option.some.inj hq]; omega))))
  have hzA4 := H4.out.1.lt
  have hzB4 := H4.out.2.1.lt
  clear hrow hrow2 hg9 hz9 H3
  refine wpAnyT_done (by kernel_rfl) ?_ _
  have cb : ∀ i : Nat, _ = _ := H4.out.1.cell
  simp only [setC] at cb
  go_wp2_with (refine wpList_store_row rfl _ _ _ rfl w.heap.size 0 _ _ _ rfl rfl H4.out.2.1 Tryz.sizeSetO (by simp) (by simp [Value.oneCell']) ?_)
  intro w9 hrow2 hg9 hz9
  have hrow := hrow2.out
  rw [splice_full (by rfl)] at hrow
  have hb9 := below_grew H4.out.2.2 hg9 (Nat.le_refl _) (fun q hq => by rw [← Option.some.inj hq]; omega)
  have HF := hide (And.intro (show Blk w9 w.heap.size 24 (setC T3).toArray from hrow) hb9)
  clear hrow hrow2 hg9 hz9 hb9 cb
  go_wp2_with fail
  have c9 : ∀ i : Nat, _ = _ := HF.out.1.cell
  simp only [setC] at c9
  refine bodyPost_ret (v := .tuple #[setV T3, .nilIface]) (by unfold setV setC; simp [results, Tryz.results149, go_sem, c9]) rfl ?_
  refine ⟨?_, HF.out.2⟩
  rw [setV_congr (S := T3) (T := (fun b => low5 b)) (fun x hx => ?_)]
  simp only [HT0.out, HT1.out, HT3.out]
  revert x
  decide +kernel
set_option maxRecDepth 100000 in
set_option maxHeartbeats 4000000 in
theorem named5_upper (s : ByteArray) (hcs : s.toList = [117, 112, 112, 101, 114]) (w : World) : Calls Tryz.prog 149 #[.string s] w fun e w' => e = .returned (.tuple #[setV (fun b => up5 b), .nilIface]) ∧ Below w.heap.size w w' := by
  have talnum : (s.toList == [97, 108, 110, 117, 109]) = false := by rw [hcs]; decide
  have talpha : (s.toList == [97, 108, 112, 104, 97]) = false := by rw [hcs]; decide
  have tlower : (s.toList == [108, 111, 119, 101, 114]) = false := by rw [hcs]; decide
  have tupper : (s.toList == [117, 112, 112, 101, 114]) = true := by rw [hcs]; decide
  have txdigit : (s.toList == [120, 100, 105, 103, 105, 116]) = false := by rw [hcs]; decide
  have tdigit : (s.toList == [100, 105, 103, 105, 116]) = false := by rw [hcs]; decide
  have tspace : (s.toList == [115, 112, 97, 99, 101]) = false := by rw [hcs]; decide
  have tblank : (s.toList == [98, 108, 97, 110, 107]) = false := by rw [hcs]; decide
  have tcntrl : (s.toList == [99, 110, 116, 114, 108]) = false := by rw [hcs]; decide
  have tprint : (s.toList == [112, 114, 105, 110, 116]) = false := by rw [hcs]; decide
  have tgraph : (s.toList == [103, 114, 97, 112, 104]) = false := by rw [hcs]; decide
  have tpunct : (s.toList == [112, 117, 110, 99, 116]) = false := by rw [hcs]; decide
  clear hcs
  have hb := ((Below.refl w.heap.size w).alloc (Nat.le_refl _) (.cells #[.int .u64 0, .int .u64 0, .int .u64 0, .int .u64 0] 24)).alloc (by simp) (.cells #[.int .u64 0, .int .u64 0, .int .u64 0, .int .u64 0] 24)
  have h1 := (Blk.new w 24 #[.int .u64 0, .int .u64 0, .int .u64 0, .int .u64 0]).alloc (.cells #[.int .u64 0, .int .u64 0, .int .u64 0, .int .u64 0] 24)
  have h3 := Blk.new (w.alloc (.cells #[.int .u64 0, .int .u64 0, .int .u64 0, .int .u64 0] 24)) 24 #[.int .u64 0, .int .u64 0, .int .u64 0, .int .u64 0]
  rw [World.size_alloc] at h3
  have hsz : w.heap.size + 1 < ((w.alloc (.cells #[.int .u64 0, .int .u64 0, .int .u64 0, .int .u64 0] 24)).alloc (.cells #[.int .u64 0, .int .u64 0, .int .u64 0, .int .u64 0] 24)).heap.size := by simp
  obtain ⟨T0, ht0⟩ : ∃ R : Nat → Bool, R = fun _ => false := ⟨_, rfl⟩
  have hz0 : (#[.int .u64 0, .int .u64 0, .int .u64 0, .int .u64 0] : Array Value) = (setC T0).toArray := by rw [ht0]; unfold setC; rw [wd_none, wd_none, wd_none, wd_none]; rfl
  have HT0 := hide ht0
  have H0 := hide (And.intro (show Blk ((w.alloc (.cells #[.int .u64 0, .int .u64 0, .int .u64 0, .int .u64 0] 24)).alloc (.cells #[.int .u64 0, .int .u64 0, .int .u64 0, .int .u64 0] 24)) (w.heap.size + 1) 24 (setC T0).toArray by rw [← hz0]; exact h3) (And.intro h1 hb))
  clear hb h1 h3 ht0 hz0
  go_enter Tryz.func149, Tryz.ntmps149
  go_upto_region 2 with fail
  generalize ((w.alloc (.cells #[.int .u64 0, .int .u64 0, .int .u64 0, .int .u64 0] 24)).alloc (.cells #[.int .u64 0, .int .u64 0, .int .u64 0, .int .u64 0] 24)) = W at *
  go_wp2_with fail
  refine (range_any 65 90 W (by decide) (by decide)).mono ?_
  rintro e W1 ⟨rfl, hb1⟩
  generalize ht1 : (fun x => decide (65 ≤ x ∧ x ≤ 90)) = T1
  have HT1 := hide ht1.symm
  clear ht1
  unfold setV setC
  have H1 := hide (And.intro (H0.out.1.below hb1 (by omega)) (And.intro (H0.out.2.1.below hb1 (by omega)) (H0.out.2.2.trans (hb1.mono (by omega)))))
  have hzA1 := H1.out.1.lt
  have hzB1 := H1.out.2.1.lt
  have hzC1 := hb1.size
  clear hb1
  go_wp2_with (refine wpList_store_row rfl _ _ _ rfl (w.heap.size + 1) 0 _ _ _ rfl rfl H1.out.1 Tryz.sizeSetO (by simp [setC]) (by simp [Value.oneCell']) ?_)
  intro W2 hrow2 hg9 hz9
  have hrow := hrow2.out
  rw [splice_full (by rfl)] at hrow
  have H2 := hide (And.intro (show Blk W2 (w.heap.size + 1) 24 (setC T1).toArray from hrow) (And.intro (H1.out.2.1.grown hg9 (fun e => by have := Option.some.inj e; omega)) (below_grew H1.out.2.2 hg9 (Nat.le_refl _) (fun q hq => by rw [← Option.some.inj hq]; omega))))
  have hzA2 := H2.out.1.lt
  have hzB2 := H2.out.2.1.lt
  clear hrow hrow2 hg9 hz9 H1
  have cb : ∀ i : Nat, _ = _ := H2.out.1.cell
  simp only [setC] at cb
  go_wp2_with (refine wpList_store_row rfl _ _ _ rfl w.heap.size 0 _ _ _ rfl rfl H2.out.2.1 Tryz.sizeSetO (by simp) (by simp [Value.oneCell']) ?_)
  intro w9 hrow2 hg9 hz9
  have hrow := hrow2.out
  rw [splice_full (by rfl)] at hrow
  have hb9 := below_grew H2.out.2.2 hg9 (Nat.le_refl _) (fun q hq => by rw [← Option.some.inj hq]; omega)
  have HF := hide (And.intro (show Blk w9 w.heap.size 24 (setC T1).toArray from hrow) hb9)
  clear hrow hrow2 hg9 hz9 hb9 cb
  go_wp2_with fail
  have c9 : ∀ i : Nat, _ = _ := HF.out.1.cell
  simp only [setC] at c9
  refine bodyPost_ret (v := .tuple #[setV T1, .nilIface]) (by unfold setV setC; simp [results, Tryz.results149, go_sem, c9]) rfl ?_
  refine ⟨?_, HF.out.2⟩
  rw [setV_congr (S := T1) (T := (fun b => up5 b)) (fun x hx => ?_)]
  simp only [HT0.out, HT1.out]
  revert x
  decide +kernel
set_option maxRecDepth 100000 in
set_option maxHeartbeats 4000000 in
theorem named5_xdigit (s : ByteArray) (hcs : s.toList = [120, 100, 105, 103, 105, 116]) (w : World) : Calls Tryz.prog 149 #[.string s] w fun e w' => e = .returned (.tuple #[setV (fun b => dig5 b || bt5 65 70 b || bt5 97 102 b), .nilIface]) ∧ Below w.heap.size w w' := by
  have talnum : (s.toList == [97, 108, 110, 117, 109]) = false := by rw [hcs]; decide
  have talpha : (s.toList == [97, 108, 112, 104, 97]) = false := by rw [hcs]; decide
  have tlower : (s.toList == [108, 111, 119, 101, 114]) = false := by rw [hcs]; decide
  have tupper : (s.toList == [117, 112, 112, 101, 114]) = false := by rw [hcs]; decide
  have txdigit : (s.toList == [120, 100, 105, 103, 105, 116]) = true := by rw [hcs]; decide
  have tdigit : (s.toList == [100, 105, 103, 105, 116]) = false := by rw [hcs]; decide
  have tspace : (s.toList == [115, 112, 97, 99, 101]) = false := by rw [hcs]; decide
  have tblank : (s.toList == [98, 108, 97, 110, 107]) = false := by rw [hcs]; decide
  have tcntrl : (s.toList == [99, 110, 116, 114, 108]) = false := by rw [hcs]; decide
  have tprint : (s.toList == [112, 114, 105, 110, 116]) = false := by rw [hcs]; decide
  have tgraph : (s.toList == [103, 114, 97, 112, 104]) = false := by rw [hcs]; decide
  have tpunct : (s.toList == [112, 117, 110, 99, 116]) = false := by rw [hcs]; decide
  clear hcs
  have hb := ((Below.refl w.heap.size w).alloc (Nat.le_refl _) (.cells #[.int .u64 0, .int .u64 0, .int .u64 0, .int .u64 0] 24)).alloc (by simp) (.cells #[.int .u64 0, .int .u64 0, .int .u64 0, .int .u64 0] 24)
  have h1 := (Blk.new w 24 #[.int .u64 0, .int .u64 0, .int .u64 0, .int .u64 0]).alloc (.cells #[.int .u64 0, .int .u64 0, .int .u64 0, .int .u64 0] 24)
  have h3 := Blk.new (w.alloc (.cells #[.int .u64 0, .int .u64 0, .int .u64 0, .int .u64 0] 24)) 24 #[.int .u64 0, .int .u64 0, .int .u64 0, .int .u64 0]
  rw [World.size_alloc] at h3
  have hsz : w.heap.size + 1 < ((w.alloc (.cells #[.int .u64 0, .int .u64 0, .int .u64 0, .int .u64 0] 24)).alloc (.cells #[.int .u64 0, .int .u64 0, .int .u64 0, .int .u64 0] 24)).heap.size := by simp
  obtain ⟨T0, ht0⟩ : ∃ R : Nat → Bool, R = fun _ => false := ⟨_, rfl⟩
  have hz0 : (#[.int .u64 0, .int .u64 0, .int .u64 0, .int .u64 0] : Array Value) = (setC T0).toArray := by rw [ht0]; unfold setC; rw [wd_none, wd_none, wd_none, wd_none]; rfl
  have HT0 := hide ht0
  have H0 := hide (And.intro (show Blk ((w.alloc (.cells #[.int .u64 0, .int .u64 0, .int .u64 0, .int .u64 0] 24)).alloc (.cells #[.int .u64 0, .int .u64 0, .int .u64 0, .int .u64 0] 24)) (w.heap.size + 1) 24 (setC T0).toArray by rw [← hz0]; exact h3) (And.intro h1 hb))
  clear hb h1 h3 ht0 hz0
  go_enter Tryz.func149, Tryz.ntmps149
  go_upto_region 2 with fail
  generalize ((w.alloc (.cells #[.int .u64 0, .int .u64 0, .int .u64 0, .int .u64 0] 24)).alloc (.cells #[.int .u64 0, .int .u64 0, .int .u64 0, .int .u64 0] 24)) = W at *
  go_wp2_with fail
  refine (range_any 65 70 W (by decide) (by decide)).mono ?_
  rintro e W1 ⟨rfl, hb1⟩
  generalize ht1 : (fun x => decide (65 ≤ x ∧ x ≤ 70)) = T1
  have HT1 := hide ht1.symm
  clear ht1
  unfold setV setC
  go_wp2_with fail
  refine (range_any 97 102 W1 (by decide) (by decide)).mono ?_
  rintro e W2 ⟨rfl, hb2⟩
  generalize ht2 : (fun x => decide (97 ≤ x ∧ x ≤ 102)) = T2
  have HT2 := hide ht2.symm
  clear ht2
  unfold setV setC
  have hS2 := hb1.trans (hb2.mono hb1.size)
  clear hb1 hb2
  go_wp2_with fail
  have hu := Blk.new W2 24 #[.int .u64 ((wd T1 0 : Nat) : Int), .int .u64 ((wd T1 1 : Nat) : Int), .int .u64 ((wd T1 2 : Nat) : Int), .int .u64 ((wd T1 3 : Nat) : Int), .int .u64 ((wd T2 0 : Nat) : Int), .int .u64 ((wd T2 1 : Nat) : Int), .int .u64 ((wd T2 2 : Nat) : Int), .int .u64 ((wd T2 3 : Nat) : Int)]
  have hbu := (Below.refl W2.heap.size W2).alloc (Nat.le_refl _) (.cells #[.int .u64 ((wd T1 0 : Nat) : Int), .int .u64 ((wd T1 1 : Nat) : Int), .int .u64 ((wd T1 2 : Nat) : Int), .int .u64 ((wd T1 3 : Nat) : Int), .int .u64 ((wd T2 0 : Nat) : Int), .int .u64 ((wd T2 1 : Nat) : Int), .int .u64 ((wd T2 2 : Nat) : Int), .int .u64 ((wd T2 3 : Nat) : Int)] 24)
  have hS3 := hS2.trans (hbu.mono hS2.size)
  clear hbu hS2
  generalize (W2.alloc (.cells #[.int .u64 ((wd T1 0 : Nat) : Int), .int .u64 ((wd T1 1 : Nat) : Int), .int .u64 ((wd T1 2 : Nat) : Int), .int .u64 ((wd T1 3 : Nat) : Int), .int .u64 ((wd T2 0 : Nat) : Int), .int .u64 ((wd T2 1 : Nat) : Int), .int .u64 ((wd T2 2 : Nat) : Int), .int .u64 ((wd T2 3 : Nat) : Int)] 24)) = W3 at *
  generalize W2.heap.size = g3 at *
  go_wp2_with fail
  refine (join2_any T1 T2 g3 W3 hu).mono ?_
  rintro e W4 ⟨rfl, hb4⟩
  generalize ht4 : (fun x => T1 x || T2 x) = T4
  have HT4 := hide ht4.symm
  clear ht4
  unfold setV setC
  have hS4 := hS3.trans (hb4.mono hS3.size)
  clear hb4 hS3 hu
  have H4 := hide (And.intro (H0.out.1.below hS4 (by omega)) (And.intro (H0.out.2.1.below hS4 (by omega)) (H0.out.2.2.trans (hS4.mono (by omega)))))
  have hzA4 := H4.out.1.lt
  have hzB4 := H4.out.2.1.lt
  have hzC4 := hS4.size
  clear hS4
  go_wp2_with (refine wpList_store_row rfl _ _ _ rfl (w.heap.size + 1) 0 _ _ _ rfl rfl H4.out.1 Tryz.sizeSetO (by simp [setC]) (by simp [Value.oneCell']) ?_)
  intro W5 hrow2 hg9 hz9
  have hrow := hrow2.out
  rw [splice_full (by rfl)] at hrow
  have H5 := hide (And.intro (show Blk W5 (w.heap.size + 1) 24 (setC T4).toArray from hrow) (And.intro (H4.out.2.1.grown hg9 (fun e => by have := Option.some.inj e; omega)) (below_grew H4.out.2.2 hg9 (Nat.le_refl _) (fun q hq => by rw [← Option.some.inj hq]; omega))))
  have hzA5 := H5.out.1.lt
  have hzB5 := H5.out.2.1.lt
  clear hrow hrow2 hg9 hz9 H4
  go_upto_region 20 with fail
  refine wp_region_mix (fun z => Below W5.heap.size W5 z) [4] (by kernel_rfl) (fun hcl => ?_)
  have hS : Below W5.heap.size W5 W5.drew := (Below.refl _ _).drew
  refine wpAnyT_take (i := 0) hcl rfl (by kernel_rfl) (v := ?_) (fun _ _ _ h => h) hS (Or.inl ⟨rfl, fun w' hS => ?_⟩) (fun hcl => ?_)
  rotate_left
  · skip
    have cb : ∀ i : Nat, _ = _ := (H5.out.1.below hS (by omega)).cell
    simp only [setC] at cb
    go_simp
    with_reducible rfl
  simp only [List.getElem_toArray, List.getElem_cons_zero, List.getElem_cons_succ, Act.put, List.setIfInBounds_toArray, List.set_cons_zero, List.set_cons_succ]
  refine wpAnyT_step (i := 1) hcl rfl (by kernel_rfl) (fun hcl => ?_)
  simp only [List.getElem_toArray, List.getElem_cons_zero, List.getElem_cons_succ, Act.put, List.setIfInBounds_toArray, List.set_cons_zero, List.set_cons_succ]
  go_wp2_with fail
  refine (range_any 48 57 _ (by decide) (by decide)).mono ?_
  rintro e W6 ⟨rfl, hb6⟩
  generalize ht6 : (fun x => decide (48 ≤ x ∧ x ≤ 57)) = T6
  have HT6 := hide ht6.symm
  clear ht6
  unfold setV setC
  have hS6 := hS.trans (hb6.mono hS.size)
  go_wp2_with fail
  refine ⟨hS6, ?_⟩
  clear hS hb6
  refine wpAnyT_step (i := 2) hcl rfl (by kernel_rfl) (fun hcl => ?_)
  simp only [List.getElem_toArray, List.getElem_cons_zero, List.getElem_cons_succ, Act.put, List.setIfInBounds_toArray, List.set_cons_zero, List.set_cons_succ]
  go_wp2_with fail
  have hu := Blk.new W6 24 #[.int .u64 ((wd T4 0 : Nat) : Int), .int .u64 ((wd T4 1 : Nat) : Int), .int .u64 ((wd T4 2 : Nat) : Int), .int .u64 ((wd T4 3 : Nat) : Int), .int .u64 ((wd T6 0 : Nat) : Int), .int .u64 ((wd T6 1 : Nat) : Int), .int .u64 ((wd T6 2 : Nat) : Int), .int .u64 ((wd T6 3 : Nat) : Int)]
  have hbu := (Below.refl W6.heap.size W6).alloc (Nat.le_refl _) (.cells #[.int .u64 ((wd T4 0 : Nat) : Int), .int .u64 ((wd T4 1 : Nat) : Int), .int .u64 ((wd T4 2 : Nat) : Int), .int .u64 ((wd T4 3 : Nat) : Int), .int .u64 ((wd T6 0 : Nat) : Int), .int .u64 ((wd T6 1 : Nat) : Int), .int .u64 ((wd T6 2 : Nat) : Int), .int .u64 ((wd T6 3 : Nat) : Int)] 24)
  have hS7 := hS6.trans (hbu.mono hS6.size)
  clear hbu hS6
  generalize (W6.alloc (.cells #[.int .u64 ((wd T4 0 : Nat) : Int), .int .u64 ((wd T4 1 : Nat) : Int), .int .u64 ((wd T4 2 : Nat) : Int), .int .u64 ((wd T4 3 : Nat) : Int), .int .u64 ((wd T6 0 : Nat) : Int), .int .u64 ((wd T6 1 : Nat) : Int), .int .u64 ((wd T6 2 : Nat) : Int), .int .u64 ((wd T6 3 : Nat) : Int)] 24)) = W7 at *
  generalize W6.heap.size = g7 at *
  refine ⟨hS7, ?_⟩
  refine wpAnyT_step (i := 3) hcl rfl (by kernel_rfl) (fun hcl => ?_)
  simp only [List.getElem_toArray, List.getElem_cons_zero, List.getElem_cons_succ, Act.put, List.setIfInBounds_toArray, List.set_cons_zero, List.set_cons_succ]
  go_wp2_with fail
  refine (join2_any T4 T6 g7 W7 hu).mono ?_
  rintro e W8 ⟨rfl, hb8⟩
  generalize ht8 : (fun x => T4 x || T6 x) = T8
  have HT8 := hide ht8.symm
  clear ht8
  unfold setV setC
  have hS8 := hS7.trans (hb8.mono hS7.size)
  go_wp2_with fail
  refine ⟨hS8, ?_⟩
  clear hb8 hS7 hu
  have H8 := hide (And.intro (H5.out.1.below hS8 (by omega)) (And.intro (H5.out.2.1.below hS8 (by omega)) (H5.out.2.2.trans (hS8.mono (by omega)))))
  have hzA8 := H8.out.1.lt
  have hzB8 := H8.out.2.1.lt
  have hzC8 := hS8.size
  clear hS8
  refine wpAnyT_last (i := 4) hcl rfl (by kernel_rfl) (by kernel_rfl) (fun hcl => ?_)
  simp only [List.getElem_toArray, List.getElem_cons_zero, List.getElem_cons_succ, Act.put, List.setIfInBounds_toArray, List.set_cons_zero, List.set_cons_succ]
  refine wpList_store_row rfl _ _ _ rfl (w.heap.size + 1) 0 _ _ _ rfl rfl H8.out.1 Tryz.sizeSetO (by simp [setC]) (by simp [Value.oneCell']) ?_
  intro W9 hrow2 hg9 hz9
  refine wpList_nil ?_
  have hrow := hrow2.out
  rw [splice_full (by rfl)] at hrow
  have H9 := hide (And.intro (show Blk W9 (w.heap.size + 1) 24 (setC T8).toArray from hrow) (And.intro (H8.out.2.1.grown hg9 (fun e => by have := Option.some.inj e; omega)) (below_grew H8.out.2.2 hg9 (Nat.le_refl _) (fun q hq => by rw [← Option.some.inj hq]; omega))))
  have hzA9 := H9.out.1.lt
  have hzB9 := H9.out.2.1.lt
  clear hrow hrow2 hg9 hz9 H8
  refine wpAnyT_done (by kernel_rfl) ?_ _
  have cb : ∀ i : Nat, _ = _ := H9.out.1.cell
  simp only [setC] at cb
  go_wp2_with (refine wpList_store_row rfl _ _ _ rfl w.heap.size 0 _ _ _ rfl rfl H9.out.2.1 Tryz.sizeSetO (by simp) (by simp [Value.oneCell']) ?_)
  intro w9 hrow2 hg9 hz9
  have hrow := hrow2.out
  rw [splice_full (by rfl)] at hrow
  have hb9 := below_grew H9.out.2.2 hg9 (Nat.le_refl _) (fun q hq => by rw [← Option.some.inj hq]; omega)
  have HF := hide (And.intro (show Blk w9 w.heap.size 24 (setC T8).toArray from hrow) hb9)
  clear hrow hrow2 hg9 hz9 hb9 cb
  go_wp2_with fail
  have c9 : ∀ i : Nat, _ = _ := HF.out.1.cell
  simp only [setC] at c9
  refine bodyPost_ret (v := .tuple #[setV T8, .nilIface]) (by unfold setV setC; simp [results, Tryz.results149, go_sem, c9]) rfl ?_
  refine ⟨?_, HF.out.2⟩
  rw [setV_congr (S := T8) (T := (fun b => dig5 b || bt5 65 70 b || bt5 97 102 b)) (fun x hx => ?_)]
  simp only [HT0.out, HT1.out, HT2.out, HT4.out, HT6.out, HT8.out]
  revert x
  decide +kernel
set_option maxRecDepth 100000 in
set_option maxHeartbeats 4000000 in
theorem named5_digit (s : ByteArray) (hcs : s.toList = [100, 105, 103, 105, 116]) (w : World) : Calls Tryz.prog 149 #[.string s] w fun e w' => e = .returned (.tuple #[setV (fun b => dig5 b), .nilIface]) ∧ Below w.heap.size w w' := by
  have talnum : (s.toList == [97, 108, 110, 117, 109]) = false := by rw [hcs]; decide
  have talpha : (s.toList == [97, 108, 112, 104, 97]) = false := by rw [hcs]; decide
  have tlower : (s.toList == [108, 111, 119, 101, 114]) = false := by rw [hcs]; decide
  have tupper : (s.toList == [117, 112, 112, 101, 114]) = false := by rw [hcs]; decide
  have txdigit : (s.toList == [120, 100, 105, 103, 105, 116]) = false := by rw [hcs]; decide
  have tdigit : (s.toList == [100, 105, 103, 105, 116]) = true := by rw [hcs]; decide
  have tspace : (s.toList == [115, 112, 97, 99, 101]) = false := by rw [hcs]; decide
  have tblank : (s.toList == [98, 108, 97, 110, 107]) = false := by rw [hcs]; decide
  have tcntrl : (s.toList == [99, 110, 116, 114, 108]) = false := by rw [hcs]; decide
  have tprint : (s.toList == [112, 114, 105, 110, 116]) = false := by rw [hcs]; decide
  have tgraph : (s.toList == [103, 114, 97, 112, 104]) = false := by rw [hcs]; decide
  have tpunct : (s.toList == [112, 117, 110, 99, 116]) = false := by rw [hcs]; decide
  clear hcs
  have hb := ((Below.refl w.heap.size w).alloc (Nat.le_refl _) (.cells #[.int .u64 0, .int .u64 0, .int .u64 0, .int .u64 0] 24)).alloc (by simp) (.cells #[.int .u64 0, .int .u64 0, .int .u64 0, .int .u64 0] 24)
  have h1 := (Blk.new w 24 #[.int .u64 0, .int .u64 0, .int .u64 0, .int .u64 0]).alloc (.cells #[.int .u64 0, .int .u64 0, .int .u64 0, .int .u64 0] 24)
  have h3 := Blk.new (w.alloc (.cells #[.int .u64 0, .int .u64 0, .int .u64 0, .int .u64 0] 24)) 24 #[.int .u64 0, .int .u64 0, .int .u64 0, .int .u64 0]
  rw [World.size_alloc] at h3
  have hsz : w.heap.size + 1 < ((w.alloc (.cells #[.int .u64 0, .int .u64 0, .int .u64 0, .int .u64 0] 24)).alloc (.cells #[.int .u64 0, .int .u64 0, .int .u64 0, .int .u64 0] 24)).heap.size := by simp
  obtain ⟨T0, ht0⟩ : ∃ R : Nat → Bool, R = fun _ => false := ⟨_, rfl⟩
  have hz0 : (#[.int .u64 0, .int .u64 0, .int .u64 0, .int .u64 0] : Array Value) = (setC T0).toArray := by rw [ht0]; unfold setC; rw [wd_none, wd_none, wd_none, wd_none]; rfl
  have HT0 := hide ht0
  have H0 := hide (And.intro (show Blk ((w.alloc (.cells #[.int .u64 0, .int .u64 0, .int .u64 0, .int .u64 0] 24)).alloc (.cells #[.int .u64 0, .int .u64 0, .int .u64 0, .int .u64 0] 24)) (w.heap.size + 1) 24 (setC T0).toArray by rw [← hz0]; exact h3) (And.intro h1 hb))
  clear hb h1 h3 ht0 hz0
  go_enter Tryz.func149, Tryz.ntmps149
  go_upto_region 2 with fail
  generalize ((w.alloc (.cells #[.int .u64 0, .int .u64 0, .int .u64 0, .int .u64 0] 24)).alloc (.cells #[.int .u64 0, .int .u64 0, .int .u64 0, .int .u64 0] 24)) = W at *
  go_upto_region 20 with fail
  refine wp_region_mix (fun z => Below W.heap.size W z) [4] (by kernel_rfl) (fun hcl => ?_)
  have hS : Below W.heap.size W W.drew := (Below.refl _ _).drew
  refine wpAnyT_take (i := 0) hcl rfl (by kernel_rfl) (v := ?_) (fun _ _ _ h => h) hS (Or.inl ⟨rfl, fun w' hS => ?_⟩) (fun hcl => ?_)
  rotate_left
  · skip
    have cb : ∀ i : Nat, _ = _ := (H0.out.1.below hS (by omega)).cell
    simp only [setC] at cb
    go_simp
    with_reducible rfl
  simp only [List.getElem_toArray, List.getElem_cons_zero, List.getElem_cons_succ, Act.put, List.setIfInBounds_toArray, List.set_cons_zero, List.set_cons_succ]
  refine wpAnyT_step (i := 1) hcl rfl (by kernel_rfl) (fun hcl => ?_)
  simp only [List.getElem_toArray, List.getElem_cons_zero, List.getElem_cons_succ, Act.put, List.setIfInBounds_toArray, List.set_cons_zero, List.set_cons_succ]
  go_wp2_with fail
  refine (range_any 48 57 _ (by decide) (by decide)).mono ?_
  rintro e W1 ⟨rfl, hb1⟩
  generalize ht1 : (fun x => decide (48 ≤ x ∧ x ≤ 57)) = T1
  have HT1 := hide ht1.symm
  clear ht1
  unfold setV setC
  have hS1 := hS.trans (hb1.mono hS.size)
  go_wp2_with fail
  refine ⟨hS1, ?_⟩
  clear hS hb1
  refine wpAnyT_step (i := 2) hcl rfl (by kernel_rfl) (fun hcl => ?_)
  simp only [List.getElem_toArray, List.getElem_cons_zero, List.getElem_cons_succ, Act.put, List.setIfInBounds_toArray, List.set_cons_zero, List.set_cons_succ]
  go_wp2_with fail
  have hu := Blk.new W1 24 #[.int .u64 ((wd T0 0 : Nat) : Int), .int .u64 ((wd T0 1 : Nat) : Int), .int .u64 ((wd T0 2 : Nat) : Int), .int .u64 ((wd T0 3 : Nat) : Int), .int .u64 ((wd T1 0 : Nat) : Int), .int .u64 ((wd T1 1 : Nat) : Int), .int .u64 ((wd T1 2 : Nat) : Int), .int .u64 ((wd T1 3 : Nat) : Int)]
  have hbu := (Below.refl W1.heap.size W1).alloc (Nat.le_refl _) (.cells #[.int .u64 ((wd T0 0 : Nat) : Int), .int .u64 ((wd T0 1 : Nat) : Int), .int .u64 ((wd T0 2 : Nat) : Int), .int .u64 ((wd T0 3 : Nat) : Int), .int .u64 ((wd T1 0 : Nat) : Int), .int .u64 ((wd T1 1 : Nat) : Int), .int .u64 ((wd T1 2 : Nat) : Int), .int .u64 ((wd T1 3 : Nat) : Int)] 24)
  have hS2 := hS1.trans (hbu.mono hS1.size)
  clear hbu hS1
  generalize (W1.alloc (.cells #[.int .u64 ((wd T0 0 : Nat) : Int), .int .u64 ((wd T0 1 : Nat) : Int), .int .u64 ((wd T0 2 : Nat) : Int), .int .u64 ((wd T0 3 : Nat) : Int), .int .u64 ((wd T1 0 : Nat) : Int), .int .u64 ((wd T1 1 : Nat) : Int), .int .u64 ((wd T1 2 : Nat) : Int), .int .u64 ((wd T1 3 : Nat) : Int)] 24)) = W2 at *
  generalize W1.heap.size = g2 at *
  refine ⟨hS2, ?_⟩
  refine wpAnyT_step (i := 3) hcl rfl (by kernel_rfl) (fun hcl => ?_)
  simp only [List.getElem_toArray, List.getElem_cons_zero, List.getElem_cons_succ, Act.put, List.setIfInBounds_toArray, List.set_cons_zero, List.set_cons_succ]
  go_wp2_with fail
  refine (join2_any T0 T1 g2 W2 hu).mono ?_
  rintro e W3 ⟨rfl, hb3⟩
  generalize ht3 : (fun x => T0 x || T1 x) = T3
  have HT3 := hide ht3.symm
  clear ht3
  unfold setV setC
  have hS3 := hS2.trans (hb3.mono hS2.size)
  go_wp2_with fail
  refine ⟨hS3, ?_⟩
  clear hb3 hS2 hu
  have H3 := hide (And.intro (H0.out.1.below hS3 (by omega)) (And.intro (H0.out.2.1.below hS3 (by omega)) (H0.out.2.2.trans (hS3.mono (by omega)))))
  have hzA3 := H3.out.1.lt
  have hzB3 := H3.out.2.1.lt
  have hzC3 := hS3.size
  clear hS3
  refine wpAnyT_last (i := 4) hcl rfl (by kernel_rfl) (by kernel_rfl) (fun hcl => ?_)
  simp only [List.getElem_toArray, List.getElem_cons_zero, List.getElem_cons_succ, Act.put, List.setIfInBounds_toArray, List.set_cons_zero, List.set_cons_succ]
  refine wpList_store_row rfl _ _ _ rfl (w.heap.size + 1) 0 _ _ _ rfl rfl H3.out.1 Tryz.sizeSetO (by simp [setC]) (by simp [Value.oneCell']) ?_
  intro W4 hrow2 hg9 hz9
  refine wpList_nil ?_
  have hrow := hrow2.out
  rw [splice_full (by rfl)] at hrow
  have H4 := hide (And.intro (show Blk W4 (w.heap.size + 1) 24 (setC T3).toArray from hrow) (And.intro (H3.out.2.1.grown hg9 (fun e => by have := Option.some.inj e; omega)) (below_grew H3.out.2.2 hg9 (Nat.le_refl _) (fun q hq => by rw [← Option.some.inj hq]; omega))))
  have hzA4 := H4.out.1.lt
  have hzB4 := H4.out.2.1.lt
  clear hrow hrow2 hg9 hz9 H3
  refine wpAnyT_done (by kernel_rfl) ?_ _
  have cb : ∀ i : Nat, _ = _ := H4.out.1.cell
  simp only [setC] at cb
  go_wp2_with (refine wpList_store_row rfl _ _ _ rfl w.heap.size 0 _ _ _ rfl rfl H4.out.2.1 Tryz.sizeSetO (by simp) (by simp [Value.oneCell']) ?_)
  intro w9 hrow2 hg9 hz9
  have hrow := hrow2.out
  rw [splice_full (by rfl)] at hrow
  have hb9 := below_grew H4.out.2.2 hg9 (Nat.le_refl _) (fun q hq => by rw [← Option.some.inj hq]; omega)
  have HF := hide (And.intro (show Blk w9 w.heap.size 24 (setC T3).toArray from hrow) hb9)
  clear hrow hrow2 hg9 hz9 hb9 cb
  go_wp2_with fail
  have c9 : ∀ i : Nat, _ = _ := HF.out.1.cell
  simp only [setC] at c9
  refine bodyPost_ret (v := .tuple #[setV T3, .nilIface]) (by unfold setV setC; simp [results, Tryz.results149, go_sem, c9]) rfl ?_
  refine ⟨?_, HF.out.2⟩
  rw [setV_congr (S := T3) (T := (fun b => dig5 b)) (fun x hx => ?_)]
  simp only [HT0.out, HT1.out, HT3.out]
  revert x
  decide +kernel
set_option maxRecDepth 100000 in
set_option maxHeartbeats 4000000 in
theorem named5_space (s : ByteArray) (hcs : s.toList = [115, 112, 97, 99, 101]) (w : World) : Calls Tryz.prog 149 #[.string s] w fun e w' => e = .returned (.tuple #[setV (fun b => bt5 9 13 b || decide (b = 32)), .nilIface]) ∧ Below w.heap.size w w' := by
  have talnum : (s.toList == [97, 108, 110, 117, 109]) = false := by rw [hcs]; decide
  have talpha : (s.toList == [97, 108, 112, 104, 97]) = false := by rw [hcs]; decide
  have tlower : (s.toList == [108, 111, 119, 101, 114]) = false := by rw [hcs]; decide
  have tupper : (s.toList == [117, 112, 112, 101, 114]) = false := by rw [hcs]; decide
  have txdigit : (s.toList == [120, 100, 105, 103, 105, 116]) = false := by rw [hcs]; decide
  have tdigit : (s.toList == [100, 105, 103, 105, 116]) = false := by rw [hcs]; decide
  have tspace : (s.toList == [115, 112, 97, 99, 101]) = true := by rw [hcs]; decide
  have tblank : (s.toList == [98, 108, 97, 110, 107]) = false := by rw [hcs]; decide
  have tcntrl : (s.toList == [99, 110, 116, 114, 108]) = false := by rw [hcs]; decide
  have tprint : (s.toList == [112, 114, 105, 110, 116]) = false := by rw [hcs]; decide
  have tgraph : (s.toList == [103, 114, 97, 112, 104]) = false := by rw [hcs]; decide
  have tpunct : (s.toList == [112, 117, 110, 99, 116]) = false := by rw [hcs]; decide
  clear hcs
  have hb := ((Below.refl w.heap.size w).alloc (Nat.le_refl _) (.cells #[.int .u64 0, .int .u64 0, .int .u64 0, .int .u64 0] 24)).alloc (by simp) (.cells #[.int .u64 0, .int .u64 0, .int .u64 0, .int .u64 0] 24)
  have h1 := (Blk.new w 24 #[.int .u64 0, .int .u64 0, .int .u64 0, .int .u64 0]).alloc (.cells #[.int .u64 0, .int .u64 0, .int .u64 0, .int .u64 0] 24)
  have h3 := Blk.new (w.alloc (.cells #[.int .u64 0, .int .u64 0, .int .u64 0, .int .u64 0] 24)) 24 #[.int .u64 0, .int .u64 0, .int .u64 0, .int .u64 0]
  rw [World.size_alloc] at h3
  have hsz : w.heap.size + 1 < ((w.alloc (.cells #[.int .u64 0, .int .u64 0, .int .u64 0, .int .u64 0] 24)).alloc (.cells #[.int .u64 0, .int .u64 0, .int .u64 0, .int .u64 0] 24)).heap.size := by simp
  obtain ⟨T0, ht0⟩ : ∃ R : Nat → Bool, R = fun _ => false := ⟨_, rfl⟩
  have hz0 : (#[.int .u64 0, .int .u64 0, .int .u64 0, .int .u64 0] : Array Value) = (setC T0).toArray := by rw [ht0]; unfold setC; rw [wd_none, wd_none, wd_none, wd_none]; rfl
  have HT0 := hide ht0
  have H0 := hide (And.intro (show Blk ((w.alloc (.cells #[.int .u64 0, .int .u64 0, .int .u64 0, .int .u64 0] 24)).alloc (.cells #[.int .u64 0, .int .u64 0, .int .u64 0, .int .u64 0] 24)) (w.heap.size + 1) 24 (setC T0).toArray by rw [← hz0]; exact h3) (And.intro h1 hb))
  clear hb h1 h3 ht0 hz0
  go_enter Tryz.func149, Tryz.ntmps149
  go_upto_region 2 with fail
  generalize ((w.alloc (.cells #[.int .u64 0, .int .u64 0, .int .u64 0, .int .u64 0] 24)).alloc (.cells #[.int .u64 0, .int .u64 0, .int .u64 0, .int .u64 0] 24)) = W at *
  go_wp2_with fail
  refine (range_any 10 13 W (by decide) (by decide)).mono ?_
  rintro e W1 ⟨rfl, hb1⟩
  generalize ht1 : (fun x => decide (10 ≤ x ∧ x ≤ 13)) = T1
  have HT1 := hide ht1.symm
  clear ht1
  unfold setV setC
  have H1 := hide (And.intro (H0.out.1.below hb1 (by omega)) (And.intro (H0.out.2.1.below hb1 (by omega)) (H0.out.2.2.trans (hb1.mono (by omega)))))
  have hzA1 := H1.out.1.lt
  have hzB1 := H1.out.2.1.lt
  have hzC1 := hb1.size
  clear hb1
  go_wp2_with (refine wpList_store_row rfl _ _ _ rfl (w.heap.size + 1) 0 _ _ _ rfl rfl H1.out.1 Tryz.sizeSetO (by simp [setC]) (by simp [Value.oneCell']) ?_)
  intro W2 hrow2 hg9 hz9
  have hrow := hrow2.out
  rw [splice_full (by rfl)] at hrow
  have H2 := hide (And.intro (show Blk W2 (w.heap.size + 1) 24 (setC T1).toArray from hrow) (And.intro (H1.out.2.1.grown hg9 (fun e => by have := Option.some.inj e; omega)) (below_grew H1.out.2.2 hg9 (Nat.le_refl _) (fun q hq => by rw [← Option.some.inj hq]; omega))))
  have hzA2 := H2.out.1.lt
  have hzB2 := H2.out.2.1.lt
  clear hrow hrow2 hg9 hz9 H1
  go_upto_region 22 with fail
  refine wp_region_mix (fun z => Below W2.heap.size W2 z) [5] (by kernel_rfl) (fun hcl => ?_)
  have hS : Below W2.heap.size W2 W2.drew := (Below.refl _ _).drew
  refine wpAnyT_take (i := 0) hcl rfl (by kernel_rfl) (v := ?_) (fun _ _ _ h => h) hS (Or.inl ⟨rfl, fun w' hS => ?_⟩) (fun hcl => ?_)
  rotate_left
  · skip
    have cb : ∀ i : Nat, _ = _ := (H2.out.1.below hS (by omega)).cell
    simp only [setC] at cb
    go_simp
    with_reducible rfl
  simp only [List.getElem_toArray, List.getElem_cons_zero, List.getElem_cons_succ, Act.put, List.setIfInBounds_toArray, List.set_cons_zero, List.set_cons_succ]
  refine wpAnyT_step (i := 1) hcl rfl (by kernel_rfl) (fun hcl => ?_)
  simp only [List.getElem_toArray, List.getElem_cons_zero, List.getElem_cons_succ, Act.put, List.setIfInBounds_toArray, List.set_cons_zero, List.set_cons_succ]
  go_wp2_with fail
  have hu : Blk (W2.alloc (.cells #[.int .u8 9, .int .u8 32] 5)).drew W2.heap.size 5 #[.int .u8 9, .int .u8 32] := Blk.new W2.drew 5 #[.int .u8 9, .int .u8 32]
  have hS3 : Below W2.heap.size W2 (W2.alloc (.cells #[.int .u8 9, .int .u8 32] 5)).drew := ((Below.refl W2.heap.size W2).alloc (Nat.le_refl _) (.cells #[.int .u8 9, .int .u8 32] 5)).drew
  generalize (W2.alloc (.cells #[.int .u8 9, .int .u8 32] 5)).drew = W3 at *
  refine ⟨hS3, ?_⟩
  clear hS
  refine wpAnyT_step (i := 2) hcl rfl (by kernel_rfl) (fun hcl => ?_)
  simp only [List.getElem_toArray, List.getElem_cons_zero, List.getElem_cons_succ, Act.put, List.setIfInBounds_toArray, List.set_cons_zero, List.set_cons_succ]
  go_wp2_with fail
  refine (of2_any 9 32 _ W3 (by decide) (by decide) hu).mono ?_
  rintro e W4 ⟨rfl, hb4⟩
  generalize ht4 : (fun x => decide (x = 9) || decide (x = 32)) = T4
  have HT4 := hide ht4.symm
  clear ht4
  unfold setV setC
  have hS4 := hS3.trans (hb4.mono hS3.size)
  go_wp2_with fail
  refine ⟨hS4, ?_⟩
  clear hS3 hb4 hu
  refine wpAnyT_step (i := 3) hcl rfl (by kernel_rfl) (fun hcl => ?_)
  simp only [List.getElem_toArray, List.getElem_cons_zero, List.getElem_cons_succ, Act.put, List.setIfInBounds_toArray, List.set_cons_zero, List.set_cons_succ]
  go_wp2_with fail
  have hu := Blk.new W4 24 #[.int .u64 ((wd T1 0 : Nat) : Int), .int .u64 ((wd T1 1 : Nat) : Int), .int .u64 ((wd T1 2 : Nat) : Int), .int .u64 ((wd T1 3 : Nat) : Int), .int .u64 ((wd T4 0 : Nat) : Int), .int .u64 ((wd T4 1 : Nat) : Int), .int .u64 ((wd T4 2 : Nat) : Int), .int .u64 ((wd T4 3 : Nat) : Int)]
  have hbu := (Below.refl W4.heap.size W4).alloc (Nat.le_refl _) (.cells #[.int .u64 ((wd T1 0 : Nat) : Int), .int .u64 ((wd T1 1 : Nat) : Int), .int .u64 ((wd T1 2 : Nat) : Int), .int .u64 ((wd T1 3 : Nat) : Int), .int .u64 ((wd T4 0 : Nat) : Int), .int .u64 ((wd T4 1 : Nat) : Int), .int .u64 ((wd T4 2 : Nat) : Int), .int .u64 ((wd T4 3 : Nat) : Int)] 24)
  have hS5 := hS4.trans (hbu.mono hS4.size)
  clear hbu hS4
  generalize (W4.alloc (.cells #[.int .u64 ((wd T1 0 : Nat) : Int), .int .u64 ((wd T1 1 : Nat) : Int), .int .u64 ((wd T1 2 : Nat) : Int), .int .u64 ((wd T1 3 : Nat) : Int), .int .u64 ((wd T4 0 : Nat) : Int), .int .u64 ((wd T4 1 : Nat) : Int), .int .u64 ((wd T4 2 : Nat) : Int), .int .u64 ((wd T4 3 : Nat) : Int)] 24)) = W5 at *
  generalize W4.heap.size = g5 at *
  refine ⟨hS5, ?_⟩
  refine wpAnyT_step (i := 4) hcl rfl (by kernel_rfl) (fun hcl => ?_)
  simp only [List.getElem_toArray, List.getElem_cons_zero, List.getElem_cons_succ, Act.put, List.setIfInBounds_toArray, List.set_cons_zero, List.set_cons_succ]
  go_wp2_with fail
  refine (join2_any T1 T4 g5 W5 hu).mono ?_
  rintro e W6 ⟨rfl, hb6⟩
  generalize ht6 : (fun x => T1 x || T4 x) = T6
  have HT6 := hide ht6.symm
  clear ht6
  unfold setV setC
  have hS6 := hS5.trans (hb6.mono hS5.size)
  go_wp2_with fail
  refine ⟨hS6, ?_⟩
  clear hb6 hS5 hu
  have H6 := hide (And.intro (H2.out.1.below hS6 (by omega)) (And.intro (H2.out.2.1.below hS6 (by omega)) (H2.out.2.2.trans (hS6.mono (by omega)))))
  have hzA6 := H6.out.1.lt
  have hzB6 := H6.out.2.1.lt
  have hzC6 := hS6.size
  clear hS6
  refine wpAnyT_last (i := 5) hcl rfl (by kernel_rfl) (by kernel_rfl) (fun hcl => ?_)
  simp only [List.getElem_toArray, List.getElem_cons_zero, List.getElem_cons_succ, Act.put, List.setIfInBounds_toArray, List.set_cons_zero, List.set_cons_succ]
  refine wpList_store_row rfl _ _ _ rfl (w.heap.size + 1) 0 _ _ _ rfl rfl H6.out.1 Tryz.sizeSetO (by simp [setC]) (by simp [Value.oneCell']) ?_
  intro W7 hrow2 hg9 hz9
  refine wpList_nil ?_
  have hrow := hrow2.out
  rw [splice_full (by rfl)] at hrow
  have H7 := hide (And.intro (show Blk W7 (w.heap.size + 1) 24 (setC T6).toArray from hrow) (And.intro (H6.out.2.1.grown hg9 (fun e => by have := Option.some.inj e; omega)) (below_grew H6.out.2.2 hg9 (Nat.le_refl _) (fun q hq => by rw [← Option.some.inj hq]; omega))))
  have hzA7 := H7.out.1.lt
  have hzB7 := H7.out.2.1.lt
  clear hrow hrow2 hg9 hz9 H6
  refine wpAnyT_done (by kernel_rfl) ?_ _
  have cb : ∀ i : Nat, _ = _ := H7.out.1.cell
  simp only [setC] at cb
  go_wp2_with (refine wpList_store_row rfl _ _ _ rfl w.heap.size 0 _ _ _ rfl rfl H7.out.2.1 Tryz.sizeSetO (by simp) (by simp [Value.oneCell']) ?_)
  intro w9 hrow2 hg9 hz9
  have hrow := hrow2.out
  rw [splice_full (by rfl)] at hrow
  have hb9 := below_grew H7.out.2.2 hg9 (Nat.le_refl _) (fun q hq => by rw [← Option.some.inj hq]; omega)
  have HF := hide (And.intro (show Blk w9 w.heap.size 24 (setC T6).toArray from hrow) hb9)
  clear hrow hrow2 hg9 hz9 hb9 cb
  go_wp2_with fail
  have c9 : ∀ i : Nat, _ = _ := HF.out.1.cell
  simp only [setC] at c9
  refine bodyPost_ret (v := .tuple #[setV T6, .nilIface]) (by unfold setV setC; simp [results, Tryz.results149, go_sem, c9]) rfl ?_
  refine ⟨?_, HF.out.2⟩
  rw [setV_congr (S := T6) (T := (fun b => bt5 9 13 b || decide (b = 32))) (fun x hx => ?_)]
  simp only [HT0.out, HT1.out, HT4.out, HT6.out]
  revert x
  decide +kernel
set_option maxRecDepth 100000 in
set_option maxHeartbeats 4000000 in
theorem named5_blank (s : ByteArray) (hcs : s.toList = [98, 108, 97, 110, 107]) (w : World) : Calls Tryz.prog 149 #[.string s] w fun e w' => e = .returned (.tuple #[setV (fun b => decide (b = 9) || decide (b = 32)), .nilIface]) ∧ Below w.heap.size w w' := by
  have talnum : (s.toList == [97, 108, 110, 117, 109]) = false := by rw [hcs]; decide
  have talpha : (s.toList == [97, 108, 112, 104, 97]) = false := by rw [hcs]; decide
  have tlower : (s.toList == [108, 111, 119, 101, 114]) = false := by rw [hcs]; decide
  have tupper : (s.toList == [117, 112, 112, 101, 114]) = false := by rw [hcs]; decide
  have txdigit : (s.toList == [120, 100, 105, 103, 105, 116]) = false := by rw [hcs]; decide
  have tdigit : (s.toList == [100, 105, 103, 105, 116]) = false := by rw [hcs]; decide
  have tspace : (s.toList == [115, 112, 97, 99, 101]) = false := by rw [hcs]; decide
  have tblank : (s.toList == [98, 108, 97, 110, 107]) = true := by rw [hcs]; decide
  have tcntrl : (s.toList == [99, 110, 116, 114, 108]) = false := by rw [hcs]; decide
  have tprint : (s.toList == [112, 114, 105, 110, 116]) = false := by rw [hcs]; decide
  have tgraph : (s.toList == [103, 114, 97, 112, 104]) = false := by rw [hcs]; decide
  have tpunct : (s.toList == [112, 117, 110, 99, 116]) = false := by rw [hcs]; decide
  clear hcs
  have hb := ((Below.refl w.heap.size w).alloc (Nat.le_refl _) (.cells #[.int .u64 0, .int .u64 0, .int .u64 0, .int .u64 0] 24)).alloc (by simp) (.cells #[.int .u64 0, .int .u64 0, .int .u64 0, .int .u64 0] 24)
  have h1 := (Blk.new w 24 #[.int .u64 0, .int .u64 0, .int .u64 0, .int .u64 0]).alloc (.cells #[.int .u64 0, .int .u64 0, .int .u64 0, .int .u64 0] 24)
  have h3 := Blk.new (w.alloc (.cells #[.int .u64 0, .int .u64 0, .int .u64 0, .int .u64 0] 24)) 24 #[.int .u64 0, .int .u64 0, .int .u64 0, .int .u64 0]
  rw [World.size_alloc] at h3
  have hsz : w.heap.size + 1 < ((w.alloc (.cells #[.int .u64 0, .int .u64 0, .int .u64 0, .int .u64 0] 24)).alloc (.cells #[.int .u64 0, .int .u64 0, .int .u64 0, .int .u64 0] 24)).heap.size := by simp
  obtain ⟨T0, ht0⟩ : ∃ R : Nat → Bool, R = fun _ => false := ⟨_, rfl⟩
  have hz0 : (#[.int .u64 0, .int .u64 0, .int .u64 0, .int .u64 0] : Array Value) = (setC T0).toArray := by rw [ht0]; unfold setC; rw [wd_none, wd_none, wd_none, wd_none]; rfl
  have HT0 := hide ht0
  have H0 := hide (And.intro (show Blk ((w.alloc (.cells #[.int .u64 0, .int .u64 0, .int .u64 0, .int .u64 0] 24)).alloc (.cells #[.int .u64 0, .int .u64 0, .int .u64 0, .int .u64 0] 24)) (w.heap.size + 1) 24 (setC T0).toArray by rw [← hz0]; exact h3) (And.intro h1 hb))
  clear hb h1 h3 ht0 hz0
  go_enter Tryz.func149, Tryz.ntmps149
  go_upto_region 2 with fail
  generalize ((w.alloc (.cells #[.int .u64 0, .int .u64 0, .int .u64 0, .int .u64 0] 24)).alloc (.cells #[.int .u64 0, .int .u64 0, .int .u64 0, .int .u64 0] 24)) = W at *
  go_upto_region 22 with fail
  refine wp_region_mix (fun z => Below W.heap.size W z) [5] (by kernel_rfl) (fun hcl => ?_)
  have hS : Below W.heap.size W W.drew := (Below.refl _ _).drew
  refine wpAnyT_take (i := 0) hcl rfl (by kernel_rfl) (v := ?_) (fun _ _ _ h => h) hS (Or.inl ⟨rfl, fun w' hS => ?_⟩) (fun hcl => ?_)
  rotate_left
  · skip
    have cb : ∀ i : Nat, _ = _ := (H0.out.1.below hS (by omega)).cell
    simp only [setC] at cb
    go_simp
    with_reducible rfl
  simp only [List.getElem_toArray, List.getElem_cons_zero, List.getElem_cons_succ, Act.put, List.setIfInBounds_toArray, List.set_cons_zero, List.set_cons_succ]
  refine wpAnyT_step (i := 1) hcl rfl (by kernel_rfl) (fun hcl => ?_)
  simp only [List.getElem_toArray, List.getElem_cons_zero, List.getElem_cons_succ, Act.put, List.setIfInBounds_toArray, List.set_cons_zero, List.set_cons_succ]
  go_wp2_with fail
  have hu : Blk (W.alloc (.cells #[.int .u8 9, .int .u8 32] 5)).drew W.heap.size 5 #[.int .u8 9, .int .u8 32] := Blk.new W.drew 5 #[.int .u8 9, .int .u8 32]
  have hS1 : Below W.heap.size W (W.alloc (.cells #[.int .u8 9, .int .u8 32] 5)).drew := ((Below.refl W.heap.size W).alloc (Nat.le_refl _) (.cells #[.int .u8 9, .int .u8 32] 5)).drew
  generalize (W.alloc (.cells #[.int .u8 9, .int .u8 32] 5)).drew = W1 at *
  refine ⟨hS1, ?_⟩
  clear hS
  refine wpAnyT_step (i := 2) hcl rfl (by kernel_rfl) (fun hcl => ?_)
  simp only [List.getElem_toArray, List.getElem_cons_zero, List.getElem_cons_succ, Act.put, List.setIfInBounds_toArray, List.set_cons_zero, List.set_cons_succ]
  go_wp2_with fail
  refine (of2_any 9 32 _ W1 (by decide) (by decide) hu).mono ?_
  rintro e W2 ⟨rfl, hb2⟩
  generalize ht2 : (fun x => decide (x = 9) || decide (x = 32)) = T2
  have HT2 := hide ht2.symm
  clear ht2
  unfold setV setC
  have hS2 := hS1.trans (hb2.mono hS1.size)
  go_wp2_with fail
  refine ⟨hS2, ?_⟩
  clear hS1 hb2 hu
  refine wpAnyT_step (i := 3) hcl rfl (by kernel_rfl) (fun hcl => ?_)
  simp only [List.getElem_toArray, List.getElem_cons_zero, List.getElem_cons_succ, Act.put, List.setIfInBounds_toArray, List.set_cons_zero, List.set_cons_succ]
  go_wp2_with fail
  have hu := Blk.new W2 24 #[.int .u64 ((wd T0 0 : Nat) : Int), .int .u64 ((wd T0 1 : Nat) : Int), .int .u64 ((wd T0 2 : Nat) : Int), .int .u64 ((wd T0 3 : Nat) : Int), .int .u64 ((wd T2 0 : Nat) : Int), .int .u64 ((wd T2 1 : Nat) : Int), .int .u64 ((wd T2 2 : Nat) : Int), .int .u64 ((wd T2 3 : Nat) : Int)]
  have hbu := (Below.refl W2.heap.size W2).alloc (Nat.le_refl _) (.cells #[.int .u64 ((wd T0 0 : Nat) : Int), .int .u64 ((wd T0 1 : Nat) : Int), .int .u64 ((wd T0 2 : Nat) : Int), .int .u64 ((wd T0 3 : Nat) : Int), .int .u64 ((wd T2 0 : Nat) : Int), .int .u64 ((wd T2 1 : Nat) : Int), .int .u64 ((wd T2 2 : Nat) : Int), .int .u64 ((wd T2 3 : Nat) : Int)] 24)
  have hS3 := hS2.trans (hbu.mono hS2.size)
  clear hbu hS2
  generalize (W2.alloc (.cells #[.int .u64 ((wd T0 0 : Nat) : Int), .int .u64 ((wd T0 1 : Nat) : Int), .int .u64 ((wd T0 2 : Nat) : Int), .int .u64 ((wd T0 3 : Nat) : Int), .int .u64 ((wd T2 0 : Nat) : Int), .int .u64 ((wd T2 1 : Nat) : Int), .int .u64 ((wd T2 2 : Nat) : Int), .int .u64 ((wd T2 3 : Nat) : Int)] 24)) = W3 at *
  generalize W2.heap.size = g3 at *
  refine ⟨hS3, ?_⟩
  refine wpAnyT_step (i := 4) hcl rfl (by kernel_rfl) (fun hcl => ?_)
  simp only [List.getElem_toArray, List.getElem_cons_zero, List.getElem_cons_succ, Act.put, List.setIfInBounds_toArray, List.set_cons_zero, List.set_cons_succ]
  go_wp2_with fail
  refine (join2_any T0 T2 g3 W3 hu).mono ?_
  rintro e W4 ⟨rfl, hb4⟩
  generalize ht4 : (fun x => T0 x || T2 x) = T4
  have HT4 := hide ht4.symm
  clear ht4
  unfold setV setC
  have hS4 := hS3.trans (hb4.mono hS3.size)
  go_wp2_with fail
  refine ⟨hS4, ?_⟩
  clear hb4 hS3 hu
  have H4 := hide (And.intro (H0.out.1.below hS4 (by omega)) (And.intro (H0.out.2.1.below hS4 (by omega)) (H0.out.2.2.trans (hS4.mono (by omega)))))
  have hzA4 := H4.out.1.lt
  have hzB4 := H4.out.2.1.lt
  have hzC4 := hS4.size
  clear hS4
  refine wpAnyT_last (i := 5) hcl rfl (by kernel_rfl) (by kernel_rfl) (fun hcl => ?_)
  simp only [List.getElem_toArray, List.getElem_cons_zero, List.getElem_cons_succ, Act.put, List.setIfInBounds_toArray, List.set_cons_zero, List.set_cons_succ]
  refine wpList_store_row rfl _ _ _ rfl (w.heap.size + 1) 0 _ _ _ rfl rfl H4.out.1 Tryz.sizeSetO (by simp [setC]) (by simp [Value.oneCell']) ?_
  intro W5 hrow2 hg9 hz9
  refine wpList_nil ?_
  have hrow := hrow2.out
  rw [splice_full (by rfl)] at hrow
  have H5 := hide (And.intro (show Blk W5 (w.heap.size + 1) 24 (setC T4).toArray from hrow) (And.intro (H4.out.2.1.grown hg9 (fun e => by have := Option.some.inj e; omega)) (below_grew H4.out.2.2 hg9 (Nat.le_refl _) (fun q hq => by rw [← Option.some.inj hq]; omega))))
  have hzA5 := H5.out.1.lt
  have hzB5 := H5.out.2.1.lt
  clear hrow hrow2 hg9 hz9 H4
  refine wpAnyT_done (by kernel_rfl) ?_ _
  have cb : ∀ i : Nat, _ = _ := H5.out.1.cell
  simp only [setC] at cb
  go_wp2_with (refine wpList_store_row rfl _ _ _ rfl w.heap.size 0 _ _ _ rfl rfl H5.out.2.1 Tryz.sizeSetO (by simp) (by simp [Value.oneCell']) ?_)
  intro w9 hrow2 hg9 hz9
  have hrow := hrow2.out
  rw [splice_full (by rfl)] at hrow
  have hb9 := below_grew H5.out.2.2 hg9 (Nat.le_refl _) (fun q hq => by rw [← Option.some.inj hq]; omega)
  have HF := hide (And.intro (show Blk w9 w.heap.size 24 (setC T4).toArray from hrow) hb9)
  clear hrow hrow2 hg9 hz9 hb9 cb
  go_wp2_with fail
  have c9 : ∀ i : Nat, _ = _ := HF.out.1.cell
  simp only [setC] at c9
  refine bodyPost_ret (v := .tuple #[setV T4, .nilIface]) (by unfold setV setC; simp [results, Tryz.results149, go_sem, c9]) rfl ?_
  refine ⟨?_, HF.out.2⟩
  rw [setV_congr (S := T4) (T := (fun b => decide (b = 9) || decide (b = 32))) (fun x hx => ?_)]
  simp only [HT0.out, HT2.out, HT4.out]
  revert x
  decide +kernel
set_option maxRecDepth 100000 in
set_option maxHeartbeats 4000000 in
theorem named5_cntrl (s : ByteArray) (hcs : s.toList = [99, 110, 116, 114, 108]) (w : World) : Calls Tryz.prog 149 #[.string s] w fun e w' => e = .returned (.tuple #[setV (fun b => bt5 0 31 b || decide (b = 127)), .nilIface]) ∧ Below w.heap.size w w' := by
  have talnum : (s.toList == [97, 108, 110, 117, 109]) = false := by rw [hcs]; decide
  have talpha : (s.toList == [97, 108, 112, 104, 97]) = false := by rw [hcs]; decide
  have tlower : (s.toList == [108, 111, 119, 101, 114]) = false := by rw [hcs]; decide
  have tupper : (s.toList == [117, 112, 112, 101, 114]) = false := by rw [hcs]; decide
  have txdigit : (s.toList == [120, 100, 105, 103, 105, 116]) = false := by rw [hcs]; decide
  have tdigit : (s.toList == [100, 105, 103, 105, 116]) = false := by rw [hcs]; decide
  have tspace : (s.toList == [115, 112, 97, 99, 101]) = false := by rw [hcs]; decide
  have tblank : (s.toList == [98, 108, 97, 110, 107]) = false := by rw [hcs]; decide
  have tcntrl : (s.toList == [99, 110, 116, 114, 108]) = true := by rw [hcs]; decide
  have tprint : (s.toList == [112, 114, 105, 110, 116]) = false := by rw [hcs]; decide
  have tgraph : (s.toList == [103, 114, 97, 112, 104]) = false := by rw [hcs]; decide
  have tpunct : (s.toList == [112, 117, 110, 99, 116]) = false := by rw [hcs]; decide
  clear hcs
  have hb := ((Below.refl w.heap.size w).alloc (Nat.le_refl _) (.cells #[.int .u64 0, .int .u64 0, .int .u64 0, .int .u64 0] 24)).alloc (by simp) (.cells #[.int .u64 0, .int .u64 0, .int .u64 0, .int .u64 0] 24)
  have h1 := (Blk.new w 24 #[.int .u64 0, .int .u64 0, .int .u64 0, .int .u64 0]).alloc (.cells #[.int .u64 0, .int .u64 0, .int .u64 0, .int .u64 0] 24)
  have h3 := Blk.new (w.alloc (.cells #[.int .u64 0, .int .u64 0, .int .u64 0, .int .u64 0] 24)) 24 #[.int .u64 0, .int .u64 0, .int .u64 0, .int .u64 0]
  rw [World.size_alloc] at h3
  have hsz : w.heap.size + 1 < ((w.alloc (.cells #[.int .u64 0, .int .u64 0, .int .u64 0, .int .u64 0] 24)).alloc (.cells #[.int .u64 0, .int .u64 0, .int .u64 0, .int .u64 0] 24)).heap.size := by simp
  obtain ⟨T0, ht0⟩ : ∃ R : Nat → Bool, R = fun _ => false := ⟨_, rfl⟩
  have hz0 : (#[.int .u64 0, .int .u64 0, .int .u64 0, .int .u64 0] : Array Value) = (setC T0).toArray := by rw [ht0]; unfold setC; rw [wd_none, wd_none, wd_none, wd_none]; rfl
  have HT0 := hide ht0
  have H0 := hide (And.intro (show Blk ((w.alloc (.cells #[.int .u64 0, .int .u64 0, .int .u64 0, .int .u64 0] 24)).alloc (.cells #[.int .u64 0, .int .u64 0, .int .u64 0, .int .u64 0] 24)) (w.heap.size + 1) 24 (setC T0).toArray by rw [← hz0]; exact h3) (And.intro h1 hb))
  clear hb h1 h3 ht0 hz0
  go_enter Tryz.func149, Tryz.ntmps149
  go_upto_region 2 with fail
  generalize ((w.alloc (.cells #[.int .u64 0, .int .u64 0, .int .u64 0, .int .u64 0] 24)).alloc (.cells #[.int .u64 0, .int .u64 0, .int .u64 0, .int .u64 0] 24)) = W at *
  go_wp2_with fail
  refine (range_any 0 31 W (by decide) (by decide)).mono ?_
  rintro e W1 ⟨rfl, hb1⟩
  generalize ht1 : (fun x => decide (0 ≤ x ∧ x ≤ 31)) = T1
  have HT1 := hide ht1.symm
  clear ht1
  unfold setV setC
  go_wp2_with fail
  have hu : Blk (W1.alloc (.cells #[.int .u8 127] 5)) W1.heap.size 5 #[.int .u8 127] := Blk.new W1 5 #[.int .u8 127]
  have hbu := (Below.refl W1.heap.size W1).alloc (Nat.le_refl _) (.cells #[.int .u8 127] 5)
  generalize (W1.alloc (.cells #[.int .u8 127] 5)) = W2 at *
  refine (of1_any 127 _ W2 (by decide) hu).mono ?_
  rintro e W3 ⟨rfl, hb3⟩
  generalize ht3 : (fun x => decide (x = 127)) = T3
  have HT3 := hide ht3.symm
  clear ht3
  unfold setV setC
  have hS3 := hbu.trans (hb3.mono hbu.size)
  clear hbu hb3 hu
  have hs := hb1.trans (hS3.mono hb1.size)
  clear hb1 hS3
  go_wp2_with fail
  have hu := Blk.new W3 24 #[.int .u64 ((wd T1 0 : Nat) : Int), .int .u64 ((wd T1 1 : Nat) : Int), .int .u64 ((wd T1 2 : Nat) : Int), .int .u64 ((wd T1 3 : Nat) : Int), .int .u64 ((wd T3 0 : Nat) : Int), .int .u64 ((wd T3 1 : Nat) : Int), .int .u64 ((wd T3 2 : Nat) : Int), .int .u64 ((wd T3 3 : Nat) : Int)]
  have hbu := (Below.refl W3.heap.size W3).alloc (Nat.le_refl _) (.cells #[.int .u64 ((wd T1 0 : Nat) : Int), .int .u64 ((wd T1 1 : Nat) : Int), .int .u64 ((wd T1 2 : Nat) : Int), .int .u64 ((wd T1 3 : Nat) : Int), .int .u64 ((wd T3 0 : Nat) : Int), .int .u64 ((wd T3 1 : Nat) : Int), .int .u64 ((wd T3 2 : Nat) : Int), .int .u64 ((wd T3 3 : Nat) : Int)] 24)
  have hS4 := hs.trans (hbu.mono hs.size)
  clear hbu hs
  generalize (W3.alloc (.cells #[.int .u64 ((wd T1 0 : Nat) : Int), .int .u64 ((wd T1 1 : Nat) : Int), .int .u64 ((wd T1 2 : Nat) : Int), .int .u64 ((wd T1 3 : Nat) : Int), .int .u64 ((wd T3 0 : Nat) : Int), .int .u64 ((wd T3 1 : Nat) : Int), .int .u64 ((wd T3 2 : Nat) : Int), .int .u64 ((wd T3 3 : Nat) : Int)] 24)) = W4 at *
  generalize W3.heap.size = g4 at *
  go_wp2_with fail
  refine (join2_any T1 T3 g4 W4 hu).mono ?_
  rintro e W5 ⟨rfl, hb5⟩
  generalize ht5 : (fun x => T1 x || T3 x) = T5
  have HT5 := hide ht5.symm
  clear ht5
  unfold setV setC
  have hS5 := hS4.trans (hb5.mono hS4.size)
  clear hb5 hS4 hu
  have H5 := hide (And.intro (H0.out.1.below hS5 (by omega)) (And.intro (H0.out.2.1.below hS5 (by omega)) (H0.out.2.2.trans (hS5.mono (by omega)))))
  have hzA5 := H5.out.1.lt
  have hzB5 := H5.out.2.1.lt
  have hzC5 := hS5.size
  clear hS5
  go_wp2_with (refine wpList_store_row rfl _ _ _ rfl (w.heap.size + 1) 0 _ _ _ rfl rfl H5.out.1 Tryz.sizeSetO (by simp [setC]) (by simp [Value.oneCell']) ?_)
  intro W6 hrow2 hg9 hz9
  have hrow := hrow2.out
  rw [splice_full (by rfl)] at hrow
  have H6 := hide (And.intro (show Blk W6 (w.heap.size + 1) 24 (setC T5).toArray from hrow) (And.intro (H5.out.2.1.grown hg9 (fun e => by have := Option.some.inj e; omega)) (below_grew H5.out.2.2 hg9 (Nat.le_refl _) (fun q hq => by rw [← Option.some.inj hq]; omega))))
  have hzA6 := H6.out.1.lt
  have hzB6 := H6.out.2.1.lt
  clear hrow hrow2 hg9 hz9 H5
  have cb : ∀ i : Nat, _ = _ := H6.out.1.cell
  simp only [setC] at cb
  go_wp2_with (refine wpList_store_row rfl _ _ _ rfl w.heap.size 0 _ _ _ rfl rfl H6.out.2.1 Tryz.sizeSetO (by simp) (by simp [Value.oneCell']) ?_)
  intro w9 hrow2 hg9 hz9
  have hrow := hrow2.out
  rw [splice_full (by rfl)] at hrow
  have hb9 := below_grew H6.out.2.2 hg9 (Nat.le_refl _) (fun q hq => by rw [← Option.some.inj hq]; omega)
  have HF := hide (And.intro (show Blk w9 w.heap.size 24 (setC T5).toArray from hrow) hb9)
  clear hrow hrow2 hg9 hz9 hb9 cb
  go_wp2_with fail
  have c9 : ∀ i : Nat, _ = _ := HF.out.1.cell
  simp only [setC] at c9
  refine bodyPost_ret (v := .tuple #[setV T5, .nilIface]) (by unfold setV setC; simp [results, Tryz.results149, go_sem, c9]) rfl ?_
  refine ⟨?_, HF.out.2⟩
  rw [setV_congr (S := T5) (T := (fun b => bt5 0 31 b || decide (b = 127))) (fun x hx => ?_)]
  simp only [HT0.out, HT1.out, HT3.out, HT5.out]
  revert x
  decide +kernel
set_option maxRecDepth 100000 in
set_option maxHeartbeats 4000000 in
theorem named5_print (s : ByteArray) (hcs : s.toList = [112, 114, 105, 110, 116]) (w : World) : Calls Tryz.prog 149 #[.string s] w fun e w' => e = .returned (.tuple #[setV (fun b => bt5 32 126 b), .nilIface]) ∧ Below w.heap.size w w' := by
  have talnum : (s.toList == [97, 108, 110, 117, 109]) = false := by rw [hcs]; decide
  have talpha : (s.toList == [97, 108, 112, 104, 97]) = false := by rw [hcs]; decide
  have tlower : (s.toList == [108, 111, 119, 101, 114]) = false := by rw [hcs]; decide
  have tupper : (s.toList == [117, 112, 112, 101, 114]) = false := by rw [hcs]; decide
  have txdigit : (s.toList == [120, 100, 105, 103, 105, 116]) = false := by rw [hcs]; decide
  have tdigit : (s.toList == [100, 105, 103, 105, 116]) = false := by rw [hcs]; decide
  have tspace : (s.toList == [115, 112, 97, 99, 101]) = false := by rw [hcs]; decide
  have tblank : (s.toList == [98, 108, 97, 110, 107]) = false := by rw [hcs]; decide
  have tcntrl : (s.toList == [99, 110, 116, 114, 108]) = false := by rw [hcs]; decide
  have tprint : (s.toList == [112, 114, 105, 110, 116]) = true := by rw [hcs]; decide
  have tgraph : (s.toList == [103, 114, 97, 112, 104]) = false := by rw [hcs]; decide
  have tpunct : (s.toList == [112, 117, 110, 99, 116]) = false := by rw [hcs]; decide
  clear hcs
  have hb := ((Below.refl w.heap.size w).alloc (Nat.le_refl _) (.cells #[.int .u64 0, .int .u64 0, .int .u64 0, .int .u64 0] 24)).alloc (by simp) (.cells #[.int .u64 0, .int .u64 0, .int .u64 0, .int .u64 0] 24)
  have h1 := (Blk.new w 24 #[.int .u64 0, .int .u64 0, .int .u64 0, .int .u64 0]).alloc (.cells #[.int .u64 0, .int .u64 0, .int .u64 0, .int .u64 0] 24)
  have h3 := Blk.new (w.alloc (.cells #[.int .u64 0, .int .u64 0, .int .u64 0, .int .u64 0] 24)) 24 #[.int .u64 0, .int .u64 0, .int .u64 0, .int .u64 0]
  rw [World.size_alloc] at h3
  have hsz : w.heap.size + 1 < ((w.alloc (.cells #[.int .u64 0, .int .u64 0, .int .u64 0, .int .u64 0] 24)).alloc (.cells #[.int .u64 0, .int .u64 0, .int .u64 0, .int .u64 0] 24)).heap.size := by simp
  obtain ⟨T0, ht0⟩ : ∃ R : Nat → Bool, R = fun _ => false := ⟨_, rfl⟩
  have hz0 : (#[.int .u64 0, .int .u64 0, .int .u64 0, .int .u64 0] : Array Value) = (setC T0).toArray := by rw [ht0]; unfold setC; rw [wd_none, wd_none, wd_none, wd_none]; rfl
  have HT0 := hide ht0
  have H0 := hide (And.intro (show Blk ((w.alloc (.cells #[.int .u64 0, .int .u64 0, .int .u64 0, .int .u64 0] 24)).alloc (.cells #[.int .u64 0, .int .u64 0, .int .u64 0, .int .u64 0] 24)) (w.heap.size + 1) 24 (setC T0).toArray by rw [← hz0]; exact h3) (And.intro h1 hb))
  clear hb h1 h3 ht0 hz0
  go_enter Tryz.func149, Tryz.ntmps149
  go_upto_region 2 with fail
  generalize ((w.alloc (.cells #[.int .u64 0, .int .u64 0, .int .u64 0, .int .u64 0] 24)).alloc (.cells #[.int .u64 0, .int .u64 0, .int .u64 0, .int .u64 0] 24)) = W at *
  go_wp2_with fail
  have hu : Blk (W.alloc (.cells #[.int .u8 32] 5)) W.heap.size 5 #[.int .u8 32] := Blk.new W 5 #[.int .u8 32]
  have hbu := (Below.refl W.heap.size W).alloc (Nat.le_refl _) (.cells #[.int .u8 32] 5)
  generalize (W.alloc (.cells #[.int .u8 32] 5)) = W1 at *
  refine (of1_any 32 _ W1 (by decide) hu).mono ?_
  rintro e W2 ⟨rfl, hb2⟩
  generalize ht2 : (fun x => decide (x = 32)) = T2
  have HT2 := hide ht2.symm
  clear ht2
  unfold setV setC
  have hS2 := hbu.trans (hb2.mono hbu.size)
  clear hbu hb2 hu
  have H2 := hide (And.intro (H0.out.1.below hS2 (by omega)) (And.intro (H0.out.2.1.below hS2 (by omega)) (H0.out.2.2.trans (hS2.mono (by omega)))))
  have hzA2 := H2.out.1.lt
  have hzB2 := H2.out.2.1.lt
  have hzC2 := hS2.size
  clear hS2
  go_wp2_with (refine wpList_store_row rfl _ _ _ rfl (w.heap.size + 1) 0 _ _ _ rfl rfl H2.out.1 Tryz.sizeSetO (by simp [setC]) (by simp [Value.oneCell']) ?_)
  intro W3 hrow2 hg9 hz9
  have hrow := hrow2.out
  rw [splice_full (by rfl)] at hrow
  have H3 := hide (And.intro (show Blk W3 (w.heap.size + 1) 24 (setC T2).toArray from hrow) (And.intro (H2.out.2.1.grown hg9 (fun e => by have := Option.some.inj e; omega)) (below_grew H2.out.2.2 hg9 (Nat.le_refl _) (fun q hq => by rw [← Option.some.inj hq]; omega))))
  have hzA3 := H3.out.1.lt
  have hzB3 := H3.out.2.1.lt
  clear hrow hrow2 hg9 hz9 H2
  go_upto_region 25 with fail
  refine wp_region_mix (fun z => Below W3.heap.size W3 z) [4] (by kernel_rfl) (fun hcl => ?_)
  have hS : Below W3.heap.size W3 W3.drew := (Below.refl _ _).drew
  refine wpAnyT_take (i := 0) hcl rfl (by kernel_rfl) (v := ?_) (fun _ _ _ h => h) hS (Or.inl ⟨rfl, fun w' hS => ?_⟩) (fun hcl => ?_)
  rotate_left
  · skip
    have cb : ∀ i : Nat, _ = _ := (H3.out.1.below hS (by omega)).cell
    simp only [setC] at cb
    go_simp
    with_reducible rfl
  simp only [List.getElem_toArray, List.getElem_cons_zero, List.getElem_cons_succ, Act.put, List.setIfInBounds_toArray, List.set_cons_zero, List.set_cons_succ]
  refine wpAnyT_step (i := 1) hcl rfl (by kernel_rfl) (fun hcl => ?_)
  simp only [List.getElem_toArray, List.getElem_cons_zero, List.getElem_cons_succ, Act.put, List.setIfInBounds_toArray, List.set_cons_zero, List.set_cons_succ]
  go_wp2_with fail
  refine (range_any 33 126 _ (by decide) (by decide)).mono ?_
  rintro e W4 ⟨rfl, hb4⟩
  generalize ht4 : (fun x => decide (33 ≤ x ∧ x ≤ 126)) = T4
  have HT4 := hide ht4.symm
  clear ht4
  unfold setV setC
  have hS4 := hS.trans (hb4.mono hS.size)
  go_wp2_with fail
  refine ⟨hS4, ?_⟩
  clear hS hb4
  refine wpAnyT_step (i := 2) hcl rfl (by kernel_rfl) (fun hcl => ?_)
  simp only [List.getElem_toArray, List.getElem_cons_zero, List.getElem_cons_succ, Act.put, List.setIfInBounds_toArray, List.set_cons_zero, List.set_cons_succ]
  go_wp2_with fail
  have hu := Blk.new W4 24 #[.int .u64 ((wd T2 0 : Nat) : Int), .int .u64 ((wd T2 1 : Nat) : Int), .int .u64 ((wd T2 2 : Nat) : Int), .int .u64 ((wd T2 3 : Nat) : Int), .int .u64 ((wd T4 0 : Nat) : Int), .int .u64 ((wd T4 1 : Nat) : Int), .int .u64 ((wd T4 2 : Nat) : Int), .int .u64 ((wd T4 3 : Nat) : Int)]
  have hbu := (Below.refl W4.heap.size W4).alloc (Nat.le_refl _) (.cells #[.int .u64 ((wd T2 0 : Nat) : Int), .int .u64 ((wd T2 1 : Nat) : Int), .int .u64 ((wd T2 2 : Nat) : Int), .int .u64 ((wd T2 3 : Nat) : Int), .int .u64 ((wd T4 0 : Nat) : Int), .int .u64 ((wd T4 1 : Nat) : Int), .int .u64 ((wd T4 2 : Nat) : Int), .int .u64 ((wd T4 3 : Nat) : Int)] 24)
  have hS5 := hS4.trans (hbu.mono hS4.size)
  clear hbu hS4
  generalize (W4.alloc (.cells #[.int .u64 ((wd T2 0 : Nat) : Int), .int .u64 ((wd T2 1 : Nat) : Int), .int .u64 ((wd T2 2 : Nat) : Int), .int .u64 ((wd T2 3 : Nat) : Int), .int .u64 ((wd T4 0 : Nat) : Int), .int .u64 ((wd T4 1 : Nat) : Int), .int .u64 ((wd T4 2 : Nat) : Int), .int .u64 ((wd T4 3 : Nat) : Int)] 24)) = W5 at *
  generalize W4.heap.size = g5 at *
  refine ⟨hS5, ?_⟩
  refine wpAnyT_step (i := 3) hcl rfl (by kernel_rfl) (fun hcl => ?_)
  simp only [List.getElem_toArray, List.getElem_cons_zero, List.getElem_cons_succ, Act.put, List.setIfInBounds_toArray, List.set_cons_zero, List.set_cons_succ]
  go_wp2_with fail
  refine (join2_any T2 T4 g5 W5 hu).mono ?_
  rintro e W6 ⟨rfl, hb6⟩
  generalize ht6 : (fun x => T2 x || T4 x) = T6
  have HT6 := hide ht6.symm
  clear ht6
  unfold setV setC
  have hS6 := hS5.trans (hb6.mono hS5.size)
  go_wp2_with fail
  refine ⟨hS6, ?_⟩
  clear hb6 hS5 hu
  have H6 := hide (And.intro (H3.out.1.below hS6 (by omega)) (And.intro (H3.out.2.1.below hS6 (by omega)) (H3.out.2.2.trans (hS6.mono (by omega)))))
  have hzA6 := H6.out.1.lt
  have hzB6 := H6.out.2.1.lt
  have hzC6 := hS6.size
  clear hS6
  refine wpAnyT_last (i := 4) hcl rfl (by kernel_rfl) (by kernel_rfl) (fun hcl => ?_)
  simp only [List.getElem_toArray, List.getElem_cons_zero, List.getElem_cons_succ, Act.put, List.setIfInBounds_toArray, List.set_cons_zero, List.set_cons_succ]
  refine wpList_store_row rfl _ _ _ rfl (w.heap.size + 1) 0 _ _ _ rfl rfl H6.out.1 Tryz.sizeSetO (by simp [setC]) (by simp [Value.oneCell']) ?_
  intro W7 hrow2 hg9 hz9
  refine wpList_nil ?_
  have hrow := hrow2.out
  rw [splice_full (by rfl)] at hrow
  have H7 := hide (And.intro (show Blk W7 (w.heap.size + 1) 24 (setC T6).toArray from hrow) (And.intro (H6.out.2.1.grown hg9 (fun e => by have := Option.some.inj e; omega)) (below_grew H6.out.2.2 hg9 (Nat.le_refl _) (fun q hq => by rw [← Option.some.inj hq]; omega))))
  have hzA7 := H7.out.1.lt
  have hzB7 := H7.out.2.1.lt
  clear hrow hrow2 hg9 hz9 H6
  refine wpAnyT_done (by kernel_rfl) ?_ _
  have cb : ∀ i : Nat, _ = _ := H7.out.1.cell
  simp only [setC] at cb
  go_wp2_with (refine wpList_store_row rfl _ _ _ rfl w.heap.size 0 _ _ _ rfl rfl H7.out.2.1 Tryz.sizeSetO (by simp) (by simp [Value.oneCell']) ?_)
  intro w9 hrow2 hg9 hz9
  have hrow := hrow2.out
  rw [splice_full (by rfl)] at hrow
  have hb9 := below_grew H7.out.2.2 hg9 (Nat.le_refl _) (fun q hq => by rw [← Option.some.inj hq]; omega)
  have HF := hide (And.intro (show Blk w9 w.heap.size 24 (setC T6).toArray from hrow) hb9)
  clear hrow hrow2 hg9 hz9 hb9 cb
  go_wp2_with fail
  have c9 : ∀ i : Nat, _ = _ := HF.out.1.cell
  simp only [setC] at c9
  refine bodyPost_ret (v := .tuple #[setV T6, .nilIface]) (by unfold setV setC; simp [results, Tryz.results149, go_sem, c9]) rfl ?_
  refine ⟨?_, HF.out.2⟩
  rw [setV_congr (S := T6) (T := (fun b => bt5 32 126 b)) (fun x hx => ?_)]
  simp only [HT0.out, HT2.out, HT4.out, HT6.out]
  revert x
  decide +kernel
set_option maxRecDepth 100000 in
set_option maxHeartbeats 4000000 in
theorem named5_graph (s : ByteArray) (hcs : s.toList = [103, 114, 97, 112, 104]) (w : World) : Calls Tryz.prog 149 #[.string s] w fun e w' => e = .returned (.tuple #[setV (fun b => bt5 33 126 b), .nilIface]) ∧ Below w.heap.size w w' := by
  have talnum : (s.toList == [97, 108, 110, 117, 109]) = false := by rw [hcs]; decide
  have talpha : (s.toList == [97, 108, 112, 104, 97]) = false := by rw [hcs]; decide
  have tlower : (s.toList == [108, 111, 119, 101, 114]) = false := by rw [hcs]; decide
  have tupper : (s.toList == [117, 112, 112, 101, 114]) = false := by rw [hcs]; decide
  have txdigit : (s.toList == [120, 100, 105, 103, 105, 116]) = false := by rw [hcs]; decide
  have tdigit : (s.toList == [100, 105, 103, 105, 116]) = false := by rw [hcs]; decide
  have tspace : (s.toList == [115, 112, 97, 99, 101]) = false := by rw [hcs]; decide
  have tblank : (s.toList == [98, 108, 97, 110, 107]) = false := by rw [hcs]; decide
  have tcntrl : (s.toList == [99, 110, 116, 114, 108]) = false := by rw [hcs]; decide
  have tprint : (s.toList == [112, 114, 105, 110, 116]) = false := by rw [hcs]; decide
  have tgraph : (s.toList == [103, 114, 97, 112, 104]) = true := by rw [hcs]; decide
  have tpunct : (s.toList == [112, 117, 110, 99, 116]) = false := by rw [hcs]; decide
  clear hcs
  have hb := ((Below.refl w.heap.size w).alloc (Nat.le_refl _) (.cells #[.int .u64 0, .int .u64 0, .int .u64 0, .int .u64 0] 24)).alloc (by simp) (.cells #[.int .u64 0, .int .u64 0, .int .u64 0, .int .u64 0] 24)
  have h1 := (Blk.new w 24 #[.int .u64 0, .int .u64 0, .int .u64 0, .int .u64 0]).alloc (.cells #[.int .u64 0, .int .u64 0, .int .u64 0, .int .u64 0] 24)
  have h3 := Blk.new (w.alloc (.cells #[.int .u64 0, .int .u64 0, .int .u64 0, .int .u64 0] 24)) 24 #[.int .u64 0, .int .u64 0, .int .u64 0, .int .u64 0]
  rw [World.size_alloc] at h3
  have hsz : w.heap.size + 1 < ((w.alloc (.cells #[.int .u64 0, .int .u64 0, .int .u64 0, .int .u64 0] 24)).alloc (.cells #[.int .u64 0, .int .u64 0, .int .u64 0, .int .u64 0] 24)).heap.size := by simp
  obtain ⟨T0, ht0⟩ : ∃ R : Nat → Bool, R = fun _ => false := ⟨_, rfl⟩
  have hz0 : (#[.int .u64 0, .int .u64 0, .int .u64 0, .int .u64 0] : Array Value) = (setC T0).toArray := by rw [ht0]; unfold setC; rw [wd_none, wd_none, wd_none, wd_none]; rfl
  have HT0 := hide ht0
  have H0 := hide (And.intro (show Blk ((w.alloc (.cells #[.int .u64 0, .int .u64 0, .int .u64 0, .int .u64 0] 24)).alloc (.cells #[.int .u64 0, .int .u64 0, .int .u64 0, .int .u64 0] 24)) (w.heap.size + 1) 24 (setC T0).toArray by rw [← hz0]; exact h3) (And.intro h1 hb))
  clear hb h1 h3 ht0 hz0
  go_enter Tryz.func149, Tryz.ntmps149
  go_upto_region 2 with fail
  generalize ((w.alloc (.cells #[.int .u64 0, .int .u64 0, .int .u64 0, .int .u64 0] 24)).alloc (.cells #[.int .u64 0, .int .u64 0, .int .u64 0, .int .u64 0] 24)) = W at *
  go_upto_region 25 with fail
  refine wp_region_mix (fun z => Below W.heap.size W z) [4] (by kernel_rfl) (fun hcl => ?_)
  have hS : Below W.heap.size W W.drew := (Below.refl _ _).drew
  refine wpAnyT_take (i := 0) hcl rfl (by kernel_rfl) (v := ?_) (fun _ _ _ h => h) hS (Or.inl ⟨rfl, fun w' hS => ?_⟩) (fun hcl => ?_)
  rotate_left
  · skip
    have cb : ∀ i : Nat, _ = _ := (H0.out.1.below hS (by omega)).cell
    simp only [setC] at cb
    go_simp
    with_reducible rfl
  simp only [List.getElem_toArray, List.getElem_cons_zero, List.getElem_cons_succ, Act.put, List.setIfInBounds_toArray, List.set_cons_zero, List.set_cons_succ]
  refine wpAnyT_step (i := 1) hcl rfl (by kernel_rfl) (fun hcl => ?_)
  simp only [List.getElem_toArray, List.getElem_cons_zero, List.getElem_cons_succ, Act.put, List.setIfInBounds_toArray, List.set_cons_zero, List.set_cons_succ]
  go_wp2_with fail
  refine (range_any 33 126 _ (by decide) (by decide)).mono ?_
  rintro e W1 ⟨rfl, hb1⟩
  generalize ht1 : (fun x => decide (33 ≤ x ∧ x ≤ 126)) = T1
  have HT1 := hide ht1.symm
  clear ht1
  unfold setV setC
  have hS1 := hS.trans (hb1.mono hS.size)
  go_wp2_with fail
  refine ⟨hS1, ?_⟩
  clear hS hb1
  refine wpAnyT_step (i := 2) hcl rfl (by kernel_rfl) (fun hcl => ?_)
  simp only [List.getElem_toArray, List.getElem_cons_zero, List.getElem_cons_succ, Act.put, List.setIfInBounds_toArray, List.set_cons_zero, List.set_cons_succ]
  go_wp2_with fail
  have hu := Blk.new W1 24 #[.int .u64 ((wd T0 0 : Nat) : Int), .int .u64 ((wd T0 1 : Nat) : Int), .int .u64 ((wd T0 2 : Nat) : Int), .int .u64 ((wd T0 3 : Nat) : Int), .int .u64 ((wd T1 0 : Nat) : Int), .int .u64 ((wd T1 1 : Nat) : Int), .int .u64 ((wd T1 2 : Nat) : Int), .int .u64 ((wd T1 3 : Nat) : Int)]
  have hbu := (Below.refl W1.heap.size W1).alloc (Nat.le_refl _) (.cells #[.int .u64 ((wd T0 0 : Nat) : Int), .int .u64 ((wd T0 1 : Nat) : Int), .int .u64 ((wd T0 2 : Nat) : Int), .int .u64 ((wd T0 3 : Nat) : Int), .int .u64 ((wd T1 0 : Nat) : Int), .int .u64 ((wd T1 1 : Nat) : Int), .int .u64 ((wd T1 2 : Nat) : Int), .int .u64 ((wd T1 3 : Nat) : Int)] 24)
  have hS2 := hS1.trans (hbu.mono hS1.size)
  clear hbu hS1
  generalize (W1.alloc (.cells #[.int .u64 ((wd T0 0 : Nat) : Int), .int .u64 ((wd T0 1 : Nat) : Int), .int .u64 ((wd T0 2 : Nat) : Int), .int .u64 ((wd T0 3 : Nat) : Int), .int .u64 ((wd T1 0 : Nat) : Int), .int .u64 ((wd T1 1 : Nat) : Int), .int .u64 ((wd T1 2 : Nat) : Int), .int .u64 ((wd T1 3 : Nat) : Int)] 24)) = W2 at *
  generalize W1.heap.size = g2 at *
  refine ⟨hS2, ?_⟩
  refine wpAnyT_step (i := 3) hcl rfl (by kernel_rfl) (fun hcl => ?_)
  simp only [List.getElem_toArray, List.getElem_cons_zero, List.getElem_cons_succ, Act.put, List.setIfInBounds_toArray, List.set_cons_zero, List.set_cons_succ]
  go_wp2_with fail
  refine (join2_any T0 T1 g2 W2 hu).mono ?_
  rintro e W3 ⟨rfl, hb3⟩
  generalize ht3 : (fun x => T0 x || T1 x) = T3
  have HT3 := hide ht3.symm
  clear ht3
  unfold setV setC
  have hS3 := hS2.trans (hb3.mono hS2.size)
  go_wp2_with fail
  refine ⟨hS3, ?_⟩
  clear hb3 hS2 hu
  have H3 := hide (And.intro (H0.out.1.below hS3 (by omega)) (And.intro (H0.out.2.1.below hS3 (by omega)) (H0.out.2.2.trans (hS3.mono (by omega)))))
  have hzA3 := H3.out.1.lt
  have hzB3 := H3.out.2.1.lt
  have hzC3 := hS3.size
  clear hS3
  refine wpAnyT_last (i := 4) hcl rfl (by kernel_rfl) (by kernel_rfl) (fun hcl => ?_)
  simp only [List.getElem_toArray, List.getElem_cons_zero, List.getElem_cons_succ, Act.put, List.setIfInBounds_toArray, List.set_cons_zero, List.set_cons_succ]
  refine wpList_store_row rfl _ _ _ rfl (w.heap.size + 1) 0 _ _ _ rfl rfl H3.out.1 Tryz.sizeSetO (by simp [setC]) (by simp [Value.oneCell']) ?_
  intro W4 hrow2 hg9 hz9
  refine wpList_nil ?_
  have hrow := hrow2.out
  rw [splice_full (by rfl)] at hrow
  have H4 := hide (And.intro (show Blk W4 (w.heap.size + 1) 24 (setC T3).toArray from hrow) (And.intro (H3.out.2.1.grown hg9 (fun e => by have := Option.some.inj e; omega)) (below_grew H3.out.2.2 hg9 (Nat.le_refl _) (fun q hq => by rw [← Option.some.inj hq]; omega))))
  have hzA4 := H4.out.1.lt
  have hzB4 := H4.out.2.1.lt
  clear hrow hrow2 hg9 hz9 H3
  refine wpAnyT_done (by kernel_rfl) ?_ _
  have cb : ∀ i : Nat, _ = _ := H4.out.1.cell
  simp only [setC] at cb
  go_wp2_with (refine wpList_store_row rfl _ _ _ rfl w.heap.size 0 _ _ _ rfl rfl H4.out.2.1 Tryz.sizeSetO (by simp) (by simp [Value.oneCell']) ?_)
  intro w9 hrow2 hg9 hz9
  have hrow := hrow2.out
  rw [splice_full (by rfl)] at hrow
  have hb9 := below_grew H4.out.2.2 hg9 (Nat.le_refl _) (fun q hq => by rw [← Option.some.inj hq]; omega)
  have HF := hide (And.intro (show Blk w9 w.heap.size 24 (setC T3).toArray from hrow) hb9)
  clear hrow hrow2 hg9 hz9 hb9 cb
  go_wp2_with fail
  have c9 : ∀ i : Nat, _ = _ := HF.out.1.cell
  simp only [setC] at c9
  refine bodyPost_ret (v := .tuple #[setV T3, .nilIface]) (by unfold setV setC; simp [results, Tryz.results149, go_sem, c9]) rfl ?_
  refine ⟨?_, HF.out.2⟩
  rw [setV_congr (S := T3) (T := (fun b => bt5 33 126 b)) (fun x hx => ?_)]
  simp only [HT0.out, HT1.out, HT3.out]
  revert x
  decide +kernel
set_option maxRecDepth 100000 in
set_option maxHeartbeats 4000000 in
theorem named5_punct (s : ByteArray) (hcs : s.toList = [112, 117, 110, 99, 116]) (w : World) : Calls Tryz.prog 149 #[.string s] w fun e w' => e = .returned (.tuple #[setV (fun b => bt5 33 126 b && !up5 b && !low5 b && !dig5 b), .nilIface]) ∧ Below w.heap.size w w' := by
  have talnum : (s.toList == [97, 108, 110, 117, 109]) = false := by rw [hcs]; decide
  have talpha : (s.toList == [97, 108, 112, 104, 97]) = false := by rw [hcs]; decide
  have tlower : (s.toList == [108, 111, 119, 101, 114]) = false := by rw [hcs]; decide
  have tupper : (s.toList == [117, 112, 112, 101, 114]) = false := by rw [hcs]; decide
  have txdigit : (s.toList == [120, 100, 105, 103, 105, 116]) = false := by rw [hcs]; decide
  have tdigit : (s.toList == [100, 105, 103, 105, 116]) = false := by rw [hcs]; decide
  have tspace : (s.toList == [115, 112, 97, 99, 101]) = false := by rw [hcs]; decide
  have tblank : (s.toList == [98, 108, 97, 110, 107]) = false := by rw [hcs]; decide
  have tcntrl : (s.toList == [99, 110, 116, 114, 108]) = false := by rw [hcs]; decide
  have tprint : (s.toList == [112, 114, 105, 110, 116]) = false := by rw [hcs]; decide
  have tgraph : (s.toList == [103, 114, 97, 112, 104]) = false := by rw [hcs]; decide
  have tpunct : (s.toList == [112, 117, 110, 99, 116]) = true := by rw [hcs]; decide
  clear hcs
  have hb := ((Below.refl w.heap.size w).alloc (Nat.le_refl _) (.cells #[.int .u64 0, .int .u64 0, .int .u64 0, .int .u64 0] 24)).alloc (by simp) (.cells #[.int .u64 0, .int .u64 0, .int .u64 0, .int .u64 0] 24)
  have h1 := (Blk.new w 24 #[.int .u64 0, .int .u64 0, .int .u64 0, .int .u64 0]).alloc (.cells #[.int .u64 0, .int .u64 0, .int .u64 0, .int .u64 0] 24)
  have h3 := Blk.new (w.alloc (.cells #[.int .u64 0, .int .u64 0, .int .u64 0, .int .u64 0] 24)) 24 #[.int .u64 0, .int .u64 0, .int .u64 0, .int .u64 0]
  rw [World.size_alloc] at h3
  have hsz : w.heap.size + 1 < ((w.alloc (.cells #[.int .u64 0, .int .u64 0, .int .u64 0, .int .u64 0] 24)).alloc (.cells #[.int .u64 0, .int .u64 0, .int .u64 0, .int .u64 0] 24)).heap.size := by simp
  obtain ⟨T0, ht0⟩ : ∃ R : Nat → Bool, R = fun _ => false := ⟨_, rfl⟩
  have hz0 : (#[.int .u64 0, .int .u64 0, .int .u64 0, .int .u64 0] : Array Value) = (setC T0).toArray := by rw [ht0]; unfold setC; rw [wd_none, wd_none, wd_none, wd_none]; rfl
  have HT0 := hide ht0
  have H0 := hide (And.intro (show Blk ((w.alloc (.cells #[.int .u64 0, .int .u64 0, .int .u64 0, .int .u64 0] 24)).alloc (.cells #[.int .u64 0, .int .u64 0, .int .u64 0, .int .u64 0] 24)) (w.heap.size + 1) 24 (setC T0).toArray by rw [← hz0]; exact h3) (And.intro h1 hb))
  clear hb h1 h3 ht0 hz0
  go_enter Tryz.func149, Tryz.ntmps149
  go_upto_region 2 with fail
  generalize ((w.alloc (.cells #[.int .u64 0, .int .u64 0, .int .u64 0, .int .u64 0] 24)).alloc (.cells #[.int .u64 0, .int .u64 0, .int .u64 0, .int .u64 0] 24)) = W at *
  go_wp2_with fail
  refine (named5_alnum _ toList_alnum W).mono ?_
  rintro e W1 ⟨rfl, hb1⟩
  generalize ht1 : (fun x => up5 x || low5 x || dig5 x) = T1
  have HT1 := hide ht1.symm
  clear ht1
  unfold setV setC
  have H1 := hide (And.intro (H0.out.1.below hb1 (by omega)) (And.intro (H0.out.2.1.below hb1 (by omega)) (H0.out.2.2.trans (hb1.mono (by omega)))))
  have hzA1 := H1.out.1.lt
  have hzB1 := H1.out.2.1.lt
  have hzC1 := hb1.size
  clear hb1
  have hal := (Below.refl W1.heap.size W1).alloc (Nat.le_refl _) (.cells #[.int .u64 0, .int .u64 0, .int .u64 0, .int .u64 0] 24)
  have hzb := Blk.new W1 24 #[.int .u64 0, .int .u64 0, .int .u64 0, .int .u64 0]
  go_wp2_with (refine wpList_store_row rfl _ _ _ rfl W1.heap.size 0 _ _ _ rfl rfl hzb Tryz.sizeSetO (by simp) (by simp [Value.oneCell']) ?_)
  intro W2 hrow2 hg9 hz9
  have hrow := hrow2.out
  rw [splice_full (by rfl)] at hrow
  have hbE : Below W1.heap.size W1 W2 := below_grew hal hg9 (Nat.le_refl _) (fun q hq => by rw [← Option.some.inj hq]; exact Nat.le_refl _)
  have H2 := hide (And.intro (H1.out.1.below hbE (by omega)) (And.intro (H1.out.2.1.below hbE (by omega)) (H1.out.2.2.trans (hbE.mono (by omega)))))
  have H5 := hide (show Blk W2 W1.heap.size 24 (setC T1).toArray from hrow)
  have hzA2 := H2.out.1.lt
  have hzB2 := H2.out.2.1.lt
  have hz5 := H5.out.lt
  clear hrow hrow2 hg9 hz9 hbE hal hzb H1
  generalize hg5 : W1.heap.size = g5 at *
  clear hg5
  go_upto_region 27 with fail
  refine wp_region_mix (fun z => Below W2.heap.size W2 z) [3] (by kernel_rfl) (fun hcl => ?_)
  have hS : Below W2.heap.size W2 W2.drew := (Below.refl _ _).drew
  refine wpAnyT_take (i := 1) hcl rfl (by kernel_rfl) (v := ?_) (fun _ _ _ h => h) hS (Or.inl ⟨rfl, fun w' hS => ?_⟩) (fun hcl => ?_)
  rotate_left
  · skip
    have cb : ∀ i : Nat, _ = _ := (H5.out.below hS hz5).cell
    simp only [setC] at cb
    go_simp
    with_reducible rfl
  simp only [List.getElem_toArray, List.getElem_cons_zero, List.getElem_cons_succ, Act.put, List.setIfInBounds_toArray, List.set_cons_zero, List.set_cons_succ]
  refine wpAnyT_step (i := 0) hcl rfl (by kernel_rfl) (fun hcl => ?_)
  simp only [List.getElem_toArray, List.getElem_cons_zero, List.getElem_cons_succ, Act.put, List.setIfInBounds_toArray, List.set_cons_zero, List.set_cons_succ]
  go_wp2_with fail
  refine (range_any 33 126 _ (by decide) (by decide)).mono ?_
  rintro e W3 ⟨rfl, hb3⟩
  generalize ht3 : (fun x => decide (33 ≤ x ∧ x ≤ 126)) = T3
  have HT3 := hide ht3.symm
  clear ht3
  unfold setV setC
  have hS3 := hS.trans (hb3.mono hS.size)
  go_wp2_with fail
  refine ⟨hS3, ?_⟩
  clear hS hb3
  refine wpAnyT_step (i := 2) hcl rfl (by kernel_rfl) (fun hcl => ?_)
  simp only [List.getElem_toArray, List.getElem_cons_zero, List.getElem_cons_succ, Act.put, List.setIfInBounds_toArray, List.set_cons_zero, List.set_cons_succ]
  go_wp2_with fail
  refine (less_any T3 T1 _).mono ?_
  rintro e W4 ⟨rfl, hb4⟩
  generalize ht4 : (fun x => T3 x && !T1 x) = T4
  have HT4 := hide ht4.symm
  clear ht4
  unfold setV setC
  have hS4 := hS3.trans (hb4.mono hS3.size)
  go_wp2_with fail
  refine ⟨hS4, ?_⟩
  clear hb4 hS3
  have H4 := hide (And.intro (H2.out.1.below hS4 (by omega)) (And.intro (H2.out.2.1.below hS4 (by omega)) (H2.out.2.2.trans (hS4.mono (by omega)))))
  have hzA4 := H4.out.1.lt
  have hzB4 := H4.out.2.1.lt
  have hzC4 := hS4.size
  clear hS4
  refine wpAnyT_last (i := 3) hcl rfl (by kernel_rfl) (by kernel_rfl) (fun hcl => ?_)
  simp only [List.getElem_toArray, List.getElem_cons_zero, List.getElem_cons_succ, Act.put, List.setIfInBounds_toArray, List.set_cons_zero, List.set_cons_succ]
  refine wpList_store_row rfl _ _ _ rfl (w.heap.size + 1) 0 _ _ _ rfl rfl H4.out.1 Tryz.sizeSetO (by simp [setC]) (by simp [Value.oneCell']) ?_
  intro W5 hrow2 hg9 hz9
  refine wpList_nil ?_
  have hrow := hrow2.out
  rw [splice_full (by rfl)] at hrow
  have H5 := hide (And.intro (show Blk W5 (w.heap.size + 1) 24 (setC T4).toArray from hrow) (And.intro (H4.out.2.1.grown hg9 (fun e => by have := Option.some.inj e; omega)) (below_grew H4.out.2.2 hg9 (Nat.le_refl _) (fun q hq => by rw [← Option.some.inj hq]; omega))))
  have hzA5 := H5.out.1.lt
  have hzB5 := H5.out.2.1.lt
  clear hrow hrow2 hg9 hz9 H4
  refine wpAnyT_done (by kernel_rfl) ?_ _
  have cb : ∀ i : Nat, _ = _ := H5.out.1.cell
  simp only [setC] at cb
  go_wp2_with (refine wpList_store_row rfl _ _ _ rfl w.heap.size 0 _ _ _ rfl rfl H5.out.2.1 Tryz.sizeSetO (by simp) (by simp [Value.oneCell']) ?_)
  intro w9 hrow2 hg9 hz9
  have hrow := hrow2.out
  rw [splice_full (by rfl)] at hrow
  have hb9 := below_grew H5.out.2.2 hg9 (Nat.le_refl _) (fun q hq => by rw [← Option.some.inj hq]; omega)
  have HF := hide (And.intro (show Blk w9 w.heap.size 24 (setC T4).toArray from hrow) hb9)
  clear hrow hrow2 hg9 hz9 hb9 cb
  go_wp2_with fail
  have c9 : ∀ i : Nat, _ = _ := HF.out.1.cell
  simp only [setC] at c9
  refine bodyPost_ret (v := .tuple #[setV T4, .nilIface]) (by unfold setV setC; simp [results, Tryz.results149, go_sem, c9]) rfl ?_
  refine ⟨?_, HF.out.2⟩
  rw [setV_congr (S := T4) (T := (fun b => bt5 33 126 b && !up5 b && !low5 b && !dig5 b)) (fun x hx => ?_)]
  simp only [HT0.out, HT1.out, HT3.out, HT4.out]
  revert x
  decide +kernel
end Go.Proofs.YtpkcklpjbeginaaGreatDoor

/-! ## Named5b -/
namespace Go.Proofs.YtpkcklpjbeginaaGreatDoor
open Go.RowKit

set_option maxRecDepth 100000 in
set_option maxHeartbeats 4000000 in
theorem named5_other (s : ByteArray) (c0 : ¬ s.toList = [97, 108, 110, 117, 109]) (c1 : ¬ s.toList = [97, 108, 112, 104, 97]) (c2 : ¬ s.toList = [108, 111, 119, 101, 114]) (c3 : ¬ s.toList = [117, 112, 112, 101, 114]) (c4 : ¬ s.toList = [120, 100, 105, 103, 105, 116]) (c5 : ¬ s.toList = [100, 105, 103, 105, 116]) (c6 : ¬ s.toList = [115, 112, 97, 99, 101]) (c7 : ¬ s.toList = [98, 108, 97, 110, 107]) (c8 : ¬ s.toList = [99, 110, 116, 114, 108]) (c9 : ¬ s.toList = [112, 114, 105, 110, 116]) (c10 : ¬ s.toList = [103, 114, 97, 112, 104]) (c11 : ¬ s.toList = [112, 117, 110, 99, 116]) (a : Nat → Addr) (w : World) (hE : w.cell? ⟨8, 0, none⟩ = some (errV (a 8))) : Calls Tryz.prog 149 #[.string s] w fun e w' => e = .returned (.tuple #[setV (fun _ => false), errV (a 8)]) ∧ Below w.heap.size w w' := by
  have talnum : (s.toList == [97, 108, 110, 117, 109]) = false := beq_false_of_ne c0
  have talpha : (s.toList == [97, 108, 112, 104, 97]) = false := beq_false_of_ne c1
  have tlower : (s.toList == [108, 111, 119, 101, 114]) = false := beq_false_of_ne c2
  have tupper : (s.toList == [117, 112, 112, 101, 114]) = false := beq_false_of_ne c3
  have txdigit : (s.toList == [120, 100, 105, 103, 105, 116]) = false := beq_false_of_ne c4
  have tdigit : (s.toList == [100, 105, 103, 105, 116]) = false := beq_false_of_ne c5
  have tspace : (s.toList == [115, 112, 97, 99, 101]) = false := beq_false_of_ne c6
  have tblank : (s.toList == [98, 108, 97, 110, 107]) = false := beq_false_of_ne c7
  have tcntrl : (s.toList == [99, 110, 116, 114, 108]) = false := beq_false_of_ne c8
  have tprint : (s.toList == [112, 114, 105, 110, 116]) = false := beq_false_of_ne c9
  have tgraph : (s.toList == [103, 114, 97, 112, 104]) = false := beq_false_of_ne c10
  have tpunct : (s.toList == [112, 117, 110, 99, 116]) = false := beq_false_of_ne c11
  clear c0 c1 c2 c3 c4 c5 c6 c7 c8 c9 c10 c11
  have hb := ((Below.refl w.heap.size w).alloc (Nat.le_refl _) (.cells #[.int .u64 0, .int .u64 0, .int .u64 0, .int .u64 0] 24)).alloc (by simp) (.cells #[.int .u64 0, .int .u64 0, .int .u64 0, .int .u64 0] 24)
  have h1 := (Blk.new w 24 #[.int .u64 0, .int .u64 0, .int .u64 0, .int .u64 0]).alloc (.cells #[.int .u64 0, .int .u64 0, .int .u64 0, .int .u64 0] 24)
  have h3 := Blk.new (w.alloc (.cells #[.int .u64 0, .int .u64 0, .int .u64 0, .int .u64 0] 24)) 24 #[.int .u64 0, .int .u64 0, .int .u64 0, .int .u64 0]
  rw [World.size_alloc] at h3
  have hsz : w.heap.size + 1 < ((w.alloc (.cells #[.int .u64 0, .int .u64 0, .int .u64 0, .int .u64 0] 24)).alloc (.cells #[.int .u64 0, .int .u64 0, .int .u64 0, .int .u64 0] 24)).heap.size := by simp
  obtain ⟨T0, ht0⟩ : ∃ R : Nat → Bool, R = fun _ => false := ⟨_, rfl⟩
  have hz0 : (#[.int .u64 0, .int .u64 0, .int .u64 0, .int .u64 0] : Array Value) = (setC T0).toArray := by rw [ht0]; unfold setC; rw [wd_none, wd_none, wd_none, wd_none]; rfl
  have HT0 := hide ht0
  have H0 := hide (And.intro (show Blk ((w.alloc (.cells #[.int .u64 0, .int .u64 0, .int .u64 0, .int .u64 0] 24)).alloc (.cells #[.int .u64 0, .int .u64 0, .int .u64 0, .int .u64 0] 24)) (w.heap.size + 1) 24 (setC T0).toArray by rw [← hz0]; exact h3) (And.intro h1 hb))
  clear hb h1 h3 ht0 hz0
  have HE := hide ((H0.out.2.2.cell (World.block_lt_of_cell? w _ hE)).trans hE)
  have HE0 := hide hE
  clear hE
  go_enter Tryz.func149, Tryz.ntmps149
  go_upto_region 2 with fail
  generalize ((w.alloc (.cells #[.int .u64 0, .int .u64 0, .int .u64 0, .int .u64 0] 24)).alloc (.cells #[.int .u64 0, .int .u64 0, .int .u64 0, .int .u64 0] 24)) = W at *
  go_upto_region 28 with fail
  have hzA := H0.out.1.lt
  have hzB := H0.out.2.1.lt
  refine wp_region_mix (fun z => z.cell? ⟨8, 0, none⟩ = some (errV (a 8)) ∧ Blk z (w.heap.size + 1) 24 (setC T0).toArray) [] (by kernel_rfl) (fun hcl => ?_)
  have hSb : Below W.heap.size W W.drew := (Below.refl _ _).drew
  have hS : W.drew.cell? ⟨8, 0, none⟩ = some (errV (a 8)) ∧ Blk W.drew (w.heap.size + 1) 24 (setC T0).toArray := ⟨(hSb.cell (World.block_lt_of_cell? _ _ HE.out)).trans HE.out, H0.out.1.below hSb hzA⟩
  refine wpAnyT_take (i := 0) hcl rfl (by kernel_rfl) (v := ?_) (fun _ _ _ h => h) hS (Or.inl ⟨rfl, fun w' hS => ?_⟩) (fun hcl => ?_)
  rotate_left
  · skip
    have cb : ∀ i : Nat, _ = _ := hS.2.cell
    simp only [setC] at cb
    go_simp
    with_reducible rfl
  simp only [List.getElem_toArray, List.getElem_cons_zero, List.getElem_cons_succ, Act.put, List.setIfInBounds_toArray, List.set_cons_zero, List.set_cons_succ]
  refine wpAnyT_take (i := 1) hcl rfl (by kernel_rfl) (v := ?_) (fun _ _ _ h => h) hS (Or.inl ⟨rfl, fun w' hS => ?_⟩) (fun hcl => ?_)
  rotate_left
  · skip
    have ce := hS.1
    go_simp
    with_reducible rfl
  simp only [List.getElem_toArray, List.getElem_cons_zero, List.getElem_cons_succ, Act.put, List.setIfInBounds_toArray, List.set_cons_zero, List.set_cons_succ]
  have HD := hide (And.intro (H0.out.2.1.below hSb hzB) (H0.out.2.2.trans (hSb.mono (by omega))))
  have HS := hide hS
  clear hS hSb
  refine wpAnyT_step (i := 2) hcl rfl (by kernel_rfl) (fun hcl => ?_)
  simp only [List.getElem_toArray, List.getElem_cons_zero, List.getElem_cons_succ, Act.put, List.setIfInBounds_toArray, List.set_cons_zero, List.set_cons_succ]
  refine wpList_store_row rfl _ _ _ rfl w.heap.size 0 _ _ _ rfl rfl HD.out.1 Tryz.sizeSetO (by simp) (by simp [Value.oneCell']) ?_
  intro w9 hrow2 hg9 hz9
  refine wpList_nil ?_
  have hrow := hrow2.out
  rw [splice_full (by rfl)] at hrow
  have hb9 := below_grew HD.out.2 hg9 (Nat.le_refl _) (fun q hq => by rw [← Option.some.inj hq]; exact Nat.le_refl _)
  have hS : w9.cell? ⟨8, 0, none⟩ = some (errV (a 8)) ∧ Blk w9 (w.heap.size + 1) 24 (setC T0).toArray := ⟨(hb9.cell (World.block_lt_of_cell? _ _ HE0.out)).trans HE0.out, HS.out.2.grown hg9 (fun e => by have := Option.some.inj e; omega)⟩
  refine ⟨hS, ?_⟩
  refine wpAnyT_free (i := 3) hcl rfl (by kernel_rfl) (v := ?_) (fun _ _ _ h => h) hS (Or.inl ⟨rfl, fun w' _ => ?_⟩) (fun hcl => ?_)
  rotate_left
  · go_simp
    with_reducible rfl
  simp only [List.getElem_toArray, List.getElem_cons_zero, List.getElem_cons_succ, Act.put, List.setIfInBounds_toArray, List.set_cons_zero, List.set_cons_succ]
  -- refine ⟨⟨(hb9.cell (World.block_lt_of_cell? _ _ HE0.out)).trans HE0.out, HS.out.2.grown hg9 (fun e => by have := Option.some.inj e; omega)⟩, ?_⟩
  have HF := hide (And.intro (show Blk w9 w.heap.size 24 (setC T0).toArray from hrow) hb9)
  clear hrow hrow2 hg9 hz9 hb9
  clear hS
  refine wpAnyT_done (by kernel_rfl) ?_ _
  go_wp2_with fail
  have c9 : ∀ i : Nat, _ = _ := HF.out.1.cell
  simp only [setC] at c9
  refine bodyPost_ret (v := .tuple #[setV T0, errV (a 8)]) (by unfold setV setC errV; simp [results, Tryz.results149, go_sem, c9]) rfl ?_
  exact ⟨by rw [HT0.out], HF.out.2⟩
theorem named5_any (s : ByteArray) (a : Nat → Addr) (w : World) (hE : w.cell? ⟨8, 0, none⟩ = some (errV (a 8))) : Calls Tryz.prog 149 #[.string s] w fun e w' => e = .returned (named5V s a) ∧ Below w.heap.size w w' := by
  by_cases c0 : s.toList = [97, 108, 110, 117, 109]
  · refine (named5_alnum s c0 w).mono ?_
    rintro e w' ⟨rfl, hb⟩
    refine ⟨?_, hb⟩
    have e1 : cls5 s.toList = some (fun b => up5 b || low5 b || dig5 b) := by rw [c0]; rfl
    unfold named5V memb5
    rw [e1]
    rfl
  by_cases c1 : s.toList = [97, 108, 112, 104, 97]
  · refine (named5_alpha s c1 w).mono ?_
    rintro e w' ⟨rfl, hb⟩
    refine ⟨?_, hb⟩
    have e1 : cls5 s.toList = some (fun b => up5 b || low5 b) := by rw [c1]; rfl
    unfold named5V memb5
    rw [e1]
    rfl
  by_cases c2 : s.toList = [108, 111, 119, 101, 114]
  · refine (named5_lower s c2 w).mono ?_
    rintro e w' ⟨rfl, hb⟩
    refine ⟨?_, hb⟩
    have e1 : cls5 s.toList = some (fun b => low5 b) := by rw [c2]; rfl
    unfold named5V memb5
    rw [e1]
    rfl
  by_cases c3 : s.toList = [117, 112, 112, 101, 114]
  · refine (named5_upper s c3 w).mono ?_
    rintro e w' ⟨rfl, hb⟩
    refine ⟨?_, hb⟩
    have e1 : cls5 s.toList = some (fun b => up5 b) := by rw [c3]; rfl
    unfold named5V memb5
    rw [e1]
    rfl
  by_cases c4 : s.toList = [120, 100, 105, 103, 105, 116]
  · refine (named5_xdigit s c4 w).mono ?_
    rintro e w' ⟨rfl, hb⟩
    refine ⟨?_, hb⟩
    have e1 : cls5 s.toList = some (fun b => dig5 b || bt5 65 70 b || bt5 97 102 b) := by rw [c4]; rfl
    unfold named5V memb5
    rw [e1]
    rfl
  by_cases c5 : s.toList = [100, 105, 103, 105, 116]
  · refine (named5_digit s c5 w).mono ?_
    rintro e w' ⟨rfl, hb⟩
    refine ⟨?_, hb⟩
    have e1 : cls5 s.toList = some (fun b => dig5 b) := by rw [c5]; rfl
    unfold named5V memb5
    rw [e1]
    rfl
  by_cases c6 : s.toList = [115, 112, 97, 99, 101]
  · refine (named5_space s c6 w).mono ?_
    rintro e w' ⟨rfl, hb⟩
    refine ⟨?_, hb⟩
    have e1 : cls5 s.toList = some (fun b => bt5 9 13 b || decide (b = 32)) := by rw [c6]; rfl
    unfold named5V memb5
    rw [e1]
    rfl
  by_cases c7 : s.toList = [98, 108, 97, 110, 107]
  · refine (named5_blank s c7 w).mono ?_
    rintro e w' ⟨rfl, hb⟩
    refine ⟨?_, hb⟩
    have e1 : cls5 s.toList = some (fun b => decide (b = 9) || decide (b = 32)) := by rw [c7]; rfl
    unfold named5V memb5
    rw [e1]
    rfl
  by_cases c8 : s.toList = [99, 110, 116, 114, 108]
  · refine (named5_cntrl s c8 w).mono ?_
    rintro e w' ⟨rfl, hb⟩
    refine ⟨?_, hb⟩
    have e1 : cls5 s.toList = some (fun b => bt5 0 31 b || decide (b = 127)) := by rw [c8]; rfl
    unfold named5V memb5
    rw [e1]
    rfl
  by_cases c9 : s.toList = [112, 114, 105, 110, 116]
  · refine (named5_print s c9 w).mono ?_
    rintro e w' ⟨rfl, hb⟩
    refine ⟨?_, hb⟩
    have e1 : cls5 s.toList = some (fun b => bt5 32 126 b) := by rw [c9]; rfl
    unfold named5V memb5
    rw [e1]
    rfl
  by_cases c10 : s.toList = [103, 114, 97, 112, 104]
  · refine (named5_graph s c10 w).mono ?_
    rintro e w' ⟨rfl, hb⟩
    refine ⟨?_, hb⟩
    have e1 : cls5 s.toList = some (fun b => bt5 33 126 b) := by rw [c10]; rfl
    unfold named5V memb5
    rw [e1]
    rfl
  by_cases c11 : s.toList = [112, 117, 110, 99, 116]
  · refine (named5_punct s c11 w).mono ?_
    rintro e w' ⟨rfl, hb⟩
    refine ⟨?_, hb⟩
    have e1 : cls5 s.toList = some (fun b => bt5 33 126 b && !up5 b && !low5 b && !dig5 b) := by rw [c11]; rfl
    unfold named5V memb5
    rw [e1]
    rfl
  have h : cls5 s.toList = none := by
    unfold cls5
    rw [if_neg c0, if_neg c1, if_neg c2, if_neg c3, if_neg c4, if_neg c5, if_neg c6, if_neg c7, if_neg c8, if_neg c9, if_neg c10, if_neg c11]
  refine (named5_other s c0 c1 c2 c3 c4 c5 c6 c7 c8 c9 c10 c11 a w hE).mono ?_
  rintro e w' ⟨rfl, hb⟩
  refine ⟨?_, hb⟩
  unfold named5V
  rw [h, memb5_none h]
  rfl
end Go.Proofs.YtpkcklpjbeginaaGreatDoor
