/- class.Named of any name. (Printed by gen_named5.py.) -/
import Derived.Test.YtfehmfifjidjjaaDoorNamed5
set_option linter.unusedSimpArgs false
set_option linter.unusedVariables false
namespace Go.Proofs.YtfehmfifjidjjaaDoor
open Go.RowKit

set_option maxRecDepth 100000 in
set_option maxHeartbeats 4000000 in
theorem named5_other (s : ByteArray) (c0 : ¬ s.toList = [97, 108, 110, 117, 109]) (c1 : ¬ s.toList = [97, 108, 112, 104, 97]) (c2 : ¬ s.toList = [108, 111, 119, 101, 114]) (c3 : ¬ s.toList = [117, 112, 112, 101, 114]) (c4 : ¬ s.toList = [120, 100, 105, 103, 105, 116]) (c5 : ¬ s.toList = [100, 105, 103, 105, 116]) (c6 : ¬ s.toList = [115, 112, 97, 99, 101]) (c7 : ¬ s.toList = [98, 108, 97, 110, 107]) (c8 : ¬ s.toList = [99, 110, 116, 114, 108]) (c9 : ¬ s.toList = [112, 114, 105, 110, 116]) (c10 : ¬ s.toList = [103, 114, 97, 112, 104]) (c11 : ¬ s.toList = [112, 117, 110, 99, 116]) (a : Nat → Addr) (w : World) (hE : w.cell? ⟨9, 0, none⟩ = some (errV (a 9))) : Calls Tryd.prog 68 #[.string s] w fun e w' => e = .returned (.tuple #[setV (fun _ => false), errV (a 9)]) ∧ Below w.heap.size w w' := by
  have talnum : (s.toList == [97, 108, 110, 117, 109]) = false := beq_false_of_ne c0
  have talpha : (s.toList == [97, 108, 112, 104, 97]) = false := beq_false_of_ne c1
  have tlower : (s.toList == [108, 111, 119, 101, 114]) = false := beq_false_of_ne c2
  have tupper : (s.toList == [117, 112, 112, 101, 114]) = false := beq_false_of_ne c3
  have txdigit : (s.toList == [120, 100, 105, 103, 105, 116]) = false := beq_false_of_ne c4
  have tdigit : (s.toList == [100, 105, 103, 105, 116]) = false := beq_false_of_ne c5
  have tspace : (s.toList == [115, 112, 97, 99, 101]) = false := beq_false_of_ne c6
  have tblank : (s.toList == [98, 108, 97, 110, 107]) = false := beq_false_of_ne c7
  have tcntrl : (s.toList == [99, 110, 116, 114, 108]) = false := beq_false_of_ne c8
  have tprint : (s.toList == [112, 114, 105, 110, 116]) = false := beq_false_of_ne c9
  have tgraph : (s.toList == [103, 114, 97, 112, 104]) = false := beq_false_of_ne c10
  have tpunct : (s.toList == [112, 117, 110, 99, 116]) = false := beq_false_of_ne c11
  clear c0 c1 c2 c3 c4 c5 c6 c7 c8 c9 c10 c11
  have hb := ((Below.refl w.heap.size w).alloc (Nat.le_refl _) (.cells #[.int .u64 0, .int .u64 0, .int .u64 0, .int .u64 0] 25)).alloc (by simp) (.cells #[.int .u64 0, .int .u64 0, .int .u64 0, .int .u64 0] 25)
  have h1 := (Blk.new w 25 #[.int .u64 0, .int .u64 0, .int .u64 0, .int .u64 0]).alloc (.cells #[.int .u64 0, .int .u64 0, .int .u64 0, .int .u64 0] 25)
  have h3 := Blk.new (w.alloc (.cells #[.int .u64 0, .int .u64 0, .int .u64 0, .int .u64 0] 25)) 25 #[.int .u64 0, .int .u64 0, .int .u64 0, .int .u64 0]
  rw [World.size_alloc] at h3
  have hsz : w.heap.size + 1 < ((w.alloc (.cells #[.int .u64 0, .int .u64 0, .int .u64 0, .int .u64 0] 25)).alloc (.cells #[.int .u64 0, .int .u64 0, .int .u64 0, .int .u64 0] 25)).heap.size := by simp
  obtain ⟨T0, ht0⟩ : ∃ R : Nat → Bool, R = fun _ => false := ⟨_, rfl⟩
  have hz0 : (#[.int .u64 0, .int .u64 0, .int .u64 0, .int .u64 0] : Array Value) = (setC T0).toArray := by rw [ht0]; unfold setC; rw [wd_none, wd_none, wd_none, wd_none]; rfl
  have HT0 := hide ht0
  have H0 := hide (And.intro (show Blk ((w.alloc (.cells #[.int .u64 0, .int .u64 0, .int .u64 0, .int .u64 0] 25)).alloc (.cells #[.int .u64 0, .int .u64 0, .int .u64 0, .int .u64 0] 25)) (w.heap.size + 1) 25 (setC T0).toArray by rw [← hz0]; exact h3) (And.intro h1 hb))
  clear hb h1 h3 ht0 hz0
  have HE := hide ((H0.out.2.2.cell (World.block_lt_of_cell? w _ hE)).trans hE)
  have HE0 := hide hE
  clear hE
  go_enter Tryd.func68, Tryd.ntmps68
  go_upto_region 2 with fail
  generalize ((w.alloc (.cells #[.int .u64 0, .int .u64 0, .int .u64 0, .int .u64 0] 25)).alloc (.cells #[.int .u64 0, .int .u64 0, .int .u64 0, .int .u64 0] 25)) = W at *
  go_upto_region 28 with fail
  have hzA := H0.out.1.lt
  have hzB := H0.out.2.1.lt
  refine wp_region_mix (fun z => z.cell? ⟨9, 0, none⟩ = some (errV (a 9)) ∧ Blk z (w.heap.size + 1) 25 (setC T0).toArray) [] (by kernel_rfl) (fun hcl => ?_)
  have hSb : Below W.heap.size W W.drew := (Below.refl _ _).drew
  have hS : W.drew.cell? ⟨9, 0, none⟩ = some (errV (a 9)) ∧ Blk W.drew (w.heap.size + 1) 25 (setC T0).toArray := ⟨(hSb.cell (World.block_lt_of_cell? _ _ HE.out)).trans HE.out, H0.out.1.below hSb hzA⟩
  refine wpAnyT_take (i := 0) hcl rfl (by kernel_rfl) (v := ?_) (fun _ _ _ h => h) hS (Or.inl ⟨rfl, fun w' hS => ?_⟩) (fun hcl => ?_)
  rotate_left
  · skip
    have cb : ∀ i : Nat, _ = _ := hS.2.cell
    simp only [setC] at cb
    go_simp
    with_reducible rfl
  simp only [List.getElem_toArray, List.getElem_cons_zero, List.getElem_cons_succ, Act.put, List.setIfInBounds_toArray, List.set_cons_zero, List.set_cons_succ]
  refine wpAnyT_take (i := 1) hcl rfl (by kernel_rfl) (v := ?_) (fun _ _ _ h => h) hS (Or.inl ⟨rfl, fun w' hS => ?_⟩) (fun hcl => ?_)
  rotate_left
  · skip
    have ce := hS.1
    go_simp
    with_reducible rfl
  simp only [List.getElem_toArray, List.getElem_cons_zero, List.getElem_cons_succ, Act.put, List.setIfInBounds_toArray, List.set_cons_zero, List.set_cons_succ]
  have HD := hide (And.intro (H0.out.2.1.below hSb hzB) (H0.out.2.2.trans (hSb.mono (by omega))))
  have HS := hide hS
  clear hS hSb
  refine wpAnyT_step (i := 2) hcl rfl (by kernel_rfl) (fun hcl => ?_)
  simp only [List.getElem_toArray, List.getElem_cons_zero, List.getElem_cons_succ, Act.put, List.setIfInBounds_toArray, List.set_cons_zero, List.set_cons_succ]
  refine wpList_store_row rfl _ _ _ rfl w.heap.size 0 _ _ _ rfl rfl HD.out.1 Tryd.sizeSetO (by simp) (by simp [Value.oneCell']) ?_
  intro w9 hrow2 hg9 hz9
  refine wpList_nil ?_
  have hrow := hrow2.out
  rw [splice_full (by rfl)] at hrow
  have hb9 := below_grew HD.out.2 hg9 (Nat.le_refl _) (fun q hq => by rw [← Option.some.inj hq]; exact Nat.le_refl _)
  have hS : w9.cell? ⟨9, 0, none⟩ = some (errV (a 9)) ∧ Blk w9 (w.heap.size + 1) 25 (setC T0).toArray := ⟨(hb9.cell (World.block_lt_of_cell? _ _ HE0.out)).trans HE0.out, HS.out.2.grown hg9 (fun e => by have := Option.some.inj e; omega)⟩
  refine ⟨hS, ?_⟩
  refine wpAnyT_free (i := 3) hcl rfl (by kernel_rfl) (v := ?_) (fun _ _ _ h => h) hS (Or.inl ⟨rfl, fun w' _ => ?_⟩) (fun hcl => ?_)
  rotate_left
  · go_simp
    with_reducible rfl
  simp only [List.getElem_toArray, List.getElem_cons_zero, List.getElem_cons_succ, Act.put, List.setIfInBounds_toArray, List.set_cons_zero, List.set_cons_succ]
  -- refine ⟨⟨(hb9.cell (World.block_lt_of_cell? _ _ HE0.out)).trans HE0.out, HS.out.2.grown hg9 (fun e => by have := Option.some.inj e; omega)⟩, ?_⟩
  have HF := hide (And.intro (show Blk w9 w.heap.size 25 (setC T0).toArray from hrow) hb9)
  clear hrow hrow2 hg9 hz9 hb9
  clear hS
  refine wpAnyT_done (by kernel_rfl) ?_ _
  go_wp2_with fail
  have c9 : ∀ i : Nat, _ = _ := HF.out.1.cell
  simp only [setC] at c9
  refine bodyPost_ret (v := .tuple #[setV T0, errV (a 9)]) (by unfold setV setC errV; simp [results, Tryd.results68, go_sem, c9]) rfl ?_
  exact ⟨by rw [HT0.out], HF.out.2⟩
theorem named5_any (s : ByteArray) (a : Nat → Addr) (w : World) (hE : w.cell? ⟨9, 0, none⟩ = some (errV (a 9))) : Calls Tryd.prog 68 #[.string s] w fun e w' => e = .returned (named5V s a) ∧ Below w.heap.size w w' := by
  by_cases c0 : s.toList = [97, 108, 110, 117, 109]
  · refine (named5_alnum s c0 w).mono ?_
    rintro e w' ⟨rfl, hb⟩
    refine ⟨?_, hb⟩
    have e1 : cls5 s.toList = some (fun b => up5 b || low5 b || dig5 b) := by rw [c0]; rfl
    unfold named5V memb5
    rw [e1]
    rfl
  by_cases c1 : s.toList = [97, 108, 112, 104, 97]
  · refine (named5_alpha s c1 w).mono ?_
    rintro e w' ⟨rfl, hb⟩
    refine ⟨?_, hb⟩
    have e1 : cls5 s.toList = some (fun b => up5 b || low5 b) := by rw [c1]; rfl
    unfold named5V memb5
    rw [e1]
    rfl
  by_cases c2 : s.toList = [108, 111, 119, 101, 114]
  · refine (named5_lower s c2 w).mono ?_
    rintro e w' ⟨rfl, hb⟩
    refine ⟨?_, hb⟩
    have e1 : cls5 s.toList = some (fun b => low5 b) := by rw [c2]; rfl
    unfold named5V memb5
    rw [e1]
    rfl
  by_cases c3 : s.toList = [117, 112, 112, 101, 114]
  · refine (named5_upper s c3 w).mono ?_
    rintro e w' ⟨rfl, hb⟩
    refine ⟨?_, hb⟩
    have e1 : cls5 s.toList = some (fun b => up5 b) := by rw [c3]; rfl
    unfold named5V memb5
    rw [e1]
    rfl
  by_cases c4 : s.toList = [120, 100, 105, 103, 105, 116]
  · refine (named5_xdigit s c4 w).mono ?_
    rintro e w' ⟨rfl, hb⟩
    refine ⟨?_, hb⟩
    have e1 : cls5 s.toList = some (fun b => dig5 b || bt5 65 70 b || bt5 97 102 b) := by rw [c4]; rfl
    unfold named5V memb5
    rw [e1]
    rfl
  by_cases c5 : s.toList = [100, 105, 103, 105, 116]
  · refine (named5_digit s c5 w).mono ?_
    rintro e w' ⟨rfl, hb⟩
    refine ⟨?_, hb⟩
    have e1 : cls5 s.toList = some (fun b => dig5 b) := by rw [c5]; rfl
    unfold named5V memb5
    rw [e1]
    rfl
  by_cases c6 : s.toList = [115, 112, 97, 99, 101]
  · refine (named5_space s c6 w).mono ?_
    rintro e w' ⟨rfl, hb⟩
    refine ⟨?_, hb⟩
    have e1 : cls5 s.toList = some (fun b => bt5 9 13 b || decide (b = 32)) := by rw [c6]; rfl
    unfold named5V memb5
    rw [e1]
    rfl
  by_cases c7 : s.toList = [98, 108, 97, 110, 107]
  · refine (named5_blank s c7 w).mono ?_
    rintro e w' ⟨rfl, hb⟩
    refine ⟨?_, hb⟩
    have e1 : cls5 s.toList = some (fun b => decide (b = 9) || decide (b = 32)) := by rw [c7]; rfl
    unfold named5V memb5
    rw [e1]
    rfl
  by_cases c8 : s.toList = [99, 110, 116, 114, 108]
  · refine (named5_cntrl s c8 w).mono ?_
    rintro e w' ⟨rfl, hb⟩
    refine ⟨?_, hb⟩
    have e1 : cls5 s.toList = some (fun b => bt5 0 31 b || decide (b = 127)) := by rw [c8]; rfl
    unfold named5V memb5
    rw [e1]
    rfl
  by_cases c9 : s.toList = [112, 114, 105, 110, 116]
  · refine (named5_print s c9 w).mono ?_
    rintro e w' ⟨rfl, hb⟩
    refine ⟨?_, hb⟩
    have e1 : cls5 s.toList = some (fun b => bt5 32 126 b) := by rw [c9]; rfl
    unfold named5V memb5
    rw [e1]
    rfl
  by_cases c10 : s.toList = [103, 114, 97, 112, 104]
  · refine (named5_graph s c10 w).mono ?_
    rintro e w' ⟨rfl, hb⟩
    refine ⟨?_, hb⟩
    have e1 : cls5 s.toList = some (fun b => bt5 33 126 b) := by rw [c10]; rfl
    unfold named5V memb5
    rw [e1]
    rfl
  by_cases c11 : s.toList = [112, 117, 110, 99, 116]
  · refine (named5_punct s c11 w).mono ?_
    rintro e w' ⟨rfl, hb⟩
    refine ⟨?_, hb⟩
    have e1 : cls5 s.toList = some (fun b => bt5 33 126 b && !up5 b && !low5 b && !dig5 b) := by rw [c11]; rfl
    unfold named5V memb5
    rw [e1]
    rfl
  have h : cls5 s.toList = none := by
    unfold cls5
    rw [if_neg c0, if_neg c1, if_neg c2, if_neg c3, if_neg c4, if_neg c5, if_neg c6, if_neg c7, if_neg c8, if_neg c9, if_neg c10, if_neg c11]
  refine (named5_other s c0 c1 c2 c3 c4 c5 c6 c7 c8 c9 c10 c11 a w hE).mono ?_
  rintro e w' ⟨rfl, hb⟩
  refine ⟨?_, hb⟩
  unfold named5V
  rw [h, memb5_none h]
  rfl
end Go.Proofs.YtfehmfifjidjjaaDoor
