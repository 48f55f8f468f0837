/- trawlref05.Read. (Printed by gen_refread5.py.) -/
import Derived.Test.YtpkcklpjbeginaaGreatDoorRefItem5
import Derived.Test.YtpkcklpjbeginaaGreatDoorRead5
set_option linter.unusedSimpArgs false
set_option linter.unusedVariables false
namespace Go.Proofs.YtpkcklpjbeginaaGreatDoor
open Go.RowKit
set_option maxRecDepth 100000 in
set_option maxHeartbeats 4000000 in
theorem refRead_true (p : ByteArray) (z fl : Nat) (hfl : fl < 8) (hs : p.size < 4294967281) (hz91 : pb p z = 91) (ht : decide (pb p (z + 1) = 94) = true) (w : World) : Calls Tryz.prog 137 #[.string p, .int .i64 (z : Int), .int .i64 (fl : Int)] w fun e w' => e = .returned (.agg (readP p z (decide (fl / 2 % 2 = 1)) (decide (fl / 4 % 2 = 1))).ans.toArray) ∧ Below w.heap.size w w' := by
 obtain ⟨ic, hic⟩ : ∃ ic, ic = decide (fl / 2 % 2 = 1) := ⟨_, rfl⟩
 obtain ⟨nl, hnl⟩ : ∃ nl, nl = decide (fl / 4 % 2 = 1) := ⟨_, rfl⟩
 rw [← hic, ← hnl]
 have hzs : z < p.size := pb_in (by omega)
 obtain ⟨r, hr⟩ : ∃ r, r = readP p z ic nl := ⟨_, rfl⟩
 rw [← hr]
 obtain ⟨f, hf⟩ : ∃ f, f = z + 2 := ⟨_, rfl⟩
 obtain ⟨R, hR⟩ : ∃ R, R = loopP p z f (p.size + 1) f (fun _ => false) := ⟨_, rfl⟩
 have hP : pb p (z + 1) = 94 := of_decide_eq_true ht
 have HR := hide (show r = outP true ic nl R by rw [hr, hR, hf]; unfold readP; rw [if_pos hP, ht])
 have hfs : f ≤ p.size := by have := pb_in (p := p) (i := z + 1) (by omega); omega
 have HLP := hide hR
 clear hr hR hP
 have HIC := hide hic
 have HNL := hide hnl
 clear hic hnl
 have hb := (Below.refl w.heap.size w).alloc (Nat.le_refl _) (.cells #[.int .u64 0, .int .u64 0, .int .u64 0, .int .u64 0, .int .i64 0, .int .i64 0, .int .i64 0] 177)
 have h1 := Blk.new w 177 #[.int .u64 0, .int .u64 0, .int .u64 0, .int .u64 0, .int .i64 0, .int .i64 0, .int .i64 0]
 have H0 := hide (And.intro h1 hb)
 clear hb h1
 have HS := hide hs
 have HI1 := hide (is5_lit p z 91 91 rfl (by decide) true (decide_eq_true hz91))
 have HI2 := hide (is5_lit p (z + 1) 94 94 rfl (by decide) true ht)
 have hcc : ((z + 1 : Nat) : Int) = (z : Int) + 1 := by omega
 rw [hcc] at HI2
 have HFL := hide hfl
 have hw1 : IntKind.i64.wrap ((z : Int) + 1) = (z : Int) + 1 := by simp [IntKind.wrap, IntKind.bits, IntKind.signed]; omega
 have hw2 : IntKind.i64.wrap ((z : Int) + 1 + 1) = (z : Int) + 2 := by simp [IntKind.wrap, IntKind.bits, IntKind.signed]; omega
 have HZS := hide hzs
 clear hcc hz91 ht hs hzs hfl
 have HSZ := hide (show (w.alloc (.cells #[.int .u64 0, .int .u64 0, .int .u64 0, .int .u64 0, .int .i64 0, .int .i64 0, .int .i64 0] 177)).heap.size = w.heap.size + 1 by simp)
 go_enter Tryz.func137, Tryz.ntmps137
 go_upto_region 1 with fail
 generalize (w.alloc (.cells #[.int .u64 0, .int .u64 0, .int .u64 0, .int .u64 0, .int .i64 0, .int .i64 0, .int .i64 0] 177)) = W at *
 go_wp2_with fail
 refine (HI1.out _).mono ?_
 rintro e W1 ⟨rfl, hw⟩
 subst hw
 go_wp2_with fail
 refine (HI2.out _).mono ?_
 rintro e W2 ⟨rfl, hw⟩
 subst hw
 have hzW := HSZ.out
 have hal := (Below.refl W2.heap.size W2).alloc (Nat.le_refl _) (.cells #[.int .u64 0, .int .u64 0, .int .u64 0, .int .u64 0] 24)
 have hzb := Blk.new W2 24 #[.int .u64 0, .int .u64 0, .int .u64 0, .int .u64 0]
 rw [hzW] at hzb
 go_wp2_with (refine wpList_store_row rfl _ _ _ rfl (w.heap.size + 1) 0 _ _ _ rfl rfl hzb Tryz.sizeSetO (by simp) (by simp [Value.oneCell']) ?_)
 intro W3 hrow2 hg9 hz9
 have hrow := hrow2.out
 rw [splice_full (by rfl)] at hrow
 have hbE : Below W2.heap.size W2 W3 := below_grew hal hg9 (Nat.le_refl _) (fun q hq => by rw [← Option.some.inj hq]; omega)
 have HA := hide (And.intro (show Blk W3 (w.heap.size + 1) 24 (setC fun _ => false).toArray by rw [zeroC]; exact hrow) (And.intro (H0.out.1.below hbE H0.out.1.lt) (H0.out.2.trans (hbE.mono H0.out.2.size))))
 clear hrow hrow2 hg9 hz9 hbE hal hzb H0 HI1 HI2 hzW HSZ
 go_wp2_with fail
 go_loopw [7, 10] (fun v bv wr => ∃ (i n : Nat) (S : Nat → Bool), v = .int .i64 (i : Int) ∧ bv = .bool (decide (f < i)) ∧ f ≤ i ∧ i ≤ p.size ∧ p.size < i + n ∧ R = loopP p z f n i S ∧ Blk wr (w.heap.size + 1) 24 (setC S).toArray ∧ Blk wr w.heap.size 177 #[.int .u64 0, .int .u64 0, .int .u64 0, .int .u64 0, .int .i64 0, .int .i64 0, .int .i64 0] ∧ Below w.heap.size w wr) (fun v _ _ => p.size - (intOf v).toNat)
 case atStart => exact ⟨f, p.size + 1, fun _ => false, by rw [hf]; go_num, by rw [decide_eq_false (by omega)], by omega, hfs, by omega, HLP.out, HA.out.1, HA.out.2.1, HA.out.2.2⟩
 case round =>
  obtain ⟨i, n, S, rfl, rfl, hfi, hip, hn, hl, h1, h2, h3⟩ := hrel
  have H1 := hide (And.intro h1 (And.intro h2 h3))
  clear HA HLP h1 h2 h3
  have HL := hide hl
  clear hl
  have HN0 := hide hn
  clear hn
  have HFI := hide (And.intro hf (And.intro hfi (And.intro hip hfs)))
  clear hf hfi hfs hip
  have HI3 := hide (fun b h => is5_lit p i 93 93 rfl (by decide) b h)
  obtain ⟨k, hk⟩ : ∃ k, n = k + 1 := ⟨n - 1, by have := HN0.out; have := HFI.out.2.2.1; omega⟩
  subst hk
  by_cases hbr : pb p i = 93 ∧ f < i
  case pos =>
   have hi : i < p.size := pb_in (by omega)
   have hR : R = .good S i := by rw [HL.out, loopP, if_neg (by omega), if_pos hbr]
   have HR2 := hide (show r = .good (finP true ic nl S) (i + 1) by rw [HR.out, hR]; rfl)
   clear HL HR hR
   have HI4 := hide (HI3.out true (decide_eq_true hbr.1))
   rw [decide_eq_true hbr.2]
   have hw3 : IntKind.i64.wrap ((i : Int) + 1) = (i : Int) + 1 := by have := HS.out; simp [IntKind.wrap, IntKind.bits, IntKind.signed]; omega
   clear hbr HN0 HI3
   have hq2 : IntKind.i64.wrap ((fl : Int) / 2) = ((fl / 2 : Nat) : Int) := by have := HFL.out; simp [IntKind.wrap, IntKind.bits, IntKind.signed]; omega
   have hq4 : IntKind.i64.wrap ((fl : Int) / 4) = ((fl / 4 : Nat) : Int) := by have := HFL.out; simp [IntKind.wrap, IntKind.bits, IntKind.signed]; omega
   go_wp2_with fail
   refine (HI4.out _).mono ?_
   rintro e V0 ⟨rfl, hw⟩
   subst hw
   clear HI4
   obtain ⟨q2, hq2e⟩ : ∃ q : Nat, q = fl / 2 := ⟨_, rfl⟩
   obtain ⟨q4, hq4e⟩ : ∃ q : Nat, q = fl / 4 := ⟨_, rfl⟩
   rw [← hq2e] at hq2 HIC
   rw [← hq4e] at hq4 HNL
   clear hq2e hq4e
   cases ic with
   | false =>
    have hm2 : (q2 : Int) % 2 = 0 := by
     have h := HIC.out
     have := of_decide_eq_false h.symm
     omega
    clear HIC
    have cb : ∀ i : Nat, _ = _ := H1.out.1.cell
    simp only [setC] at cb
    have hcn := refNot_any S V0
    unfold setV setC at hcn
    go_wp2_with fail
    refine hcn.mono ?_
    rintro e V3 ⟨rfl, hb3⟩
    have HA3 := hide (And.intro (H1.out.1.below hb3 H1.out.1.lt) (And.intro (H1.out.2.1.below hb3 H1.out.2.1.lt) (H1.out.2.2.trans (hb3.mono H1.out.2.2.size))))
    clear hb3
    generalize htB : (fun x => !S x) = TB
    have HTB := hide htB.symm
    clear htB cb hcn H1
    unfold setV setC
    go_wp2_with (refine wpList_store_row rfl _ _ _ rfl (w.heap.size + 1) 0 _ _ _ rfl rfl HA3.out.1 Tryz.sizeSetO (by simp [setC]) (by simp [Value.oneCell']) ?_)
    intro V4 hrow2 hg9 hz9
    have hrow := hrow2.out
    rw [splice_full (by rfl)] at hrow
    have H4 := hide (And.intro (show Blk V4 (w.heap.size + 1) 24 (setC TB).toArray from hrow) (And.intro (HA3.out.2.1.grown hg9 (fun e => by have := Option.some.inj e; omega)) (below_grew HA3.out.2.2 hg9 (Nat.le_refl _) (fun q hq => by rw [← Option.some.inj hq]; omega))))
    clear hrow hrow2 hg9 hz9
    clear HA3
    cases nl with
    | false =>
     have hm4 : (q4 : Int) % 2 = 0 := by
      have h := HNL.out
      have := of_decide_eq_false h.symm
      omega
     clear HNL
     have HQ := hide H4.out.2
     have cb : ∀ i : Nat, _ = _ := H4.out.1.cell
     simp only [setC] at cb
     go_wp2_with (refine wpList_store_row rfl _ _ _ rfl w.heap.size 0 _ _ _ rfl rfl HQ.out.1 Tryz.sizeAns (by simp) (by simp [Value.oneCell']) ?_)
     intro w9 hrow2 hg9 hz9
     have hrow := hrow2.out
     rw [splice_full (by rfl)] at hrow
     have hb9 := below_grew HQ.out.2 hg9 (Nat.le_refl _) (fun q hq => by rw [← Option.some.inj hq]; exact Nat.le_refl _)
     have HF := hide (And.intro hrow hb9)
     clear hrow hrow2 hg9 hz9 hb9
     go_wp2_with fail
     refine bodyPost_ret (results_cell_row rfl _ _ w.heap.size _ _ (0, 0) _ rfl HF.out.1 Tryz.underlying177 rfl Tryz.sizeAns) rfl ?_
     refine ⟨?_, HF.out.2⟩
     rw [HR2.out]
     have he : ∀ X : Nat → Bool, TB = X → (∀ n : Nat, (R5.good X n).ans = (R5.good TB n).ans) := fun X h n => by rw [h]
     rw [he _ (by rw [HTB.out]; try rfl)]
     unfold R5.ans
     first | rfl | (simp; done)
    | true =>
     have hm4 : (q4 : Int) % 2 = 1 := by
      have h := HNL.out
      have := of_decide_eq_true h.symm
      omega
     clear HNL
     go_upto_region 23 with fail
     have hzA := H4.out.1.lt
     refine wp_region_mix (fun z => Below V4.heap.size V4 z) [4] (by kernel_rfl) (fun hcl => ?_)
     have hS : Below V4.heap.size V4 V4.drew := (Below.refl _ _).drew
     refine wpAnyT_take (i := 0) hcl rfl (by kernel_rfl) (v := ?_) (fun _ _ _ h => h) hS (Or.inl ⟨rfl, fun w' hS => ?_⟩) (fun hcl => ?_)
     rotate_left
     ·skip
      have cb : ∀ i : Nat, _ = _ := (H4.out.1.below hS hzA).cell
      simp only [setC] at cb
      go_simp
      with_reducible rfl
     simp only [List.getElem_toArray, List.getElem_cons_zero, List.getElem_cons_succ, Act.put, List.setIfInBounds_toArray, List.set_cons_zero, List.set_cons_succ]
     refine wpAnyT_step (i := 1) hcl rfl (by kernel_rfl) (fun hcl => ?_)
     simp only [List.getElem_toArray, List.getElem_cons_zero, List.getElem_cons_succ, Act.put, List.setIfInBounds_toArray, List.set_cons_zero, List.set_cons_succ]
     go_wp2_with fail
     refine (refOf_one 10 _).mono ?_
     rintro e V5 ⟨rfl, hb5⟩
     generalize htC : (fun x => decide (x = UInt8.toNat 10)) = TC
     have HTC := hide htC.symm
     clear htC
     unfold setV setC
     have hS5 := hS.trans (hb5.mono hS.size)
     go_wp2_with fail
     refine ⟨hS5, ?_⟩
     clear hS hb5
     refine wpAnyT_step (i := 2) hcl rfl (by kernel_rfl) (fun hcl => ?_)
     simp only [List.getElem_toArray, List.getElem_cons_zero, List.getElem_cons_succ, Act.put, List.setIfInBounds_toArray, List.set_cons_zero, List.set_cons_succ]
     go_wp2_with fail
     refine (refNot_any TC V5).mono ?_
     rintro e V6 ⟨rfl, hb6⟩
     generalize htE : (fun x => !TC x) = TE
     have HTE := hide htE.symm
     clear htE
     unfold setV setC
     have hS6 := hS5.trans (hb6.mono hS5.size)
     go_wp2_with fail
     refine ⟨hS6, ?_⟩
     clear hS5 hb6
     refine wpAnyT_step (i := 3) hcl rfl (by kernel_rfl) (fun hcl => ?_)
     simp only [List.getElem_toArray, List.getElem_cons_zero, List.getElem_cons_succ, Act.put, List.setIfInBounds_toArray, List.set_cons_zero, List.set_cons_succ]
     go_wp2_with fail
     refine (refMeet_any TB TE V6).mono ?_
     rintro e V7 ⟨rfl, hb7⟩
     generalize htD : (fun x => TB x && TE x) = TD
     have HTD := hide htD.symm
     clear htD
     unfold setV setC
     have hS7 := hS6.trans (hb7.mono hS6.size)
     go_wp2_with fail
     refine ⟨hS7, ?_⟩
     clear hS6 hb7
     have HA7 := hide (And.intro (H4.out.1.below hS7 H4.out.1.lt) (And.intro (H4.out.2.1.below hS7 H4.out.2.1.lt) (H4.out.2.2.trans (hS7.mono H4.out.2.2.size))))
     clear hS7
     refine wpAnyT_last (i := 4) hcl rfl (by kernel_rfl) (by kernel_rfl) (fun hcl => ?_)
     simp only [List.getElem_toArray, List.getElem_cons_zero, List.getElem_cons_succ, Act.put, List.setIfInBounds_toArray, List.set_cons_zero, List.set_cons_succ]
     clear H4
     refine wpList_store_row rfl _ _ _ rfl (w.heap.size + 1) 0 _ _ _ rfl rfl HA7.out.1 Tryz.sizeSetO (by simp [setC]) (by simp [Value.oneCell']) ?_
     intro V8 hrow2 hg9 hz9
     refine wpList_nil ?_
     have hrow := hrow2.out
     rw [splice_full (by rfl)] at hrow
     have H8 := hide (And.intro (show Blk V8 (w.heap.size + 1) 24 (setC TD).toArray from hrow) (And.intro (HA7.out.2.1.grown hg9 (fun e => by have := Option.some.inj e; omega)) (below_grew HA7.out.2.2 hg9 (Nat.le_refl _) (fun q hq => by rw [← Option.some.inj hq]; omega))))
     clear hrow hrow2 hg9 hz9
     clear HA7
     refine wpAnyT_done (by kernel_rfl) ?_ _
     have HQ := hide H8.out.2
     have cb : ∀ i : Nat, _ = _ := H8.out.1.cell
     simp only [setC] at cb
     go_wp2_with (refine wpList_store_row rfl _ _ _ rfl w.heap.size 0 _ _ _ rfl rfl HQ.out.1 Tryz.sizeAns (by simp) (by simp [Value.oneCell']) ?_)
     intro w9 hrow2 hg9 hz9
     have hrow := hrow2.out
     rw [splice_full (by rfl)] at hrow
     have hb9 := below_grew HQ.out.2 hg9 (Nat.le_refl _) (fun q hq => by rw [← Option.some.inj hq]; exact Nat.le_refl _)
     have HF := hide (And.intro hrow hb9)
     clear hrow hrow2 hg9 hz9 hb9
     go_wp2_with fail
     refine bodyPost_ret (results_cell_row rfl _ _ w.heap.size _ _ (0, 0) _ rfl HF.out.1 Tryz.underlying177 rfl Tryz.sizeAns) rfl ?_
     refine ⟨?_, HF.out.2⟩
     rw [HR2.out]
     have he : ∀ X : Nat → Bool, TD = X → (∀ n : Nat, (R5.good X n).ans = (R5.good TD n).ans) := fun X h n => by rw [h]
     rw [he _ (by rw [HTD.out, HTE.out, HTC.out, HTB.out]; try rfl)]
     unfold R5.ans
     first | rfl | (simp; done)
   | true =>
    have hm2 : (q2 : Int) % 2 = 1 := by
     have h := HIC.out
     have := of_decide_eq_true h.symm
     omega
    clear HIC
    have cb : ∀ i : Nat, _ = _ := H1.out.1.cell
    simp only [setC] at cb
    have hcf := refFold_any S V0
    unfold setV setC at hcf
    go_wp2_with fail
    refine hcf.mono ?_
    rintro e V1 ⟨rfl, hb1⟩
    have HA1 := hide (And.intro (H1.out.1.below hb1 H1.out.1.lt) (And.intro (H1.out.2.1.below hb1 H1.out.2.1.lt) (H1.out.2.2.trans (hb1.mono H1.out.2.2.size))))
    clear hb1
    generalize htA : fold5 S = TA
    have HTA := hide htA.symm
    clear htA cb hcf H1
    unfold setV setC
    go_wp2_with (refine wpList_store_row rfl _ _ _ rfl (w.heap.size + 1) 0 _ _ _ rfl rfl HA1.out.1 Tryz.sizeSetO (by simp [setC]) (by simp [Value.oneCell']) ?_)
    intro V2 hrow2 hg9 hz9
    have hrow := hrow2.out
    rw [splice_full (by rfl)] at hrow
    have H2 := hide (And.intro (show Blk V2 (w.heap.size + 1) 24 (setC TA).toArray from hrow) (And.intro (HA1.out.2.1.grown hg9 (fun e => by have := Option.some.inj e; omega)) (below_grew HA1.out.2.2 hg9 (Nat.le_refl _) (fun q hq => by rw [← Option.some.inj hq]; omega))))
    clear hrow hrow2 hg9 hz9
    clear HA1
    have cb : ∀ i : Nat, _ = _ := H2.out.1.cell
    simp only [setC] at cb
    have hcn := refNot_any TA V2
    unfold setV setC at hcn
    go_wp2_with fail
    refine hcn.mono ?_
    rintro e V3 ⟨rfl, hb3⟩
    have HA3 := hide (And.intro (H2.out.1.below hb3 H2.out.1.lt) (And.intro (H2.out.2.1.below hb3 H2.out.2.1.lt) (H2.out.2.2.trans (hb3.mono H2.out.2.2.size))))
    clear hb3
    generalize htB : (fun x => !TA x) = TB
    have HTB := hide htB.symm
    clear htB cb hcn H2
    unfold setV setC
    go_wp2_with (refine wpList_store_row rfl _ _ _ rfl (w.heap.size + 1) 0 _ _ _ rfl rfl HA3.out.1 Tryz.sizeSetO (by simp [setC]) (by simp [Value.oneCell']) ?_)
    intro V4 hrow2 hg9 hz9
    have hrow := hrow2.out
    rw [splice_full (by rfl)] at hrow
    have H4 := hide (And.intro (show Blk V4 (w.heap.size + 1) 24 (setC TB).toArray from hrow) (And.intro (HA3.out.2.1.grown hg9 (fun e => by have := Option.some.inj e; omega)) (below_grew HA3.out.2.2 hg9 (Nat.le_refl _) (fun q hq => by rw [← Option.some.inj hq]; omega))))
    clear hrow hrow2 hg9 hz9
    clear HA3
    cases nl with
    | false =>
     have hm4 : (q4 : Int) % 2 = 0 := by
      have h := HNL.out
      have := of_decide_eq_false h.symm
      omega
     clear HNL
     have HQ := hide H4.out.2
     have cb : ∀ i : Nat, _ = _ := H4.out.1.cell
     simp only [setC] at cb
     go_wp2_with (refine wpList_store_row rfl _ _ _ rfl w.heap.size 0 _ _ _ rfl rfl HQ.out.1 Tryz.sizeAns (by simp) (by simp [Value.oneCell']) ?_)
     intro w9 hrow2 hg9 hz9
     have hrow := hrow2.out
     rw [splice_full (by rfl)] at hrow
     have hb9 := below_grew HQ.out.2 hg9 (Nat.le_refl _) (fun q hq => by rw [← Option.some.inj hq]; exact Nat.le_refl _)
     have HF := hide (And.intro hrow hb9)
     clear hrow hrow2 hg9 hz9 hb9
     go_wp2_with fail
     refine bodyPost_ret (results_cell_row rfl _ _ w.heap.size _ _ (0, 0) _ rfl HF.out.1 Tryz.underlying177 rfl Tryz.sizeAns) rfl ?_
     refine ⟨?_, HF.out.2⟩
     rw [HR2.out]
     have he : ∀ X : Nat → Bool, TB = X → (∀ n : Nat, (R5.good X n).ans = (R5.good TB n).ans) := fun X h n => by rw [h]
     rw [he _ (by rw [HTB.out, HTA.out]; try rfl)]
     unfold R5.ans
     first | rfl | (simp; done)
    | true =>
     have hm4 : (q4 : Int) % 2 = 1 := by
      have h := HNL.out
      have := of_decide_eq_true h.symm
      omega
     clear HNL
     go_upto_region 23 with fail
     have hzA := H4.out.1.lt
     refine wp_region_mix (fun z => Below V4.heap.size V4 z) [4] (by kernel_rfl) (fun hcl => ?_)
     have hS : Below V4.heap.size V4 V4.drew := (Below.refl _ _).drew
     refine wpAnyT_take (i := 0) hcl rfl (by kernel_rfl) (v := ?_) (fun _ _ _ h => h) hS (Or.inl ⟨rfl, fun w' hS => ?_⟩) (fun hcl => ?_)
     rotate_left
     ·skip
      have cb : ∀ i : Nat, _ = _ := (H4.out.1.below hS hzA).cell
      simp only [setC] at cb
      go_simp
      with_reducible rfl
     simp only [List.getElem_toArray, List.getElem_cons_zero, List.getElem_cons_succ, Act.put, List.setIfInBounds_toArray, List.set_cons_zero, List.set_cons_succ]
     refine wpAnyT_step (i := 1) hcl rfl (by kernel_rfl) (fun hcl => ?_)
     simp only [List.getElem_toArray, List.getElem_cons_zero, List.getElem_cons_succ, Act.put, List.setIfInBounds_toArray, List.set_cons_zero, List.set_cons_succ]
     go_wp2_with fail
     refine (refOf_one 10 _).mono ?_
     rintro e V5 ⟨rfl, hb5⟩
     generalize htC : (fun x => decide (x = UInt8.toNat 10)) = TC
     have HTC := hide htC.symm
     clear htC
     unfold setV setC
     have hS5 := hS.trans (hb5.mono hS.size)
     go_wp2_with fail
     refine ⟨hS5, ?_⟩
     clear hS hb5
     refine wpAnyT_step (i := 2) hcl rfl (by kernel_rfl) (fun hcl => ?_)
     simp only [List.getElem_toArray, List.getElem_cons_zero, List.getElem_cons_succ, Act.put, List.setIfInBounds_toArray, List.set_cons_zero, List.set_cons_succ]
     go_wp2_with fail
     refine (refNot_any TC V5).mono ?_
     rintro e V6 ⟨rfl, hb6⟩
     generalize htE : (fun x => !TC x) = TE
     have HTE := hide htE.symm
     clear htE
     unfold setV setC
     have hS6 := hS5.trans (hb6.mono hS5.size)
     go_wp2_with fail
     refine ⟨hS6, ?_⟩
     clear hS5 hb6
     refine wpAnyT_step (i := 3) hcl rfl (by kernel_rfl) (fun hcl => ?_)
     simp only [List.getElem_toArray, List.getElem_cons_zero, List.getElem_cons_succ, Act.put, List.setIfInBounds_toArray, List.set_cons_zero, List.set_cons_succ]
     go_wp2_with fail
     refine (refMeet_any TB TE V6).mono ?_
     rintro e V7 ⟨rfl, hb7⟩
     generalize htD : (fun x => TB x && TE x) = TD
     have HTD := hide htD.symm
     clear htD
     unfold setV setC
     have hS7 := hS6.trans (hb7.mono hS6.size)
     go_wp2_with fail
     refine ⟨hS7, ?_⟩
     clear hS6 hb7
     have HA7 := hide (And.intro (H4.out.1.below hS7 H4.out.1.lt) (And.intro (H4.out.2.1.below hS7 H4.out.2.1.lt) (H4.out.2.2.trans (hS7.mono H4.out.2.2.size))))
     clear hS7
     refine wpAnyT_last (i := 4) hcl rfl (by kernel_rfl) (by kernel_rfl) (fun hcl => ?_)
     simp only [List.getElem_toArray, List.getElem_cons_zero, List.getElem_cons_succ, Act.put, List.setIfInBounds_toArray, List.set_cons_zero, List.set_cons_succ]
     clear H4
     refine wpList_store_row rfl _ _ _ rfl (w.heap.size + 1) 0 _ _ _ rfl rfl HA7.out.1 Tryz.sizeSetO (by simp [setC]) (by simp [Value.oneCell']) ?_
     intro V8 hrow2 hg9 hz9
     refine wpList_nil ?_
     have hrow := hrow2.out
     rw [splice_full (by rfl)] at hrow
     have H8 := hide (And.intro (show Blk V8 (w.heap.size + 1) 24 (setC TD).toArray from hrow) (And.intro (HA7.out.2.1.grown hg9 (fun e => by have := Option.some.inj e; omega)) (below_grew HA7.out.2.2 hg9 (Nat.le_refl _) (fun q hq => by rw [← Option.some.inj hq]; omega))))
     clear hrow hrow2 hg9 hz9
     clear HA7
     refine wpAnyT_done (by kernel_rfl) ?_ _
     have HQ := hide H8.out.2
     have cb : ∀ i : Nat, _ = _ := H8.out.1.cell
     simp only [setC] at cb
     go_wp2_with (refine wpList_store_row rfl _ _ _ rfl w.heap.size 0 _ _ _ rfl rfl HQ.out.1 Tryz.sizeAns (by simp) (by simp [Value.oneCell']) ?_)
     intro w9 hrow2 hg9 hz9
     have hrow := hrow2.out
     rw [splice_full (by rfl)] at hrow
     have hb9 := below_grew HQ.out.2 hg9 (Nat.le_refl _) (fun q hq => by rw [← Option.some.inj hq]; exact Nat.le_refl _)
     have HF := hide (And.intro hrow hb9)
     clear hrow hrow2 hg9 hz9 hb9
     go_wp2_with fail
     refine bodyPost_ret (results_cell_row rfl _ _ w.heap.size _ _ (0, 0) _ rfl HF.out.1 Tryz.underlying177 rfl Tryz.sizeAns) rfl ?_
     refine ⟨?_, HF.out.2⟩
     rw [HR2.out]
     have he : ∀ X : Nat → Bool, TD = X → (∀ n : Nat, (R5.good X n).ans = (R5.good TD n).ans) := fun X h n => by rw [h]
     rw [he _ (by rw [HTD.out, HTE.out, HTC.out, HTB.out, HTA.out]; try rfl)]
     unfold R5.ans
     first | rfl | (simp; done)
  case neg =>
   have HR0 := hide (show (p.size ≤ i → R = .bad 0 (z : Int)) ∧ (¬ p.size ≤ i → R = (match itemP p i (z : Int) with
    | .bad g y => R5.bad g y
    | .good T j => loopP p z f k j (fun x => S x || T x))) from ⟨fun h => by rw [HL.out, loopP, if_pos h], fun h => by
     rw [HL.out, loopP, if_neg h, if_neg hbr]
     all_goals (cases itemP p i (z : Int) <;> rfl)⟩)
   clear HL
   have hcase : (¬ f < i) ∨ (f < i ∧ decide (pb p i = 93) = false) := by
    by_cases h : f < i
    ·exact .inr ⟨h, decide_eq_false (fun h2 => hbr ⟨h2, h⟩)⟩
    ·exact .inl h
   clear hbr
   by_cases hge : p.size ≤ i
   case pos =>
    have HR2 := hide (show r = .bad 0 (z : Int) by rw [HR.out, HR0.out.1 hge]; rfl)
    clear HR HR0
    have g1 : (p.size : Int) ≤ (i : Int) := by omega
    have g2 : (i : Int) ≥ (p.size : Int) := by omega
    have HQ := hide H1.out.2
    clear H1
    rcases hcase with h | ⟨h, hp⟩
    ·rw [decide_eq_false h]
     clear h hge HI3
     go_wp2_with (refine wpList_store_row rfl _ _ _ rfl w.heap.size 0 _ _ _ rfl rfl HQ.out.1 Tryz.sizeAns (by simp) (by simp [Value.oneCell']) ?_)
     intro w9 hrow2 hg9 hz9
     have hrow := hrow2.out
     rw [splice_full (by rfl)] at hrow
     have hb9 := below_grew HQ.out.2 hg9 (Nat.le_refl _) (fun q hq => by rw [← Option.some.inj hq]; exact Nat.le_refl _)
     have HF := hide (And.intro hrow hb9)
     clear hrow hrow2 hg9 hz9 hb9
     go_wp2_with fail
     refine bodyPost_ret (results_cell_row rfl _ _ w.heap.size _ _ (0, 0) _ rfl HF.out.1 Tryz.underlying177 rfl Tryz.sizeAns) rfl ?_
     refine ⟨?_, HF.out.2⟩
     rw [HR2.out]
     first | rfl | (unfold R5.ans; simp) | (unfold R5.ans; simp; omega)
    ·rw [decide_eq_true h]
     have HI4 := hide (HI3.out false hp)
     clear h hge HI3 hp
     go_wp2_with fail
     refine (HI4.out _).mono ?_
     rintro e V0 ⟨rfl, hw⟩
     subst hw
     go_wp2_with (refine wpList_store_row rfl _ _ _ rfl w.heap.size 0 _ _ _ rfl rfl HQ.out.1 Tryz.sizeAns (by simp) (by simp [Value.oneCell']) ?_)
     intro w9 hrow2 hg9 hz9
     have hrow := hrow2.out
     rw [splice_full (by rfl)] at hrow
     have hb9 := below_grew HQ.out.2 hg9 (Nat.le_refl _) (fun q hq => by rw [← Option.some.inj hq]; exact Nat.le_refl _)
     have HF := hide (And.intro hrow hb9)
     clear hrow hrow2 hg9 hz9 hb9
     go_wp2_with fail
     refine bodyPost_ret (results_cell_row rfl _ _ w.heap.size _ _ (0, 0) _ rfl HF.out.1 Tryz.underlying177 rfl Tryz.sizeAns) rfl ?_
     refine ⟨?_, HF.out.2⟩
     rw [HR2.out]
     first | rfl | (unfold R5.ans; simp) | (unfold R5.ans; simp; omega)
   case neg =>
    have hi : i < p.size := by omega
    have hR := HR0.out.2 hge
    clear HR0
    have g1 : ¬ (p.size : Int) ≤ (i : Int) := by omega
    have hnx := fun (T : Nat → Bool) (j : Nat) (h : itemP p i (z : Int) = .good T j) => itemP_next hi h
    have HRL := hide hR
    clear hR
    have HIT := hide (fun y => refItem_any p i (z : Int) hi HS.out y)
    generalize itemP p i (z : Int) = q at *
    rcases hcase with h | ⟨h, hp⟩
    ·rw [decide_eq_false h]
     clear h hge HI3
     go_wp2_with fail
     refine (HIT.out _).mono ?_
     rintro e V1 ⟨rfl, hb1⟩
     have H2 := hide (And.intro (H1.out.1.below hb1 H1.out.1.lt) (And.intro (H1.out.2.1.below hb1 H1.out.2.1.lt) (H1.out.2.2.trans (hb1.mono H1.out.2.2.size))))
     clear hb1
     clear HIT H1
     have hal := (Below.refl V1.heap.size V1).alloc (Nat.le_refl _) (.cells #[.int .u64 0, .int .u64 0, .int .u64 0, .int .u64 0, .int .i64 0, .int .i64 0, .int .i64 0] 177)
     have hzb := Blk.new V1 177 #[.int .u64 0, .int .u64 0, .int .u64 0, .int .u64 0, .int .i64 0, .int .i64 0, .int .i64 0]
     have hzq := H2.out.2.2.size
     have hz1 := H2.out.1.lt
     cases q with
     | good T j =>
      have hj := hnx T j rfl
      have HRR := hide (show R = loopP p z f k j (fun x => S x || T x) from HRL.out)
      clear HRL hnx
      unfold R5.ans
      go_wp2_with (refine wpList_store_row rfl _ _ _ rfl V1.heap.size 0 _ _ _ rfl rfl hzb Tryz.sizeAns (by simp) (by simp [Value.oneCell']) ?_)
      intro V2 hrow2 hg9 hz9
      have hrow := hrow2.out
      rw [splice_full (by rfl)] at hrow
      have hbE : Below V1.heap.size V1 V2 := below_grew hal hg9 (Nat.le_refl _) (fun q hq => by rw [← Option.some.inj hq]; exact Nat.le_refl _)
      have H11 := hide hrow
      have hzV2 := hbE.size
      have H3 := hide (And.intro (H2.out.1.below hbE H2.out.1.lt) (And.intro (H2.out.2.1.below hbE H2.out.2.1.lt) (H2.out.2.2.trans (hbE.mono H2.out.2.2.size))))
      clear hbE
      clear hrow hrow2 hg9 hz9 hal hzb H2
      have hz11 := H11.out.lt
      generalize hg11 : V1.heap.size = g11 at *
      clear hg11
      have cd : ∀ i : Nat, _ = _ := H11.out.cell
      have cb : ∀ i : Nat, _ = _ := H3.out.1.cell
      simp only [setC] at cb
      have hcj := fun y => refJoin_any S T y
      unfold setV setC at hcj
      go_wp2_with fail
      refine (hcj _).mono ?_
      rintro e V3 ⟨rfl, hb3⟩
      have H11b := hide (H11.out.below hb3 hz11)
      have H4 := hide (And.intro (H3.out.1.below hb3 H3.out.1.lt) (And.intro (H3.out.2.1.below hb3 H3.out.2.1.lt) (H3.out.2.2.trans (hb3.mono H3.out.2.2.size))))
      clear hb3
      have hz5 := H4.out.2.2.size
      generalize htJ : (fun x => S x || T x) = TJ at *
      clear htJ cb cd hcj H3 H11
      unfold setV setC
      go_wp2_with (refine wpList_store_row rfl _ _ _ rfl (w.heap.size + 1) 0 _ _ _ rfl rfl H4.out.1 Tryz.sizeSetO (by simp [setC]) (by simp [Value.oneCell']) ?_)
      intro V4 hrow2 hg9 hz9
      have H11c := hide (H11b.out.grown hg9 (fun e => by have := Option.some.inj e; omega))
      have hrow := hrow2.out
      rw [splice_full (by rfl)] at hrow
      have H5 := hide (And.intro (show Blk V4 (w.heap.size + 1) 24 (setC TJ).toArray from hrow) (And.intro (H4.out.2.1.grown hg9 (fun e => by have := Option.some.inj e; omega)) (below_grew H4.out.2.2 hg9 (Nat.le_refl _) (fun q hq => by rw [← Option.some.inj hq]; omega))))
      clear hrow hrow2 hg9 hz9
      clear H4
      have ce : ∀ i : Nat, _ = _ := H11c.out.cell
      go_wp2_with fail
      go_roundw
      case rel => exact ⟨j, k, TJ, rfl, by rw [decide_eq_true (by have := HFI.out.2.1; omega)], by have := HFI.out.2.1; omega, hj.2, by have := HN0.out; omega, HRR.out, H5.out.1, H5.out.2.1, H5.out.2.2⟩
      case measure => simp [intOf]; have := hj.1; omega
     | bad kg y =>
      have HR2 := hide (show r = .bad kg y by rw [HR.out, HRL.out]; rfl)
      clear HRL HR hnx
      unfold R5.ans
      go_wp2_with (refine wpList_store_row rfl _ _ _ rfl V1.heap.size 0 _ _ _ rfl rfl hzb Tryz.sizeAns (by simp) (by simp [Value.oneCell']) ?_)
      intro V2 hrow2 hg9 hz9
      have hrow := hrow2.out
      rw [splice_full (by rfl)] at hrow
      have hbE : Below V1.heap.size V1 V2 := below_grew hal hg9 (Nat.le_refl _) (fun q hq => by rw [← Option.some.inj hq]; exact Nat.le_refl _)
      have H11 := hide hrow
      have hzV2 := hbE.size
      have H3 := hide (And.intro (H2.out.1.below hbE H2.out.1.lt) (And.intro (H2.out.2.1.below hbE H2.out.2.1.lt) (H2.out.2.2.trans (hbE.mono H2.out.2.2.size))))
      clear hbE
      clear hrow hrow2 hg9 hz9 hal hzb H2
      have hz11 := H11.out.lt
      generalize hg11 : V1.heap.size = g11 at *
      clear hg11
      have cd : ∀ i : Nat, _ = _ := H11.out.cell
      have hcode : ¬ (kg : Int) + 1 = 0 := by omega
      have HQ := hide H3.out.2
      go_wp2_with (refine wpList_store_row rfl _ _ _ rfl w.heap.size 0 _ _ _ rfl rfl HQ.out.1 Tryz.sizeAns (by simp) (by simp [Value.oneCell']) ?_)
      intro w9 hrow2 hg9 hz9
      have hrow := hrow2.out
      rw [splice_full (by rfl)] at hrow
      have hb9 := below_grew HQ.out.2 hg9 (Nat.le_refl _) (fun q hq => by rw [← Option.some.inj hq]; exact Nat.le_refl _)
      have HF := hide (And.intro hrow hb9)
      clear hrow hrow2 hg9 hz9 hb9
      go_wp2_with fail
      refine bodyPost_ret (results_cell_row rfl _ _ w.heap.size _ _ (0, 0) _ rfl HF.out.1 Tryz.underlying177 rfl Tryz.sizeAns) rfl ?_
      refine ⟨?_, HF.out.2⟩
      rw [HR2.out]
      first | rfl | (unfold R5.ans; simp)
    ·rw [decide_eq_true h]
     have HI4 := hide (HI3.out false hp)
     clear h hge HI3 hp
     go_wp2_with fail
     refine (HI4.out _).mono ?_
     rintro e V0 ⟨rfl, hw⟩
     subst hw
     go_wp2_with fail
     refine (HIT.out _).mono ?_
     rintro e V1 ⟨rfl, hb1⟩
     have H2 := hide (And.intro (H1.out.1.below hb1 H1.out.1.lt) (And.intro (H1.out.2.1.below hb1 H1.out.2.1.lt) (H1.out.2.2.trans (hb1.mono H1.out.2.2.size))))
     clear hb1
     clear HIT H1
     have hal := (Below.refl V1.heap.size V1).alloc (Nat.le_refl _) (.cells #[.int .u64 0, .int .u64 0, .int .u64 0, .int .u64 0, .int .i64 0, .int .i64 0, .int .i64 0] 177)
     have hzb := Blk.new V1 177 #[.int .u64 0, .int .u64 0, .int .u64 0, .int .u64 0, .int .i64 0, .int .i64 0, .int .i64 0]
     have hzq := H2.out.2.2.size
     have hz1 := H2.out.1.lt
     cases q with
     | good T j =>
      have hj := hnx T j rfl
      have HRR := hide (show R = loopP p z f k j (fun x => S x || T x) from HRL.out)
      clear HRL hnx
      unfold R5.ans
      go_wp2_with (refine wpList_store_row rfl _ _ _ rfl V1.heap.size 0 _ _ _ rfl rfl hzb Tryz.sizeAns (by simp) (by simp [Value.oneCell']) ?_)
      intro V2 hrow2 hg9 hz9
      have hrow := hrow2.out
      rw [splice_full (by rfl)] at hrow
      have hbE : Below V1.heap.size V1 V2 := below_grew hal hg9 (Nat.le_refl _) (fun q hq => by rw [← Option.some.inj hq]; exact Nat.le_refl _)
      have H11 := hide hrow
      have hzV2 := hbE.size
      have H3 := hide (And.intro (H2.out.1.below hbE H2.out.1.lt) (And.intro (H2.out.2.1.below hbE H2.out.2.1.lt) (H2.out.2.2.trans (hbE.mono H2.out.2.2.size))))
      clear hbE
      clear hrow hrow2 hg9 hz9 hal hzb H2
      have hz11 := H11.out.lt
      generalize hg11 : V1.heap.size = g11 at *
      clear hg11
      have cd : ∀ i : Nat, _ = _ := H11.out.cell
      have cb : ∀ i : Nat, _ = _ := H3.out.1.cell
      simp only [setC] at cb
      have hcj := fun y => refJoin_any S T y
      unfold setV setC at hcj
      go_wp2_with fail
      refine (hcj _).mono ?_
      rintro e V3 ⟨rfl, hb3⟩
      have H11b := hide (H11.out.below hb3 hz11)
      have H4 := hide (And.intro (H3.out.1.below hb3 H3.out.1.lt) (And.intro (H3.out.2.1.below hb3 H3.out.2.1.lt) (H3.out.2.2.trans (hb3.mono H3.out.2.2.size))))
      clear hb3
      have hz5 := H4.out.2.2.size
      generalize htJ : (fun x => S x || T x) = TJ at *
      clear htJ cb cd hcj H3 H11
      unfold setV setC
      go_wp2_with (refine wpList_store_row rfl _ _ _ rfl (w.heap.size + 1) 0 _ _ _ rfl rfl H4.out.1 Tryz.sizeSetO (by simp [setC]) (by simp [Value.oneCell']) ?_)
      intro V4 hrow2 hg9 hz9
      have H11c := hide (H11b.out.grown hg9 (fun e => by have := Option.some.inj e; omega))
      have hrow := hrow2.out
      rw [splice_full (by rfl)] at hrow
      have H5 := hide (And.intro (show Blk V4 (w.heap.size + 1) 24 (setC TJ).toArray from hrow) (And.intro (H4.out.2.1.grown hg9 (fun e => by have := Option.some.inj e; omega)) (below_grew H4.out.2.2 hg9 (Nat.le_refl _) (fun q hq => by rw [← Option.some.inj hq]; omega))))
      clear hrow hrow2 hg9 hz9
      clear H4
      have ce : ∀ i : Nat, _ = _ := H11c.out.cell
      go_wp2_with fail
      go_roundw
      case rel => exact ⟨j, k, TJ, rfl, by rw [decide_eq_true (by have := HFI.out.2.1; omega)], by have := HFI.out.2.1; omega, hj.2, by have := HN0.out; omega, HRR.out, H5.out.1, H5.out.2.1, H5.out.2.2⟩
      case measure => simp [intOf]; have := hj.1; omega
     | bad kg y =>
      have HR2 := hide (show r = .bad kg y by rw [HR.out, HRL.out]; rfl)
      clear HRL HR hnx
      unfold R5.ans
      go_wp2_with (refine wpList_store_row rfl _ _ _ rfl V1.heap.size 0 _ _ _ rfl rfl hzb Tryz.sizeAns (by simp) (by simp [Value.oneCell']) ?_)
      intro V2 hrow2 hg9 hz9
      have hrow := hrow2.out
      rw [splice_full (by rfl)] at hrow
      have hbE : Below V1.heap.size V1 V2 := below_grew hal hg9 (Nat.le_refl _) (fun q hq => by rw [← Option.some.inj hq]; exact Nat.le_refl _)
      have H11 := hide hrow
      have hzV2 := hbE.size
      have H3 := hide (And.intro (H2.out.1.below hbE H2.out.1.lt) (And.intro (H2.out.2.1.below hbE H2.out.2.1.lt) (H2.out.2.2.trans (hbE.mono H2.out.2.2.size))))
      clear hbE
      clear hrow hrow2 hg9 hz9 hal hzb H2
      have hz11 := H11.out.lt
      generalize hg11 : V1.heap.size = g11 at *
      clear hg11
      have cd : ∀ i : Nat, _ = _ := H11.out.cell
      have hcode : ¬ (kg : Int) + 1 = 0 := by omega
      have HQ := hide H3.out.2
      go_wp2_with (refine wpList_store_row rfl _ _ _ rfl w.heap.size 0 _ _ _ rfl rfl HQ.out.1 Tryz.sizeAns (by simp) (by simp [Value.oneCell']) ?_)
      intro w9 hrow2 hg9 hz9
      have hrow := hrow2.out
      rw [splice_full (by rfl)] at hrow
      have hb9 := below_grew HQ.out.2 hg9 (Nat.le_refl _) (fun q hq => by rw [← Option.some.inj hq]; exact Nat.le_refl _)
      have HF := hide (And.intro hrow hb9)
      clear hrow hrow2 hg9 hz9 hb9
      go_wp2_with fail
      refine bodyPost_ret (results_cell_row rfl _ _ w.heap.size _ _ (0, 0) _ rfl HF.out.1 Tryz.underlying177 rfl Tryz.sizeAns) rfl ?_
      refine ⟨?_, HF.out.2⟩
      rw [HR2.out]
      first | rfl | (unfold R5.ans; simp)
set_option maxRecDepth 100000 in
set_option maxHeartbeats 4000000 in
theorem refRead_false (p : ByteArray) (z fl : Nat) (hfl : fl < 8) (hs : p.size < 4294967281) (hz91 : pb p z = 91) (ht : decide (pb p (z + 1) = 94) = false) (w : World) : Calls Tryz.prog 137 #[.string p, .int .i64 (z : Int), .int .i64 (fl : Int)] w fun e w' => e = .returned (.agg (readP p z (decide (fl / 2 % 2 = 1)) (decide (fl / 4 % 2 = 1))).ans.toArray) ∧ Below w.heap.size w w' := by
 obtain ⟨ic, hic⟩ : ∃ ic, ic = decide (fl / 2 % 2 = 1) := ⟨_, rfl⟩
 obtain ⟨nl, hnl⟩ : ∃ nl, nl = decide (fl / 4 % 2 = 1) := ⟨_, rfl⟩
 rw [← hic, ← hnl]
 have hzs : z < p.size := pb_in (by omega)
 obtain ⟨r, hr⟩ : ∃ r, r = readP p z ic nl := ⟨_, rfl⟩
 rw [← hr]
 obtain ⟨f, hf⟩ : ∃ f, f = z + 1 := ⟨_, rfl⟩
 obtain ⟨R, hR⟩ : ∃ R, R = loopP p z f (p.size + 1) f (fun _ => false) := ⟨_, rfl⟩
 have hP : ¬ pb p (z + 1) = 94 := of_decide_eq_false ht
 have HR := hide (show r = outP false ic nl R by rw [hr, hR, hf]; unfold readP; rw [if_neg hP, ht])
 have hfs : f ≤ p.size := by omega
 have HLP := hide hR
 clear hr hR hP
 have HIC := hide hic
 have HNL := hide hnl
 clear hic hnl
 have hb := (Below.refl w.heap.size w).alloc (Nat.le_refl _) (.cells #[.int .u64 0, .int .u64 0, .int .u64 0, .int .u64 0, .int .i64 0, .int .i64 0, .int .i64 0] 177)
 have h1 := Blk.new w 177 #[.int .u64 0, .int .u64 0, .int .u64 0, .int .u64 0, .int .i64 0, .int .i64 0, .int .i64 0]
 have H0 := hide (And.intro h1 hb)
 clear hb h1
 have HS := hide hs
 have HI1 := hide (is5_lit p z 91 91 rfl (by decide) true (decide_eq_true hz91))
 have HI2 := hide (is5_lit p (z + 1) 94 94 rfl (by decide) false ht)
 have hcc : ((z + 1 : Nat) : Int) = (z : Int) + 1 := by omega
 rw [hcc] at HI2
 have HFL := hide hfl
 have hw1 : IntKind.i64.wrap ((z : Int) + 1) = (z : Int) + 1 := by simp [IntKind.wrap, IntKind.bits, IntKind.signed]; omega
 have hw2 : IntKind.i64.wrap ((z : Int) + 1 + 1) = (z : Int) + 2 := by simp [IntKind.wrap, IntKind.bits, IntKind.signed]; omega
 have HZS := hide hzs
 clear hcc hz91 ht hs hzs hfl
 have HSZ := hide (show (w.alloc (.cells #[.int .u64 0, .int .u64 0, .int .u64 0, .int .u64 0, .int .i64 0, .int .i64 0, .int .i64 0] 177)).heap.size = w.heap.size + 1 by simp)
 go_enter Tryz.func137, Tryz.ntmps137
 go_upto_region 1 with fail
 generalize (w.alloc (.cells #[.int .u64 0, .int .u64 0, .int .u64 0, .int .u64 0, .int .i64 0, .int .i64 0, .int .i64 0] 177)) = W at *
 go_wp2_with fail
 refine (HI1.out _).mono ?_
 rintro e W1 ⟨rfl, hw⟩
 subst hw
 go_wp2_with fail
 refine (HI2.out _).mono ?_
 rintro e W2 ⟨rfl, hw⟩
 subst hw
 have hzW := HSZ.out
 have hal := (Below.refl W2.heap.size W2).alloc (Nat.le_refl _) (.cells #[.int .u64 0, .int .u64 0, .int .u64 0, .int .u64 0] 24)
 have hzb := Blk.new W2 24 #[.int .u64 0, .int .u64 0, .int .u64 0, .int .u64 0]
 rw [hzW] at hzb
 go_wp2_with (refine wpList_store_row rfl _ _ _ rfl (w.heap.size + 1) 0 _ _ _ rfl rfl hzb Tryz.sizeSetO (by simp) (by simp [Value.oneCell']) ?_)
 intro W3 hrow2 hg9 hz9
 have hrow := hrow2.out
 rw [splice_full (by rfl)] at hrow
 have hbE : Below W2.heap.size W2 W3 := below_grew hal hg9 (Nat.le_refl _) (fun q hq => by rw [← Option.some.inj hq]; omega)
 have HA := hide (And.intro (show Blk W3 (w.heap.size + 1) 24 (setC fun _ => false).toArray by rw [zeroC]; exact hrow) (And.intro (H0.out.1.below hbE H0.out.1.lt) (H0.out.2.trans (hbE.mono H0.out.2.size))))
 clear hrow hrow2 hg9 hz9 hbE hal hzb H0 HI1 HI2 hzW HSZ
 go_wp2_with fail
 go_loopw [7, 10] (fun v bv wr => ∃ (i n : Nat) (S : Nat → Bool), v = .int .i64 (i : Int) ∧ bv = .bool (decide (f < i)) ∧ f ≤ i ∧ i ≤ p.size ∧ p.size < i + n ∧ R = loopP p z f n i S ∧ Blk wr (w.heap.size + 1) 24 (setC S).toArray ∧ Blk wr w.heap.size 177 #[.int .u64 0, .int .u64 0, .int .u64 0, .int .u64 0, .int .i64 0, .int .i64 0, .int .i64 0] ∧ Below w.heap.size w wr) (fun v _ _ => p.size - (intOf v).toNat)
 case atStart => exact ⟨f, p.size + 1, fun _ => false, by rw [hf]; go_num, by rw [decide_eq_false (by omega)], by omega, hfs, by omega, HLP.out, HA.out.1, HA.out.2.1, HA.out.2.2⟩
 case round =>
  obtain ⟨i, n, S, rfl, rfl, hfi, hip, hn, hl, h1, h2, h3⟩ := hrel
  have H1 := hide (And.intro h1 (And.intro h2 h3))
  clear HA HLP h1 h2 h3
  have HL := hide hl
  clear hl
  have HN0 := hide hn
  clear hn
  have HFI := hide (And.intro hf (And.intro hfi (And.intro hip hfs)))
  clear hf hfi hfs hip
  have HI3 := hide (fun b h => is5_lit p i 93 93 rfl (by decide) b h)
  obtain ⟨k, hk⟩ : ∃ k, n = k + 1 := ⟨n - 1, by have := HN0.out; have := HFI.out.2.2.1; omega⟩
  subst hk
  by_cases hbr : pb p i = 93 ∧ f < i
  case pos =>
   have hi : i < p.size := pb_in (by omega)
   have hR : R = .good S i := by rw [HL.out, loopP, if_neg (by omega), if_pos hbr]
   have HR2 := hide (show r = .good (finP false ic nl S) (i + 1) by rw [HR.out, hR]; rfl)
   clear HL HR hR
   have HI4 := hide (HI3.out true (decide_eq_true hbr.1))
   rw [decide_eq_true hbr.2]
   have hw3 : IntKind.i64.wrap ((i : Int) + 1) = (i : Int) + 1 := by have := HS.out; simp [IntKind.wrap, IntKind.bits, IntKind.signed]; omega
   clear hbr HN0 HI3
   have hq2 : IntKind.i64.wrap ((fl : Int) / 2) = ((fl / 2 : Nat) : Int) := by have := HFL.out; simp [IntKind.wrap, IntKind.bits, IntKind.signed]; omega
   have hq4 : IntKind.i64.wrap ((fl : Int) / 4) = ((fl / 4 : Nat) : Int) := by have := HFL.out; simp [IntKind.wrap, IntKind.bits, IntKind.signed]; omega
   go_wp2_with fail
   refine (HI4.out _).mono ?_
   rintro e V0 ⟨rfl, hw⟩
   subst hw
   clear HI4
   obtain ⟨q2, hq2e⟩ : ∃ q : Nat, q = fl / 2 := ⟨_, rfl⟩
   obtain ⟨q4, hq4e⟩ : ∃ q : Nat, q = fl / 4 := ⟨_, rfl⟩
   rw [← hq2e] at hq2 HIC
   rw [← hq4e] at hq4 HNL
   clear hq2e hq4e
   cases ic with
   | false =>
    have hm2 : (q2 : Int) % 2 = 0 := by
     have h := HIC.out
     have := of_decide_eq_false h.symm
     omega
    clear HIC
    have HQ := hide H1.out.2
    have cb : ∀ i : Nat, _ = _ := H1.out.1.cell
    simp only [setC] at cb
    go_wp2_with (refine wpList_store_row rfl _ _ _ rfl w.heap.size 0 _ _ _ rfl rfl HQ.out.1 Tryz.sizeAns (by simp) (by simp [Value.oneCell']) ?_)
    intro w9 hrow2 hg9 hz9
    have hrow := hrow2.out
    rw [splice_full (by rfl)] at hrow
    have hb9 := below_grew HQ.out.2 hg9 (Nat.le_refl _) (fun q hq => by rw [← Option.some.inj hq]; exact Nat.le_refl _)
    have HF := hide (And.intro hrow hb9)
    clear hrow hrow2 hg9 hz9 hb9
    go_wp2_with fail
    refine bodyPost_ret (results_cell_row rfl _ _ w.heap.size _ _ (0, 0) _ rfl HF.out.1 Tryz.underlying177 rfl Tryz.sizeAns) rfl ?_
    refine ⟨?_, HF.out.2⟩
    rw [HR2.out]
    have he : ∀ X : Nat → Bool, S = X → (∀ n : Nat, (R5.good X n).ans = (R5.good S n).ans) := fun X h n => by rw [h]
    rw [he _ (by rfl)]
    unfold R5.ans
    first | rfl | (simp; done)
   | true =>
    have hm2 : (q2 : Int) % 2 = 1 := by
     have h := HIC.out
     have := of_decide_eq_true h.symm
     omega
    clear HIC
    have cb : ∀ i : Nat, _ = _ := H1.out.1.cell
    simp only [setC] at cb
    have hcf := refFold_any S V0
    unfold setV setC at hcf
    go_wp2_with fail
    refine hcf.mono ?_
    rintro e V1 ⟨rfl, hb1⟩
    have HA1 := hide (And.intro (H1.out.1.below hb1 H1.out.1.lt) (And.intro (H1.out.2.1.below hb1 H1.out.2.1.lt) (H1.out.2.2.trans (hb1.mono H1.out.2.2.size))))
    clear hb1
    generalize htA : fold5 S = TA
    have HTA := hide htA.symm
    clear htA cb hcf H1
    unfold setV setC
    go_wp2_with (refine wpList_store_row rfl _ _ _ rfl (w.heap.size + 1) 0 _ _ _ rfl rfl HA1.out.1 Tryz.sizeSetO (by simp [setC]) (by simp [Value.oneCell']) ?_)
    intro V2 hrow2 hg9 hz9
    have hrow := hrow2.out
    rw [splice_full (by rfl)] at hrow
    have H2 := hide (And.intro (show Blk V2 (w.heap.size + 1) 24 (setC TA).toArray from hrow) (And.intro (HA1.out.2.1.grown hg9 (fun e => by have := Option.some.inj e; omega)) (below_grew HA1.out.2.2 hg9 (Nat.le_refl _) (fun q hq => by rw [← Option.some.inj hq]; omega))))
    clear hrow hrow2 hg9 hz9
    clear HA1
    have HQ := hide H2.out.2
    have cb : ∀ i : Nat, _ = _ := H2.out.1.cell
    simp only [setC] at cb
    go_wp2_with (refine wpList_store_row rfl _ _ _ rfl w.heap.size 0 _ _ _ rfl rfl HQ.out.1 Tryz.sizeAns (by simp) (by simp [Value.oneCell']) ?_)
    intro w9 hrow2 hg9 hz9
    have hrow := hrow2.out
    rw [splice_full (by rfl)] at hrow
    have hb9 := below_grew HQ.out.2 hg9 (Nat.le_refl _) (fun q hq => by rw [← Option.some.inj hq]; exact Nat.le_refl _)
    have HF := hide (And.intro hrow hb9)
    clear hrow hrow2 hg9 hz9 hb9
    go_wp2_with fail
    refine bodyPost_ret (results_cell_row rfl _ _ w.heap.size _ _ (0, 0) _ rfl HF.out.1 Tryz.underlying177 rfl Tryz.sizeAns) rfl ?_
    refine ⟨?_, HF.out.2⟩
    rw [HR2.out]
    have he : ∀ X : Nat → Bool, TA = X → (∀ n : Nat, (R5.good X n).ans = (R5.good TA n).ans) := fun X h n => by rw [h]
    rw [he _ (by rw [HTA.out]; try rfl)]
    unfold R5.ans
    first | rfl | (simp; done)
  case neg =>
   have HR0 := hide (show (p.size ≤ i → R = .bad 0 (z : Int)) ∧ (¬ p.size ≤ i → R = (match itemP p i (z : Int) with
    | .bad g y => R5.bad g y
    | .good T j => loopP p z f k j (fun x => S x || T x))) from ⟨fun h => by rw [HL.out, loopP, if_pos h], fun h => by
     rw [HL.out, loopP, if_neg h, if_neg hbr]
     all_goals (cases itemP p i (z : Int) <;> rfl)⟩)
   clear HL
   have hcase : (¬ f < i) ∨ (f < i ∧ decide (pb p i = 93) = false) := by
    by_cases h : f < i
    ·exact .inr ⟨h, decide_eq_false (fun h2 => hbr ⟨h2, h⟩)⟩
    ·exact .inl h
   clear hbr
   by_cases hge : p.size ≤ i
   case pos =>
    have HR2 := hide (show r = .bad 0 (z : Int) by rw [HR.out, HR0.out.1 hge]; rfl)
    clear HR HR0
    have g1 : (p.size : Int) ≤ (i : Int) := by omega
    have g2 : (i : Int) ≥ (p.size : Int) := by omega
    have HQ := hide H1.out.2
    clear H1
    rcases hcase with h | ⟨h, hp⟩
    ·rw [decide_eq_false h]
     clear h hge HI3
     go_wp2_with (refine wpList_store_row rfl _ _ _ rfl w.heap.size 0 _ _ _ rfl rfl HQ.out.1 Tryz.sizeAns (by simp) (by simp [Value.oneCell']) ?_)
     intro w9 hrow2 hg9 hz9
     have hrow := hrow2.out
     rw [splice_full (by rfl)] at hrow
     have hb9 := below_grew HQ.out.2 hg9 (Nat.le_refl _) (fun q hq => by rw [← Option.some.inj hq]; exact Nat.le_refl _)
     have HF := hide (And.intro hrow hb9)
     clear hrow hrow2 hg9 hz9 hb9
     go_wp2_with fail
     refine bodyPost_ret (results_cell_row rfl _ _ w.heap.size _ _ (0, 0) _ rfl HF.out.1 Tryz.underlying177 rfl Tryz.sizeAns) rfl ?_
     refine ⟨?_, HF.out.2⟩
     rw [HR2.out]
     first | rfl | (unfold R5.ans; simp) | (unfold R5.ans; simp; omega)
    ·rw [decide_eq_true h]
     have HI4 := hide (HI3.out false hp)
     clear h hge HI3 hp
     go_wp2_with fail
     refine (HI4.out _).mono ?_
     rintro e V0 ⟨rfl, hw⟩
     subst hw
     go_wp2_with (refine wpList_store_row rfl _ _ _ rfl w.heap.size 0 _ _ _ rfl rfl HQ.out.1 Tryz.sizeAns (by simp) (by simp [Value.oneCell']) ?_)
     intro w9 hrow2 hg9 hz9
     have hrow := hrow2.out
     rw [splice_full (by rfl)] at hrow
     have hb9 := below_grew HQ.out.2 hg9 (Nat.le_refl _) (fun q hq => by rw [← Option.some.inj hq]; exact Nat.le_refl _)
     have HF := hide (And.intro hrow hb9)
     clear hrow hrow2 hg9 hz9 hb9
     go_wp2_with fail
     refine bodyPost_ret (results_cell_row rfl _ _ w.heap.size _ _ (0, 0) _ rfl HF.out.1 Tryz.underlying177 rfl Tryz.sizeAns) rfl ?_
     refine ⟨?_, HF.out.2⟩
     rw [HR2.out]
     first | rfl | (unfold R5.ans; simp) | (unfold R5.ans; simp; omega)
   case neg =>
    have hi : i < p.size := by omega
    have hR := HR0.out.2 hge
    clear HR0
    have g1 : ¬ (p.size : Int) ≤ (i : Int) := by omega
    have hnx := fun (T : Nat → Bool) (j : Nat) (h : itemP p i (z : Int) = .good T j) => itemP_next hi h
    have HRL := hide hR
    clear hR
    have HIT := hide (fun y => refItem_any p i (z : Int) hi HS.out y)
    generalize itemP p i (z : Int) = q at *
    rcases hcase with h | ⟨h, hp⟩
    ·rw [decide_eq_false h]
     clear h hge HI3
     go_wp2_with fail
     refine (HIT.out _).mono ?_
     rintro e V1 ⟨rfl, hb1⟩
     have H2 := hide (And.intro (H1.out.1.below hb1 H1.out.1.lt) (And.intro (H1.out.2.1.below hb1 H1.out.2.1.lt) (H1.out.2.2.trans (hb1.mono H1.out.2.2.size))))
     clear hb1
     clear HIT H1
     have hal := (Below.refl V1.heap.size V1).alloc (Nat.le_refl _) (.cells #[.int .u64 0, .int .u64 0, .int .u64 0, .int .u64 0, .int .i64 0, .int .i64 0, .int .i64 0] 177)
     have hzb := Blk.new V1 177 #[.int .u64 0, .int .u64 0, .int .u64 0, .int .u64 0, .int .i64 0, .int .i64 0, .int .i64 0]
     have hzq := H2.out.2.2.size
     have hz1 := H2.out.1.lt
     cases q with
     | good T j =>
      have hj := hnx T j rfl
      have HRR := hide (show R = loopP p z f k j (fun x => S x || T x) from HRL.out)
      clear HRL hnx
      unfold R5.ans
      go_wp2_with (refine wpList_store_row rfl _ _ _ rfl V1.heap.size 0 _ _ _ rfl rfl hzb Tryz.sizeAns (by simp) (by simp [Value.oneCell']) ?_)
      intro V2 hrow2 hg9 hz9
      have hrow := hrow2.out
      rw [splice_full (by rfl)] at hrow
      have hbE : Below V1.heap.size V1 V2 := below_grew hal hg9 (Nat.le_refl _) (fun q hq => by rw [← Option.some.inj hq]; exact Nat.le_refl _)
      have H11 := hide hrow
      have hzV2 := hbE.size
      have H3 := hide (And.intro (H2.out.1.below hbE H2.out.1.lt) (And.intro (H2.out.2.1.below hbE H2.out.2.1.lt) (H2.out.2.2.trans (hbE.mono H2.out.2.2.size))))
      clear hbE
      clear hrow hrow2 hg9 hz9 hal hzb H2
      have hz11 := H11.out.lt
      generalize hg11 : V1.heap.size = g11 at *
      clear hg11
      have cd : ∀ i : Nat, _ = _ := H11.out.cell
      have cb : ∀ i : Nat, _ = _ := H3.out.1.cell
      simp only [setC] at cb
      have hcj := fun y => refJoin_any S T y
      unfold setV setC at hcj
      go_wp2_with fail
      refine (hcj _).mono ?_
      rintro e V3 ⟨rfl, hb3⟩
      have H11b := hide (H11.out.below hb3 hz11)
      have H4 := hide (And.intro (H3.out.1.below hb3 H3.out.1.lt) (And.intro (H3.out.2.1.below hb3 H3.out.2.1.lt) (H3.out.2.2.trans (hb3.mono H3.out.2.2.size))))
      clear hb3
      have hz5 := H4.out.2.2.size
      generalize htJ : (fun x => S x || T x) = TJ at *
      clear htJ cb cd hcj H3 H11
      unfold setV setC
      go_wp2_with (refine wpList_store_row rfl _ _ _ rfl (w.heap.size + 1) 0 _ _ _ rfl rfl H4.out.1 Tryz.sizeSetO (by simp [setC]) (by simp [Value.oneCell']) ?_)
      intro V4 hrow2 hg9 hz9
      have H11c := hide (H11b.out.grown hg9 (fun e => by have := Option.some.inj e; omega))
      have hrow := hrow2.out
      rw [splice_full (by rfl)] at hrow
      have H5 := hide (And.intro (show Blk V4 (w.heap.size + 1) 24 (setC TJ).toArray from hrow) (And.intro (H4.out.2.1.grown hg9 (fun e => by have := Option.some.inj e; omega)) (below_grew H4.out.2.2 hg9 (Nat.le_refl _) (fun q hq => by rw [← Option.some.inj hq]; omega))))
      clear hrow hrow2 hg9 hz9
      clear H4
      have ce : ∀ i : Nat, _ = _ := H11c.out.cell
      go_wp2_with fail
      go_roundw
      case rel => exact ⟨j, k, TJ, rfl, by rw [decide_eq_true (by have := HFI.out.2.1; omega)], by have := HFI.out.2.1; omega, hj.2, by have := HN0.out; omega, HRR.out, H5.out.1, H5.out.2.1, H5.out.2.2⟩
      case measure => simp [intOf]; have := hj.1; omega
     | bad kg y =>
      have HR2 := hide (show r = .bad kg y by rw [HR.out, HRL.out]; rfl)
      clear HRL HR hnx
      unfold R5.ans
      go_wp2_with (refine wpList_store_row rfl _ _ _ rfl V1.heap.size 0 _ _ _ rfl rfl hzb Tryz.sizeAns (by simp) (by simp [Value.oneCell']) ?_)
      intro V2 hrow2 hg9 hz9
      have hrow := hrow2.out
      rw [splice_full (by rfl)] at hrow
      have hbE : Below V1.heap.size V1 V2 := below_grew hal hg9 (Nat.le_refl _) (fun q hq => by rw [← Option.some.inj hq]; exact Nat.le_refl _)
      have H11 := hide hrow
      have hzV2 := hbE.size
      have H3 := hide (And.intro (H2.out.1.below hbE H2.out.1.lt) (And.intro (H2.out.2.1.below hbE H2.out.2.1.lt) (H2.out.2.2.trans (hbE.mono H2.out.2.2.size))))
      clear hbE
      clear hrow hrow2 hg9 hz9 hal hzb H2
      have hz11 := H11.out.lt
      generalize hg11 : V1.heap.size = g11 at *
      clear hg11
      have cd : ∀ i : Nat, _ = _ := H11.out.cell
      have hcode : ¬ (kg : Int) + 1 = 0 := by omega
      have HQ := hide H3.out.2
      go_wp2_with (refine wpList_store_row rfl _ _ _ rfl w.heap.size 0 _ _ _ rfl rfl HQ.out.1 Tryz.sizeAns (by simp) (by simp [Value.oneCell']) ?_)
      intro w9 hrow2 hg9 hz9
      have hrow := hrow2.out
      rw [splice_full (by rfl)] at hrow
      have hb9 := below_grew HQ.out.2 hg9 (Nat.le_refl _) (fun q hq => by rw [← Option.some.inj hq]; exact Nat.le_refl _)
      have HF := hide (And.intro hrow hb9)
      clear hrow hrow2 hg9 hz9 hb9
      go_wp2_with fail
      refine bodyPost_ret (results_cell_row rfl _ _ w.heap.size _ _ (0, 0) _ rfl HF.out.1 Tryz.underlying177 rfl Tryz.sizeAns) rfl ?_
      refine ⟨?_, HF.out.2⟩
      rw [HR2.out]
      first | rfl | (unfold R5.ans; simp)
    ·rw [decide_eq_true h]
     have HI4 := hide (HI3.out false hp)
     clear h hge HI3 hp
     go_wp2_with fail
     refine (HI4.out _).mono ?_
     rintro e V0 ⟨rfl, hw⟩
     subst hw
     go_wp2_with fail
     refine (HIT.out _).mono ?_
     rintro e V1 ⟨rfl, hb1⟩
     have H2 := hide (And.intro (H1.out.1.below hb1 H1.out.1.lt) (And.intro (H1.out.2.1.below hb1 H1.out.2.1.lt) (H1.out.2.2.trans (hb1.mono H1.out.2.2.size))))
     clear hb1
     clear HIT H1
     have hal := (Below.refl V1.heap.size V1).alloc (Nat.le_refl _) (.cells #[.int .u64 0, .int .u64 0, .int .u64 0, .int .u64 0, .int .i64 0, .int .i64 0, .int .i64 0] 177)
     have hzb := Blk.new V1 177 #[.int .u64 0, .int .u64 0, .int .u64 0, .int .u64 0, .int .i64 0, .int .i64 0, .int .i64 0]
     have hzq := H2.out.2.2.size
     have hz1 := H2.out.1.lt
     cases q with
     | good T j =>
      have hj := hnx T j rfl
      have HRR := hide (show R = loopP p z f k j (fun x => S x || T x) from HRL.out)
      clear HRL hnx
      unfold R5.ans
      go_wp2_with (refine wpList_store_row rfl _ _ _ rfl V1.heap.size 0 _ _ _ rfl rfl hzb Tryz.sizeAns (by simp) (by simp [Value.oneCell']) ?_)
      intro V2 hrow2 hg9 hz9
      have hrow := hrow2.out
      rw [splice_full (by rfl)] at hrow
      have hbE : Below V1.heap.size V1 V2 := below_grew hal hg9 (Nat.le_refl _) (fun q hq => by rw [← Option.some.inj hq]; exact Nat.le_refl _)
      have H11 := hide hrow
      have hzV2 := hbE.size
      have H3 := hide (And.intro (H2.out.1.below hbE H2.out.1.lt) (And.intro (H2.out.2.1.below hbE H2.out.2.1.lt) (H2.out.2.2.trans (hbE.mono H2.out.2.2.size))))
      clear hbE
      clear hrow hrow2 hg9 hz9 hal hzb H2
      have hz11 := H11.out.lt
      generalize hg11 : V1.heap.size = g11 at *
      clear hg11
      have cd : ∀ i : Nat, _ = _ := H11.out.cell
      have cb : ∀ i : Nat, _ = _ := H3.out.1.cell
      simp only [setC] at cb
      have hcj := fun y => refJoin_any S T y
      unfold setV setC at hcj
      go_wp2_with fail
      refine (hcj _).mono ?_
      rintro e V3 ⟨rfl, hb3⟩
      have H11b := hide (H11.out.below hb3 hz11)
      have H4 := hide (And.intro (H3.out.1.below hb3 H3.out.1.lt) (And.intro (H3.out.2.1.below hb3 H3.out.2.1.lt) (H3.out.2.2.trans (hb3.mono H3.out.2.2.size))))
      clear hb3
      have hz5 := H4.out.2.2.size
      generalize htJ : (fun x => S x || T x) = TJ at *
      clear htJ cb cd hcj H3 H11
      unfold setV setC
      go_wp2_with (refine wpList_store_row rfl _ _ _ rfl (w.heap.size + 1) 0 _ _ _ rfl rfl H4.out.1 Tryz.sizeSetO (by simp [setC]) (by simp [Value.oneCell']) ?_)
      intro V4 hrow2 hg9 hz9
      have H11c := hide (H11b.out.grown hg9 (fun e => by have := Option.some.inj e; omega))
      have hrow := hrow2.out
      rw [splice_full (by rfl)] at hrow
      have H5 := hide (And.intro (show Blk V4 (w.heap.size + 1) 24 (setC TJ).toArray from hrow) (And.intro (H4.out.2.1.grown hg9 (fun e => by have := Option.some.inj e; omega)) (below_grew H4.out.2.2 hg9 (Nat.le_refl _) (fun q hq => by rw [← Option.some.inj hq]; omega))))
      clear hrow hrow2 hg9 hz9
      clear H4
      have ce : ∀ i : Nat, _ = _ := H11c.out.cell
      go_wp2_with fail
      go_roundw
      case rel => exact ⟨j, k, TJ, rfl, by rw [decide_eq_true (by have := HFI.out.2.1; omega)], by have := HFI.out.2.1; omega, hj.2, by have := HN0.out; omega, HRR.out, H5.out.1, H5.out.2.1, H5.out.2.2⟩
      case measure => simp [intOf]; have := hj.1; omega
     | bad kg y =>
      have HR2 := hide (show r = .bad kg y by rw [HR.out, HRL.out]; rfl)
      clear HRL HR hnx
      unfold R5.ans
      go_wp2_with (refine wpList_store_row rfl _ _ _ rfl V1.heap.size 0 _ _ _ rfl rfl hzb Tryz.sizeAns (by simp) (by simp [Value.oneCell']) ?_)
      intro V2 hrow2 hg9 hz9
      have hrow := hrow2.out
      rw [splice_full (by rfl)] at hrow
      have hbE : Below V1.heap.size V1 V2 := below_grew hal hg9 (Nat.le_refl _) (fun q hq => by rw [← Option.some.inj hq]; exact Nat.le_refl _)
      have H11 := hide hrow
      have hzV2 := hbE.size
      have H3 := hide (And.intro (H2.out.1.below hbE H2.out.1.lt) (And.intro (H2.out.2.1.below hbE H2.out.2.1.lt) (H2.out.2.2.trans (hbE.mono H2.out.2.2.size))))
      clear hbE
      clear hrow hrow2 hg9 hz9 hal hzb H2
      have hz11 := H11.out.lt
      generalize hg11 : V1.heap.size = g11 at *
      clear hg11
      have cd : ∀ i : Nat, _ = _ := H11.out.cell
      have hcode : ¬ (kg : Int) + 1 = 0 := by omega
      have HQ := hide H3.out.2
      go_wp2_with (refine wpList_store_row rfl _ _ _ rfl w.heap.size 0 _ _ _ rfl rfl HQ.out.1 Tryz.sizeAns (by simp) (by simp [Value.oneCell']) ?_)
      intro w9 hrow2 hg9 hz9
      have hrow := hrow2.out
      rw [splice_full (by rfl)] at hrow
      have hb9 := below_grew HQ.out.2 hg9 (Nat.le_refl _) (fun q hq => by rw [← Option.some.inj hq]; exact Nat.le_refl _)
      have HF := hide (And.intro hrow hb9)
      clear hrow hrow2 hg9 hz9 hb9
      go_wp2_with fail
      refine bodyPost_ret (results_cell_row rfl _ _ w.heap.size _ _ (0, 0) _ rfl HF.out.1 Tryz.underlying177 rfl Tryz.sizeAns) rfl ?_
      refine ⟨?_, HF.out.2⟩
      rw [HR2.out]
      first | rfl | (unfold R5.ans; simp)
set_option maxRecDepth 100000 in
set_option maxHeartbeats 1000000 in
theorem refRead_none (p : ByteArray) (z fl : Int) (hz : ¬ (0 ≤ z ∧ pb p z.toNat = 91)) (w : World) : Calls Tryz.prog 137 #[.string p, .int .i64 z, .int .i64 fl] w fun e w' => e = .returned (.agg (R5.bad 14 (-1)).ans.toArray) ∧ Below w.heap.size w w' := by
 have hb := (Below.refl w.heap.size w).alloc (Nat.le_refl _) (.cells #[.int .u64 0, .int .u64 0, .int .u64 0, .int .u64 0, .int .i64 0, .int .i64 0, .int .i64 0] 177)
 have h1 := Blk.new w 177 #[.int .u64 0, .int .u64 0, .int .u64 0, .int .u64 0, .int .i64 0, .int .i64 0, .int .i64 0]
 have H0 := hide (And.intro h1 hb)
 clear hb h1
 have HI : (∀ y : World, Calls Tryz.prog 152 #[.string p, .int .i64 z, .int .u8 91] y fun e w' => e = .returned (.bool false) ∧ w' = y) := by
  intro y
  by_cases h0 : z < 0
  ·exact is5_neg p z 91 h0 y
  ·obtain ⟨k, rfl⟩ : ∃ k : Nat, z = k := ⟨z.toNat, by omega⟩
   rw [Int.toNat_natCast] at hz
   exact is5_lit p k 91 91 rfl (by decide) false (decide_eq_false (fun h => hz ⟨by omega, h⟩)) y
 have HII := hide HI
 clear HI hz
 go_enter Tryz.func137, Tryz.ntmps137
 go_upto_region 1 with fail
 generalize (w.alloc (.cells #[.int .u64 0, .int .u64 0, .int .u64 0, .int .u64 0, .int .i64 0, .int .i64 0, .int .i64 0] 177)) = W at *
 go_wp2_with fail
 refine (HII.out _).mono ?_
 rintro e W1 ⟨rfl, hw⟩
 subst hw
 go_wp2_with (refine wpList_store_row rfl _ _ _ rfl w.heap.size 0 _ _ _ rfl rfl H0.out.1 Tryz.sizeAns (by simp) (by simp [Value.oneCell']) ?_)
 intro w9 hrow2 hg9 hz9
 have hrow := hrow2.out
 rw [splice_full (by rfl)] at hrow
 have hb9 := below_grew H0.out.2 hg9 (Nat.le_refl _) (fun q hq => by rw [← Option.some.inj hq]; exact Nat.le_refl _)
 have HF := hide (And.intro hrow hb9)
 clear hrow hrow2 hg9 hz9 hb9
 go_wp2_with fail
 refine bodyPost_ret (results_cell_row rfl _ _ w.heap.size _ _ (0, 0) _ rfl HF.out.1 Tryz.underlying177 rfl Tryz.sizeAns) rfl ?_
 refine ⟨?_, HF.out.2⟩
 rfl
/-- What the reference answers. -/
def refP (p : ByteArray) (z : Int) (ic nl : Bool) : R5 := if 0 ≤ z ∧ pb p z.toNat = 91 then readP p z.toNat ic nl else .bad 14 (-1)
theorem refRead_any (p : ByteArray) (z : Int) (fl : Nat) (hfl : fl < 8) (hs : p.size < 4294967281) (w : World) : Calls Tryz.prog 137 #[.string p, .int .i64 z, .int .i64 (fl : Int)] w fun e w' => e = .returned (.agg (refP p z (decide (fl / 2 % 2 = 1)) (decide (fl / 4 % 2 = 1))).ans.toArray) ∧ Below w.heap.size w w' := by
 unfold refP
 by_cases hz : 0 ≤ z ∧ pb p z.toNat = 91
 ·rw [if_pos hz]
  obtain ⟨k, rfl⟩ : ∃ k : Nat, z = k := ⟨z.toNat, by omega⟩
  have hk := hz.2
  rw [Int.toNat_natCast] at hk ⊢
  by_cases ht : pb p (k + 1) = 94
  ·exact refRead_true p k fl hfl hs hk (decide_eq_true ht) w
  ·exact refRead_false p k fl hfl hs hk (decide_eq_false ht) w
 ·rw [if_neg hz]
  exact refRead_none p z fl hz w
end Go.Proofs.YtpkcklpjbeginaaGreatDoor
