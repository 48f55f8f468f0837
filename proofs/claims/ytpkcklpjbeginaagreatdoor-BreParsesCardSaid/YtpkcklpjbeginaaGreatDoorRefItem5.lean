/- trawlref05.item. (Printed by gen_refitem5.py.) -/
import Derived.Test.YtpkcklpjbeginaaGreatDoorItem5
set_option linter.unusedSimpArgs false
set_option linter.unusedVariables false
namespace Go.Proofs.YtpkcklpjbeginaaGreatDoor
open Go.RowKit

/-- The cells of the reference's answer. -/
def R5.ans : R5 → List Value
 | .good S n => [.int .u64 ((wd S 0 : Nat) : Int), .int .u64 ((wd S 1 : Nat) : Int), .int .u64 ((wd S 2 : Nat) : Int), .int .u64 ((wd S 3 : Nat) : Int), .int .i64 (n : Int), .int .i64 0, .int .i64 0]
 | .bad g y => [.int .u64 0, .int .u64 0, .int .u64 0, .int .u64 0, .int .i64 0, .int .i64 ((g + 1 : Nat) : Int), .int .i64 y]
theorem Tryz.sizeAns : (Tryz.prog.info? 177).map (·.size) = some 7 := by kernel_rfl
theorem extract_one {p : ByteArray} {i : Nat} (hi : i < p.size) : p.extract i (i + 1) = ⟨#[p[i]'hi]⟩ := by
 apply ByteArray.ext
 apply Array.ext
 ·simp
  have : p.data.size = p.size := rfl
  omega
 ·intro k h1 h2
  simp at h2
  subst h2
  simp
  rfl
set_option maxRecDepth 100000 in
set_option maxHeartbeats 4000000 in
theorem refItem_any (p : ByteArray) (i : Nat) (pl : Int) (hi : i < p.size) (hs : p.size < 4294967281) (w : World) : Calls Tryz.prog 153 #[.string p, .int .i64 (i : Int), .int .i64 pl] w fun e w' => e = .returned (.agg (itemP p i pl).ans.toArray) ∧ Below w.heap.size w w' := by
 obtain ⟨r, hr⟩ : ∃ r, r = itemP p i pl := ⟨_, rfl⟩
 rw [← hr]
 have HR := hide hr
 clear hr
 have hb := (Below.refl w.heap.size w).alloc (Nat.le_refl _) (.cells #[.int .u64 0, .int .u64 0, .int .u64 0, .int .u64 0, .int .i64 0, .int .i64 0, .int .i64 0] 177)
 have h1 := Blk.new w 177 #[.int .u64 0, .int .u64 0, .int .u64 0, .int .u64 0, .int .i64 0, .int .i64 0, .int .i64 0]
 have H0 := hide (And.intro h1 hb)
 clear hb h1
 have HI := hide hi
 have HS := hide hs
 have HD := hide (fun y => dotted5_any p i (by omega) y)
 have HCn := hide (fun y => colon5_any p i (by omega) y)
 have hw1 : IntKind.i64.wrap ((i : Int) + 1) = (i : Int) + 1 := by simp [IntKind.wrap, IntKind.bits, IntKind.signed]; omega
 have hw2 : IntKind.i64.wrap ((i : Int) + 2) = (i : Int) + 2 := by simp [IntKind.wrap, IntKind.bits, IntKind.signed]; omega
 have hw3 : IntKind.i64.wrap ((i : Int) + 3) = (i : Int) + 3 := by simp [IntKind.wrap, IntKind.bits, IntKind.signed]; omega
 have hn1 : ((i : Int) + 1).toNat = i + 1 := by omega
 have hn2 : ((i : Int) + 2).toNat = i + 2 := by omega
 have hc0 : (0 : Int) ≤ i ∧ (i : Int) < (p.size : Int) := by omega
 clear hi hs
 have hbd : (decide (pb p i = 91) && (decide (pb p (i + 1) = 46) || decide (pb p (i + 1) = 61))) = decide (pb p i = 91 ∧ (pb p (i + 1) = 46 ∨ pb p (i + 1) = 61)) := by simp
 have hbc : (decide (pb p i = 91) && decide (pb p (i + 1) = 58)) = decide (pb p i = 91 ∧ pb p (i + 1) = 58) := by simp
 rw [hbd] at HD
 rw [hbc] at HCn
 clear hbd hbc
 go_enter Tryz.func153, Tryz.ntmps153
 go_upto_region 1 with fail
 generalize (w.alloc (.cells #[.int .u64 0, .int .u64 0, .int .u64 0, .int .u64 0, .int .i64 0, .int .i64 0, .int .i64 0] 177)) = W at *
 go_wp2_with fail
 refine (HD.out _).mono ?_
 rintro e W1 ⟨rfl, hw⟩
 subst hw
 by_cases hd : pb p i = 91 ∧ (pb p (i + 1) = 46 ∨ pb p (i + 1) = 61)
 case pos =>
  have HR2 := hide (show r = .bad 6 (i : Int) by rw [HR.out]; unfold itemP; rw [if_pos hd])
  rw [decide_eq_true hd] at *
  clear HR HD HCn hd
  go_wp2_with (refine wpList_store_row rfl _ _ _ rfl w.heap.size 0 _ _ _ rfl rfl H0.out.1 Tryz.sizeAns (by simp) (by simp [Value.oneCell']) ?_)
  intro w9 hrow2 hg9 hz9
  have hrow := hrow2.out
  rw [splice_full (by rfl)] at hrow
  have hb9 := below_grew H0.out.2 hg9 (Nat.le_refl _) (fun q hq => by rw [← Option.some.inj hq]; exact Nat.le_refl _)
  have HF := hide (And.intro hrow hb9)
  clear hrow hrow2 hg9 hz9 hb9
  go_wp2_with fail
  refine bodyPost_ret (results_cell_row rfl _ _ w.heap.size _ _ (0, 0) _ rfl HF.out.1 Tryz.underlying177 rfl Tryz.sizeAns) rfl ?_
  refine ⟨?_, HF.out.2⟩
  rw [HR2.out]
  first | rfl | (unfold R5.ans; simp) | (unfold R5.ans; simp; omega)
 case neg =>
 rw [decide_eq_false hd] at *
 go_wp2_with fail
 refine (HCn.out _).mono ?_
 rintro e W2 ⟨rfl, hw⟩
 subst hw
 by_cases hc : pb p i = 91 ∧ pb p (i + 1) = 58
 case pos =>
  have hi1 : i + 1 < p.size := pb_in (by omega)
  have HR2 := hide (show r = namedP p i pl by rw [HR.out]; unfold itemP; rw [if_neg hd, if_pos hc])
  rw [decide_eq_true hc] at *
  clear HR HD HCn hd hc
  have HCL := hide (fun y => closing_any p (i + 2) (by omega) (by have := HS.out; omega) y)
  have hcc : ((i + 2 : Nat) : Int) = (i : Int) + 2 := by omega
  rw [hcc] at HCL
  go_wp2_with fail
  refine (HCL.out _).mono ?_
  rintro e W3 ⟨rfl, hw⟩
  subst hw
  have hcin := clo_in (p := p) (k := i + 2)
  have HNP := hide (show namedP p i pl = if clo p (i + 2) < 0 then .bad 0 pl else if (cls5 (p.extract (i + 2) (clo p (i + 2)).toNat).toList).isSome then .good (memb5 (p.extract (i + 2) (clo p (i + 2)).toNat)) ((clo p (i + 2)).toNat + 2) else .bad 5 (i : Int) from rfl)
  generalize clo p (i + 2) = n at *
  clear HCL
  by_cases hn : n < 0
  case pos =>
   have HR3 := hide (show r = .bad 0 pl by rw [HR2.out, HNP.out, if_pos hn])
   clear HR2 HNP
   have HR2 := HR3
   go_wp2_with (refine wpList_store_row rfl _ _ _ rfl w.heap.size 0 _ _ _ rfl rfl H0.out.1 Tryz.sizeAns (by simp) (by simp [Value.oneCell']) ?_)
   intro w9 hrow2 hg9 hz9
   have hrow := hrow2.out
   rw [splice_full (by rfl)] at hrow
   have hb9 := below_grew H0.out.2 hg9 (Nat.le_refl _) (fun q hq => by rw [← Option.some.inj hq]; exact Nat.le_refl _)
   have HF := hide (And.intro hrow hb9)
   clear hrow hrow2 hg9 hz9 hb9
   go_wp2_with fail
   refine bodyPost_ret (results_cell_row rfl _ _ w.heap.size _ _ (0, 0) _ rfl HF.out.1 Tryz.underlying177 rfl Tryz.sizeAns) rfl ?_
   refine ⟨?_, HF.out.2⟩
   rw [HR2.out]
   first | rfl | (unfold R5.ans; simp) | (unfold R5.ans; simp; omega)
  case neg =>
   obtain ⟨k, rfl⟩ : ∃ k : Nat, n = k := ⟨n.toNat, by omega⟩
   have hck := hcin (by omega)
   have HNQ := hide (show r = if (cls5 (p.extract (i + 2) k).toList).isSome then .good (memb5 (p.extract (i + 2) k)) (k + 2) else .bad 5 (i : Int) by rw [HR2.out, HNP.out, if_neg hn, Int.toNat_natCast])
   clear HR2 HNP hcin hn
   have hc3 : (0 : Int) ≤ (i : Int) + 2 ∧ (i : Int) + 2 ≤ (k : Int) ∧ (k : Int) ≤ (p.size : Int) := by omega
   have hw4 : IntKind.i64.wrap ((k : Int) + 2) = (k : Int) + 2 := by have := HS.out; simp [IntKind.wrap, IntKind.bits, IntKind.signed]; omega
   have hk0 : ¬ (k : Int) < 0 := by omega
   go_wp2_with fail
   refine (refNamed_any _ _).mono ?_
   unfold NamedIs
   rintro e W4 ⟨rfl, hb4⟩
   have H4 := hide (And.intro (H0.out.1.below hb4 H0.out.1.lt) (H0.out.2.trans (hb4.mono H0.out.2.size)))
   clear hb4 H0
   generalize memb5 (p.extract (i + 2) k) = S at *
   generalize (cls5 (p.extract (i + 2) k).toList).isSome = sm at *
   have hal := (Below.refl W4.heap.size W4).alloc (Nat.le_refl _) (.cells #[.int .u64 0, .int .u64 0, .int .u64 0, .int .u64 0] 24)
   have hzb := Blk.new W4 24 #[.int .u64 0, .int .u64 0, .int .u64 0, .int .u64 0]
   unfold setV setC
   cases sm with
   | true =>
    have HR2 := hide (show r = .good S (k + 2) by rw [HNQ.out]; rfl)
    clear HNQ
    go_wp2_with (refine wpList_store_row rfl _ _ _ rfl W4.heap.size 0 _ _ _ rfl rfl hzb Tryz.sizeSetO (by simp) (by simp [Value.oneCell']) ?_)
    intro W5 hrow2 hg9 hz9
    have hrow := hrow2.out
    rw [splice_full (by rfl)] at hrow
    have hbE : Below W4.heap.size W4 W5 := below_grew hal hg9 (Nat.le_refl _) (fun q hq => by rw [← Option.some.inj hq]; exact Nat.le_refl _)
    have HS8 := hide hrow
    have H5 := hide (And.intro (H4.out.1.below hbE H4.out.1.lt) (H4.out.2.trans (hbE.mono H4.out.2.size)))
    clear hrow hrow2 hg9 hz9 hbE hal hzb H4
    have cb : ∀ i : Nat, _ = _ := HS8.out.cell
    go_wp2_with (refine wpList_store_row rfl _ _ _ rfl w.heap.size 0 _ _ _ rfl rfl H5.out.1 Tryz.sizeAns (by simp) (by simp [Value.oneCell']) ?_)
    intro w9 hrow2 hg9 hz9
    have hrow := hrow2.out
    rw [splice_full (by rfl)] at hrow
    have hb9 := below_grew H5.out.2 hg9 (Nat.le_refl _) (fun q hq => by rw [← Option.some.inj hq]; exact Nat.le_refl _)
    have HF := hide (And.intro hrow hb9)
    clear hrow hrow2 hg9 hz9 hb9
    go_wp2_with fail
    refine bodyPost_ret (results_cell_row rfl _ _ w.heap.size _ _ (0, 0) _ rfl HF.out.1 Tryz.underlying177 rfl Tryz.sizeAns) rfl ?_
    refine ⟨?_, HF.out.2⟩
    rw [HR2.out]
    first | rfl | (unfold R5.ans; simp) | (unfold R5.ans; simp; omega)
   | false =>
    have HR2 := hide (show r = .bad 5 (i : Int) by rw [HNQ.out]; rfl)
    clear HNQ
    go_wp2_with (refine wpList_store_row rfl _ _ _ rfl W4.heap.size 0 _ _ _ rfl rfl hzb Tryz.sizeSetO (by simp) (by simp [Value.oneCell']) ?_)
    intro W5 hrow2 hg9 hz9
    have hrow := hrow2.out
    rw [splice_full (by rfl)] at hrow
    have hbE : Below W4.heap.size W4 W5 := below_grew hal hg9 (Nat.le_refl _) (fun q hq => by rw [← Option.some.inj hq]; exact Nat.le_refl _)
    have HS8 := hide hrow
    have H5 := hide (And.intro (H4.out.1.below hbE H4.out.1.lt) (H4.out.2.trans (hbE.mono H4.out.2.size)))
    clear hrow hrow2 hg9 hz9 hbE hal hzb H4
    have cb : ∀ i : Nat, _ = _ := HS8.out.cell
    go_wp2_with (refine wpList_store_row rfl _ _ _ rfl w.heap.size 0 _ _ _ rfl rfl H5.out.1 Tryz.sizeAns (by simp) (by simp [Value.oneCell']) ?_)
    intro w9 hrow2 hg9 hz9
    have hrow := hrow2.out
    rw [splice_full (by rfl)] at hrow
    have hb9 := below_grew H5.out.2 hg9 (Nat.le_refl _) (fun q hq => by rw [← Option.some.inj hq]; exact Nat.le_refl _)
    have HF := hide (And.intro hrow hb9)
    clear hrow hrow2 hg9 hz9 hb9
    go_wp2_with fail
    refine bodyPost_ret (results_cell_row rfl _ _ w.heap.size _ _ (0, 0) _ rfl HF.out.1 Tryz.underlying177 rfl Tryz.sizeAns) rfl ?_
    refine ⟨?_, HF.out.2⟩
    rw [HR2.out]
    first | rfl | (unfold R5.ans; simp) | (unfold R5.ans; simp; omega)
 case neg =>
 rw [decide_eq_false hc] at *
 clear HD HCn
 have HIS := hide (is5_lit p (i + 1) 45 45 rfl (by decide) _ rfl)
 have hcc : ((i + 1 : Nat) : Int) = (i : Int) + 1 := by omega
 rw [hcc] at HIS
 go_wp2_with fail
 refine (HIS.out _).mono ?_
 rintro e W3 ⟨rfl, hw⟩
 subst hw
 have hHR := HR.out
 unfold itemP at hHR
 rw [if_neg hd, if_neg hc] at hHR
 clear HR hd hc HIS
 by_cases hsgl : pb p (i + 1) = 45 ∧ i + 2 < p.size ∧ pb p (i + 2) ≠ 93
 case neg =>
  rw [if_neg hsgl] at hHR
  have q0 := pb_at HI.out
  have HR2 := hide (show r = .good (fun x => decide (x = (p[i]'HI.out).toNat)) (i + 1) by rw [hHR, q0])
  clear hHR q0
  have hcond : (¬ pb p (i + 1) = 45) ∨ (pb p (i + 1) = 45 ∧ ¬ (i : Int) + 2 < (p.size : Int)) ∨ (∃ (h2 : i + 2 < p.size), pb p (i + 1) = 45 ∧ (p[i + 2]'h2).toNat = 93) := by
   by_cases h3 : pb p (i + 1) = 45
   ·by_cases h2 : i + 2 < p.size
    ·by_cases h4 : pb p (i + 2) = 93
     ·exact .inr (.inr ⟨h2, h3, by rw [← pb_at h2]; exact h4⟩)
     ·exact absurd ⟨h3, h2, h4⟩ hsgl
    ·exact .inr (.inl ⟨h3, by omega⟩)
   ·exact .inl h3
  clear hsgl
  rcases hcond with h3 | ⟨h3, h2⟩ | ⟨h2, h3, h4⟩
  ·rw [decide_eq_false h3]
   have hc5 : (0 : Int) ≤ (i : Int) ∧ (i : Int) ≤ (i : Int) + 1 ∧ (i : Int) + 1 ≤ (p.size : Int) := by omega
   clear h3
   go_wp2_with fail
   rw [extract_one HI.out]
   refine (refOf_one _ _).mono ?_
   rintro e W4 ⟨rfl, hb4⟩
   have H4 := hide (And.intro (H0.out.1.below hb4 H0.out.1.lt) (H0.out.2.trans (hb4.mono H0.out.2.size)))
   clear hb4 H0
   generalize (fun x => decide (x = (p[i]'HI.out).toNat)) = S at *
   unfold setV setC
   go_wp2_with (refine wpList_store_row rfl _ _ _ rfl w.heap.size 0 _ _ _ rfl rfl H4.out.1 Tryz.sizeAns (by simp) (by simp [Value.oneCell']) ?_)
   intro w9 hrow2 hg9 hz9
   have hrow := hrow2.out
   rw [splice_full (by rfl)] at hrow
   have hb9 := below_grew H4.out.2 hg9 (Nat.le_refl _) (fun q hq => by rw [← Option.some.inj hq]; exact Nat.le_refl _)
   have HF := hide (And.intro hrow hb9)
   clear hrow hrow2 hg9 hz9 hb9
   go_wp2_with fail
   refine bodyPost_ret (results_cell_row rfl _ _ w.heap.size _ _ (0, 0) _ rfl HF.out.1 Tryz.underlying177 rfl Tryz.sizeAns) rfl ?_
   refine ⟨?_, HF.out.2⟩
   rw [HR2.out]
   first | rfl | (unfold R5.ans; simp) | (unfold R5.ans; simp; omega)
  ·rw [decide_eq_true h3]
   have hc5 : (0 : Int) ≤ (i : Int) ∧ (i : Int) ≤ (i : Int) + 1 ∧ (i : Int) + 1 ≤ (p.size : Int) := by omega
   clear h3
   go_wp2_with fail
   rw [extract_one HI.out]
   refine (refOf_one _ _).mono ?_
   rintro e W4 ⟨rfl, hb4⟩
   have H4 := hide (And.intro (H0.out.1.below hb4 H0.out.1.lt) (H0.out.2.trans (hb4.mono H0.out.2.size)))
   clear hb4 H0
   generalize (fun x => decide (x = (p[i]'HI.out).toNat)) = S at *
   unfold setV setC
   go_wp2_with (refine wpList_store_row rfl _ _ _ rfl w.heap.size 0 _ _ _ rfl rfl H4.out.1 Tryz.sizeAns (by simp) (by simp [Value.oneCell']) ?_)
   intro w9 hrow2 hg9 hz9
   have hrow := hrow2.out
   rw [splice_full (by rfl)] at hrow
   have hb9 := below_grew H4.out.2 hg9 (Nat.le_refl _) (fun q hq => by rw [← Option.some.inj hq]; exact Nat.le_refl _)
   have HF := hide (And.intro hrow hb9)
   clear hrow hrow2 hg9 hz9 hb9
   go_wp2_with fail
   refine bodyPost_ret (results_cell_row rfl _ _ w.heap.size _ _ (0, 0) _ rfl HF.out.1 Tryz.underlying177 rfl Tryz.sizeAns) rfl ?_
   refine ⟨?_, HF.out.2⟩
   rw [HR2.out]
   first | rfl | (unfold R5.ans; simp) | (unfold R5.ans; simp; omega)
  ·rw [decide_eq_true h3]
   have hc2 : (0 : Int) ≤ (i : Int) + 2 ∧ (i : Int) + 2 < (p.size : Int) := by omega
   have e4 : ((p[i + 2]'h2).toNat : Int) = 93 := by omega
   clear h4
   have hc5 : (0 : Int) ≤ (i : Int) ∧ (i : Int) ≤ (i : Int) + 1 ∧ (i : Int) + 1 ≤ (p.size : Int) := by omega
   clear h3
   go_wp2_with fail
   rw [extract_one HI.out]
   refine (refOf_one _ _).mono ?_
   rintro e W4 ⟨rfl, hb4⟩
   have H4 := hide (And.intro (H0.out.1.below hb4 H0.out.1.lt) (H0.out.2.trans (hb4.mono H0.out.2.size)))
   clear hb4 H0
   generalize (fun x => decide (x = (p[i]'HI.out).toNat)) = S at *
   unfold setV setC
   go_wp2_with (refine wpList_store_row rfl _ _ _ rfl w.heap.size 0 _ _ _ rfl rfl H4.out.1 Tryz.sizeAns (by simp) (by simp [Value.oneCell']) ?_)
   intro w9 hrow2 hg9 hz9
   have hrow := hrow2.out
   rw [splice_full (by rfl)] at hrow
   have hb9 := below_grew H4.out.2 hg9 (Nat.le_refl _) (fun q hq => by rw [← Option.some.inj hq]; exact Nat.le_refl _)
   have HF := hide (And.intro hrow hb9)
   clear hrow hrow2 hg9 hz9 hb9
   go_wp2_with fail
   refine bodyPost_ret (results_cell_row rfl _ _ w.heap.size _ _ (0, 0) _ rfl HF.out.1 Tryz.underlying177 rfl Tryz.sizeAns) rfl ?_
   refine ⟨?_, HF.out.2⟩
   rw [HR2.out]
   first | rfl | (unfold R5.ans; simp) | (unfold R5.ans; simp; omega)
 case pos =>
  obtain ⟨h45, h2, h93⟩ := hsgl
  rw [if_pos ⟨h45, h2, h93⟩] at hHR
  have hc2 : (0 : Int) ≤ (i : Int) + 2 ∧ (i : Int) + 2 < (p.size : Int) := by omega
  have e4 : ¬ ((p[i + 2]'h2).toNat : Int) = 93 := by rw [← pb_at h2]; omega
  have HRR := hide hHR
  rw [decide_eq_true h45]
  clear hHR h45 h93
  have HD := hide (fun y => dotted5_any p (i + 2) (by have := HS.out; omega) y)
  have HCn := hide (fun y => colon5_any p (i + 2) (by have := HS.out; omega) y)
  have hcc2 : ((i + 2 : Nat) : Int) = (i : Int) + 2 := by omega
  rw [hcc2] at HD HCn
  rw [show (decide (pb p (i + 2) = 91) && (decide (pb p (i + 2 + 1) = 46) || decide (pb p (i + 2 + 1) = 61))) = decide (pb p (i + 2) = 91 ∧ (pb p (i + 3) = 46 ∨ pb p (i + 3) = 61)) by simp] at HD
  rw [show (decide (pb p (i + 2) = 91) && decide (pb p (i + 2 + 1) = 58)) = decide (pb p (i + 2) = 91 ∧ pb p (i + 3) = 58) by simp] at HCn
  clear hcc hcc2
  go_wp2_with fail
  refine (HD.out _).mono ?_
  rintro e W4 ⟨rfl, hw⟩
  subst hw
  by_cases hd : pb p (i + 2) = 91 ∧ (pb p (i + 3) = 46 ∨ pb p (i + 3) = 61)
  case pos =>
   have HR2 := hide (show r = .bad 6 ((i + 2 : Nat) : Int) by rw [HRR.out, if_pos hd])
   rw [decide_eq_true hd] at *
   clear HRR HD HCn hd
   go_wp2_with (refine wpList_store_row rfl _ _ _ rfl w.heap.size 0 _ _ _ rfl rfl H0.out.1 Tryz.sizeAns (by simp) (by simp [Value.oneCell']) ?_)
   intro w9 hrow2 hg9 hz9
   have hrow := hrow2.out
   rw [splice_full (by rfl)] at hrow
   have hb9 := below_grew H0.out.2 hg9 (Nat.le_refl _) (fun q hq => by rw [← Option.some.inj hq]; exact Nat.le_refl _)
   have HF := hide (And.intro hrow hb9)
   clear hrow hrow2 hg9 hz9 hb9
   go_wp2_with fail
   refine bodyPost_ret (results_cell_row rfl _ _ w.heap.size _ _ (0, 0) _ rfl HF.out.1 Tryz.underlying177 rfl Tryz.sizeAns) rfl ?_
   refine ⟨?_, HF.out.2⟩
   rw [HR2.out]
   first | rfl | (unfold R5.ans; simp) | (unfold R5.ans; simp; omega)
  case neg =>
  rw [decide_eq_false hd] at *
  have hhr := HRR.out
  rw [if_neg hd] at hhr
  have q0 := pb_at HI.out
  have q2 := pb_at h2
  have l0 := pb_lt HI.out
  have l2 := pb_lt h2
  generalize hcb : decide (pb p (i + 2) = 91 ∧ pb p (i + 3) = 58) = cb at *
  have HCB := hide hcb
  have hhr2 : r = if cb = true ∨ (p[i + 2]'h2).toNat < (p[i]'HI.out).toNat then .bad 4 (i : Int) else .good (fun x => decide ((p[i]'HI.out).toNat ≤ x ∧ x ≤ (p[i + 2]'h2).toNat)) (i + 3) := by
   rw [hhr, ← q0, ← q2, ← hcb]
   simp only [decide_eq_true_eq]
  clear hhr hcb hd HRR HD HCB
  rw [q0] at l0
  rw [q2] at l2
  clear q0 q2 e4
  have hi := HI.out
  obtain ⟨b, q0⟩ : ∃ b, (p[i]'hi).toNat = b := ⟨_, rfl⟩
  obtain ⟨c, q2⟩ : ∃ c, (p[i + 2]'h2).toNat = c := ⟨_, rfl⟩
  rw [q0] at l0 hhr2
  rw [q2] at l2 hhr2
  have HL := hide (fun (x : Later W4) => (HCn.out x.val).mono (fun e w' h => (⟨h.1, h.2 ▸ Below.refl _ _⟩ : e = .returned (.bool cb) ∧ Below x.val.heap.size x.val w')))
  clear HCn
  go_upto_region 14 with fail
  cases cb with
  | true =>
   have HR2 := hide (show r = .bad 4 (i : Int) by rw [hhr2, if_pos (.inl rfl)])
   clear hhr2
   refine wp_region_later (by kernel_rfl) (by kernel_rfl) ?_
   repeat (go_big_quiet_step (exact calls_later (HL.out _)))
   refine wpQuiet_nil ?_
   intro W5 hw5
   obtain ⟨x, hxe⟩ := hw5
   have hx : Below W4.heap.size W4 W5 := hxe ▸ x.2
   clear hxe x
   have H5 := hide (And.intro (H0.out.1.below hx H0.out.1.lt) (H0.out.2.trans (hx.mono H0.out.2.size)))
   clear hx H0 HL
   go_wp2_with (refine wpList_store_row rfl _ _ _ rfl w.heap.size 0 _ _ _ rfl rfl H5.out.1 Tryz.sizeAns (by simp) (by simp [Value.oneCell']) ?_)
   intro w9 hrow2 hg9 hz9
   have hrow := hrow2.out
   rw [splice_full (by rfl)] at hrow
   have hb9 := below_grew H5.out.2 hg9 (Nat.le_refl _) (fun q hq => by rw [← Option.some.inj hq]; exact Nat.le_refl _)
   have HF := hide (And.intro hrow hb9)
   clear hrow hrow2 hg9 hz9 hb9
   go_wp2_with fail
   refine bodyPost_ret (results_cell_row rfl _ _ w.heap.size _ _ (0, 0) _ rfl HF.out.1 Tryz.underlying177 rfl Tryz.sizeAns) rfl ?_
   refine ⟨?_, HF.out.2⟩
   rw [HR2.out]
   first | rfl | (unfold R5.ans; simp) | (unfold R5.ans; simp; omega)
  | false =>
   by_cases hlt : c < b
   case pos =>
    have HR2 := hide (show r = .bad 4 (i : Int) by rw [hhr2, if_pos (.inr hlt)])
    clear hhr2
    have hlt2 : (c : Int) < (b : Int) := by omega
    refine wp_region_later (by kernel_rfl) (by kernel_rfl) ?_
    repeat (go_big_quiet_step (exact calls_later (HL.out _)))
    refine wpQuiet_nil ?_
    intro W5 hw5
    obtain ⟨x, hxe⟩ := hw5
    have hx : Below W4.heap.size W4 W5 := hxe ▸ x.2
    clear hxe x
    have H5 := hide (And.intro (H0.out.1.below hx H0.out.1.lt) (H0.out.2.trans (hx.mono H0.out.2.size)))
    clear hx H0 HL
    go_wp2_with (refine wpList_store_row rfl _ _ _ rfl w.heap.size 0 _ _ _ rfl rfl H5.out.1 Tryz.sizeAns (by simp) (by simp [Value.oneCell']) ?_)
    intro w9 hrow2 hg9 hz9
    have hrow := hrow2.out
    rw [splice_full (by rfl)] at hrow
    have hb9 := below_grew H5.out.2 hg9 (Nat.le_refl _) (fun q hq => by rw [← Option.some.inj hq]; exact Nat.le_refl _)
    have HF := hide (And.intro hrow hb9)
    clear hrow hrow2 hg9 hz9 hb9
    go_wp2_with fail
    refine bodyPost_ret (results_cell_row rfl _ _ w.heap.size _ _ (0, 0) _ rfl HF.out.1 Tryz.underlying177 rfl Tryz.sizeAns) rfl ?_
    refine ⟨?_, HF.out.2⟩
    rw [HR2.out]
    first | rfl | (unfold R5.ans; simp) | (unfold R5.ans; simp; omega)
   case neg =>
    have HR2 := hide (show r = .good (fun x => decide (b ≤ x ∧ x ≤ c)) (i + 3) by rw [hhr2, if_neg (fun h => h.elim (fun h => nomatch h) hlt)])
    clear hhr2
    have hlt2 : ¬ (c : Int) < (b : Int) := by omega
    refine wp_region_later (by kernel_rfl) (by kernel_rfl) ?_
    repeat (go_big_quiet_step (exact calls_later (HL.out _)))
    refine wpQuiet_nil ?_
    intro W5 hw5
    obtain ⟨x, hxe⟩ := hw5
    have hx : Below W4.heap.size W4 W5 := hxe ▸ x.2
    clear hxe x
    have H5 := hide (And.intro (H0.out.1.below hx H0.out.1.lt) (H0.out.2.trans (hx.mono H0.out.2.size)))
    clear hx H0 HL
    go_upto_region 16 with fail
    refine wp_region_mix (fun _ => True) [] (by kernel_rfl) (fun hcl => ?_)
    have hS0 : Below W5.heap.size W5 W5.drew := (Below.refl _ _).drew
    have hS := trivial
    refine wpAnyT_free (i := 0) hcl rfl (by kernel_rfl) (v := ?_) (fun _ _ _ h => h) hS (Or.inl ⟨rfl, fun w' _ => ?_⟩) (fun hcl => ?_)
    rotate_left
    ·go_simp
     with_reducible rfl
    simp only [List.getElem_toArray, List.getElem_cons_zero, List.getElem_cons_succ, Act.put, List.setIfInBounds_toArray, List.set_cons_zero, List.set_cons_succ]
    refine wpAnyT_free (i := 1) hcl rfl (by kernel_rfl) (v := ?_) (fun _ _ _ h => h) hS (Or.inl ⟨rfl, fun w' _ => ?_⟩) (fun hcl => ?_)
    rotate_left
    ·go_simp
     with_reducible rfl
    simp only [List.getElem_toArray, List.getElem_cons_zero, List.getElem_cons_succ, Act.put, List.setIfInBounds_toArray, List.set_cons_zero, List.set_cons_succ]
    refine wpAnyT_free (i := 2) hcl rfl (by kernel_rfl) (v := ?_) (fun _ _ _ h => h) hS (Or.inl ⟨rfl, fun w' _ => ?_⟩) (fun hcl => ?_)
    rotate_left
    ·go_simp
     with_reducible rfl
    simp only [List.getElem_toArray, List.getElem_cons_zero, List.getElem_cons_succ, Act.put, List.setIfInBounds_toArray, List.set_cons_zero, List.set_cons_succ]
    refine wpAnyT_free (i := 3) hcl rfl (by kernel_rfl) (v := ?_) (fun _ _ _ h => h) hS (Or.inl ⟨rfl, fun w' _ => ?_⟩) (fun hcl => ?_)
    rotate_left
    ·go_simp
     with_reducible rfl
    simp only [List.getElem_toArray, List.getElem_cons_zero, List.getElem_cons_succ, Act.put, List.setIfInBounds_toArray, List.set_cons_zero, List.set_cons_succ]
    refine wpAnyT_free (i := 4) hcl rfl (by kernel_rfl) (v := ?_) (fun _ _ _ h => h) hS (Or.inl ⟨rfl, fun w' _ => ?_⟩) (fun hcl => ?_)
    rotate_left
    ·go_simp
     with_reducible rfl
    simp only [List.getElem_toArray, List.getElem_cons_zero, List.getElem_cons_succ, Act.put, List.setIfInBounds_toArray, List.set_cons_zero, List.set_cons_succ]
    refine wpAnyT_free (i := 5) hcl rfl (by kernel_rfl) (v := ?_) (fun _ _ _ h => h) hS (Or.inl ⟨rfl, fun w' _ => ?_⟩) (fun hcl => ?_)
    rotate_left
    ·go_simp
     with_reducible rfl
    simp only [List.getElem_toArray, List.getElem_cons_zero, List.getElem_cons_succ, Act.put, List.setIfInBounds_toArray, List.set_cons_zero, List.set_cons_succ]
    refine wpAnyT_free (i := 6) hcl rfl (by kernel_rfl) (v := ?_) (fun _ _ _ h => h) hS (Or.inl ⟨rfl, fun w' _ => ?_⟩) (fun hcl => ?_)
    rotate_left
    ·go_simp
     with_reducible rfl
    simp only [List.getElem_toArray, List.getElem_cons_zero, List.getElem_cons_succ, Act.put, List.setIfInBounds_toArray, List.set_cons_zero, List.set_cons_succ]
    refine wpAnyT_free (i := 8) hcl rfl (by kernel_rfl) (v := ?_) (fun _ _ _ h => h) hS (Or.inl ⟨rfl, fun w' _ => ?_⟩) (fun hcl => ?_)
    rotate_left
    ·go_simp
     with_reducible rfl
    simp only [List.getElem_toArray, List.getElem_cons_zero, List.getElem_cons_succ, Act.put, List.setIfInBounds_toArray, List.set_cons_zero, List.set_cons_succ]
    refine wpAnyT_free (i := 9) hcl rfl (by kernel_rfl) (v := ?_) (fun _ _ _ h => h) hS (Or.inl ⟨rfl, fun w' _ => ?_⟩) (fun hcl => ?_)
    rotate_left
    ·go_simp
     with_reducible rfl
    simp only [List.getElem_toArray, List.getElem_cons_zero, List.getElem_cons_succ, Act.put, List.setIfInBounds_toArray, List.set_cons_zero, List.set_cons_succ]
    refine wpAnyT_step (i := 7) hcl rfl (by kernel_rfl) (fun hcl => ?_)
    simp only [List.getElem_toArray, List.getElem_cons_zero, List.getElem_cons_succ, Act.put, List.setIfInBounds_toArray, List.set_cons_zero, List.set_cons_succ]
    go_wp2_with fail
    refine (refRange_any b c _ l0 l2).mono ?_
    rintro e W6 ⟨rfl, hb6⟩
    have hS4 := hS0.trans (hb6.mono hS0.size)
    generalize (fun x => decide (b ≤ x ∧ x ≤ c)) = S at *
    unfold setV setC
    go_wp2_with fail
    refine ⟨trivial, ?_⟩
    clear hS0 hb6
    have H6 := hide (And.intro (H5.out.1.below hS4 H5.out.1.lt) (H5.out.2.trans (hS4.mono H5.out.2.size)))
    clear hS4 H5
    refine wpAnyT_free (i := 10) hcl rfl (by kernel_rfl) (v := ?_) (fun _ _ _ h => h) hS (Or.inl ⟨rfl, fun w' _ => ?_⟩) (fun hcl => ?_)
    rotate_left
    ·go_simp
     with_reducible rfl
    simp only [List.getElem_toArray, List.getElem_cons_zero, List.getElem_cons_succ, Act.put, List.setIfInBounds_toArray, List.set_cons_zero, List.set_cons_succ]
    refine wpAnyT_step (i := 11) hcl rfl (by kernel_rfl) (fun hcl => ?_)
    simp only [List.getElem_toArray, List.getElem_cons_zero, List.getElem_cons_succ, Act.put, List.setIfInBounds_toArray, List.set_cons_zero, List.set_cons_succ]
    refine wpList_store_row rfl _ _ _ rfl w.heap.size 0 _ _ _ rfl rfl H6.out.1 Tryz.sizeAns (by simp) (by simp [Value.oneCell']) ?_
    intro w9 hrow2 hg9 hz9
    refine wpList_nil ?_
    have hrow := hrow2.out
    rw [splice_full (by rfl)] at hrow
    have hb9 := below_grew H6.out.2 hg9 (Nat.le_refl _) (fun q hq => by rw [← Option.some.inj hq]; exact Nat.le_refl _)
    have HF := hide (And.intro hrow hb9)
    clear hrow hrow2 hg9 hz9 hb9
    refine ⟨trivial, ?_⟩
    refine wpAnyT_done (by kernel_rfl) ?_ _
    go_wp2_with fail
    refine bodyPost_ret (results_cell_row rfl _ _ w.heap.size _ _ (0, 0) _ rfl HF.out.1 Tryz.underlying177 rfl Tryz.sizeAns) rfl ?_
    refine ⟨?_, HF.out.2⟩
    rw [HR2.out]
    first | rfl | (unfold R5.ans; simp) | (unfold R5.ans; simp; omega)
end Go.Proofs.YtpkcklpjbeginaaGreatDoor
