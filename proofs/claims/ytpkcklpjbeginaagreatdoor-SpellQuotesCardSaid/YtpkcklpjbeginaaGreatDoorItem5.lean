/- bracket.item. (Printed by gen_item5.py.) -/
import Derived.Test.YtpkcklpjbeginaaGreatDoorBrack2
import Derived.Test.YtpkcklpjbeginaaGreatDoorInts
set_option linter.unusedSimpArgs false
set_option linter.unusedVariables false
namespace Go.Proofs.YtpkcklpjbeginaaGreatDoor
open Go.RowKit

/-- What an item of a bracket expression answers. -/
def itemP (p : ByteArray) (i : Nat) (pl : Int) : R5 :=
 if pb p i = 91 ∧ (pb p (i + 1) = 46 ∨ pb p (i + 1) = 61) then .bad 6 (i : Int)
 else if pb p i = 91 ∧ pb p (i + 1) = 58 then namedP p i pl
 else if pb p (i + 1) = 45 ∧ i + 2 < p.size ∧ pb p (i + 2) ≠ 93 then
  if pb p (i + 2) = 91 ∧ (pb p (i + 3) = 46 ∨ pb p (i + 3) = 61) then .bad 6 ((i + 2 : Nat) : Int)
  else if (pb p (i + 2) = 91 ∧ pb p (i + 3) = 58) ∨ pb p (i + 2) < pb p i then .bad 4 (i : Int)
  else .good (fun x => decide (pb p i ≤ x ∧ x ≤ pb p (i + 2))) (i + 3)
 else .good (fun x => decide (x = pb p i)) (i + 1)
theorem markP_cases (p : ByteArray) (i : Nat) : ((markP p i = 46 ∨ markP p i = 61) ∧ pb p i = 91 ∧ (pb p (i + 1) = 46 ∨ pb p (i + 1) = 61)) ∨ (markP p i = 58 ∧ (pb p i = 91 ∧ pb p (i + 1) = 58)) ∨ (markP p i = 0 ∧ ¬ (pb p i = 91 ∧ (pb p (i + 1) = 46 ∨ pb p (i + 1) = 61)) ∧ ¬ (pb p i = 91 ∧ pb p (i + 1) = 58)) := by
 unfold markP
 by_cases h : pb p i = 91 ∧ (pb p (i + 1) = 46 ∨ pb p (i + 1) = 61 ∨ pb p (i + 1) = 58)
 ·rw [if_pos h]; omega
 ·rw [if_neg h]; omega
set_option maxRecDepth 100000 in
set_option maxHeartbeats 4000000 in
theorem item_any (p : ByteArray) (i : Nat) (pl : Int) (hi : i < p.size) (hs : p.size < 4294967281) (a : Nat → Addr) (m : Int) (hN : Named5Ok a) (w : World) (hB : B5 w a m) : Calls Tryz.prog 146 #[.string p, .int .i64 (i : Int), .int .i64 pl] w (R5.Is (itemP p i pl) a w) := by
 obtain ⟨r, hr⟩ : ∃ r, r = itemP p i pl := ⟨_, rfl⟩
 rw [← hr]
 have HR := hide hr
 clear hr
 have hb := (Below.refl w.heap.size w).alloc (Nat.le_refl _) (.cells #[.int .u64 0, .int .u64 0, .int .u64 0, .int .u64 0] 24)
 have h1 := Blk.new w 24 #[.int .u64 0, .int .u64 0, .int .u64 0, .int .u64 0]
 have H0 := hide (And.intro h1 (And.intro hb (hB.below hb)))
 clear hb h1 hB
 have HI := hide hi
 have HS := hide hs
 have HN := hide hN
 clear hi hs hN
 have hw1 : IntKind.i64.wrap ((i : Int) + 1) = (i : Int) + 1 := by have := HS.out; have := HI.out; simp [IntKind.wrap, IntKind.bits, IntKind.signed]; omega
 have hw2 : IntKind.i64.wrap ((i : Int) + 2) = (i : Int) + 2 := by have := HS.out; have := HI.out; simp [IntKind.wrap, IntKind.bits, IntKind.signed]; omega
 have hw3 : IntKind.i64.wrap ((i : Int) + 3) = (i : Int) + 3 := by have := HS.out; have := HI.out; simp [IntKind.wrap, IntKind.bits, IntKind.signed]; omega
 have hn1 : ((i : Int) + 1).toNat = i + 1 := by omega
 have hn2 : ((i : Int) + 2).toNat = i + 2 := by omega
 have hc0 : (0 : Int) ≤ i ∧ (i : Int) < (p.size : Int) := by have := HI.out; omega
 go_enter Tryz.func146, Tryz.ntmps146
 go_upto_region 1 with fail
 generalize (w.alloc (.cells #[.int .u64 0, .int .u64 0, .int .u64 0, .int .u64 0] 24)) = W at *
 go_wp2_with fail
 refine (mark5_any p (i) HI.out (by have := HS.out; omega) W).mono ?_
 rintro e W1 ⟨rfl, hw⟩
 subst hw
 have hM := markP_cases p i
 generalize markP p i = M1 at *
 rcases hM with ⟨hM, hD⟩ | ⟨hM, hD⟩ | ⟨hM, hD, hC⟩
 ·have HR2 := hide (show r = .bad 6 (i : Int) by rw [HR.out]; unfold itemP; rw [if_pos hD])
  clear HR hD
  have ce := H0.out.2.2.errs.var 9 (by decide)
  rcases hM with rfl | rfl
  ·go_wp2_with fail
   refine (fault_any (i : Int) (a 9) W1).mono ?_
   rintro e wf ⟨gf, rfl, hgf, hbf, hb2⟩
   have HB := hide (And.intro (H0.out.1.below hb2 (by have := H0.out.1.lt; omega)) (And.intro (H0.out.2.1.trans (hb2.mono H0.out.2.1.size)) hbf))
   have HG := hide (And.intro hgf hbf.lt)
   have hz2 := hb2.size
   have hz1 := H0.out.2.1.size
   have hne := H0.out.1.lt
   clear hgf hbf hb2
   unfold faultV
   go_wp2_with (refine wpList_store_row rfl _ _ _ rfl w.heap.size 0 _ _ _ rfl rfl HB.out.1 Tryz.sizeSetO (by simp) (by simp [Value.oneCell']) ?_)
   intro w9 hrow2 hg9 hz9
   have hrow := hrow2.out
   rw [splice_full (by rfl)] at hrow
   have hb9 := below_grew HB.out.2.1 hg9 (Nat.le_refl _) (fun q hq => by rw [← Option.some.inj hq]; exact Nat.le_refl _)
   have HF := hide (And.intro hrow (And.intro hb9 (HB.out.2.2.grown hg9 (fun e => by have := Option.some.inj e; have := HG.out.1; omega))))
   clear hrow hrow2 hg9 hz9 hb9
   go_wp2_with fail
   have c9 : ∀ i : Nat, _ = _ := HF.out.1.cell
   refine bodyPost_ret (v := .tuple #[setV (fun _ => false), .int .i64 0, faultV gf]) (by rw [setV_none]; unfold faultV; simp [results, Tryz.results146, go_sem, c9]) rfl ?_
   rw [HR2.out]
   exact ⟨gf, rfl, by have := HG.out.1; omega, HF.out.2.2, HF.out.2.1⟩
  ·go_wp2_with fail
   refine (fault_any (i : Int) (a 9) W1).mono ?_
   rintro e wf ⟨gf, rfl, hgf, hbf, hb2⟩
   have HB := hide (And.intro (H0.out.1.below hb2 (by have := H0.out.1.lt; omega)) (And.intro (H0.out.2.1.trans (hb2.mono H0.out.2.1.size)) hbf))
   have HG := hide (And.intro hgf hbf.lt)
   have hz2 := hb2.size
   have hz1 := H0.out.2.1.size
   have hne := H0.out.1.lt
   clear hgf hbf hb2
   unfold faultV
   go_wp2_with (refine wpList_store_row rfl _ _ _ rfl w.heap.size 0 _ _ _ rfl rfl HB.out.1 Tryz.sizeSetO (by simp) (by simp [Value.oneCell']) ?_)
   intro w9 hrow2 hg9 hz9
   have hrow := hrow2.out
   rw [splice_full (by rfl)] at hrow
   have hb9 := below_grew HB.out.2.1 hg9 (Nat.le_refl _) (fun q hq => by rw [← Option.some.inj hq]; exact Nat.le_refl _)
   have HF := hide (And.intro hrow (And.intro hb9 (HB.out.2.2.grown hg9 (fun e => by have := Option.some.inj e; have := HG.out.1; omega))))
   clear hrow hrow2 hg9 hz9 hb9
   go_wp2_with fail
   have c9 : ∀ i : Nat, _ = _ := HF.out.1.cell
   refine bodyPost_ret (v := .tuple #[setV (fun _ => false), .int .i64 0, faultV gf]) (by rw [setV_none]; unfold faultV; simp [results, Tryz.results146, go_sem, c9]) rfl ?_
   rw [HR2.out]
   exact ⟨gf, rfl, by have := HG.out.1; omega, HF.out.2.2, HF.out.2.1⟩
 ·subst hM
  have hi1 : i + 1 < p.size := pb_in (by omega)
  have HR2 := hide (show r = namedP p i pl by rw [HR.out]; unfold itemP; rw [if_neg (by omega), if_pos hD])
  clear HR hD
  go_wp2_with fail
  refine (named_any p i pl hi1 HS.out a m HN.out W1 H0.out.2.2).mono ?_
  intro e w2 hres
  generalize namedP p i pl = q at *
  cases q with
  | good S n =>
   obtain ⟨rfl, hb2⟩ := hres
   have H2 := hide (And.intro (H0.out.1.below hb2 H0.out.1.lt) (H0.out.2.1.trans (hb2.mono H0.out.2.1.size)))
   clear hb2 H0
   unfold setV setC
   go_wp2_with (refine wpList_store_row rfl _ _ _ rfl w.heap.size 0 _ _ _ rfl rfl H2.out.1 Tryz.sizeSetO (by simp) (by simp [Value.oneCell']) ?_)
   intro w9 hrow2 hg9 hz9
   have hrow := hrow2.out
   rw [splice_full (by rfl)] at hrow
   have hb9 := below_grew H2.out.2 hg9 (Nat.le_refl _) (fun q hq => by rw [← Option.some.inj hq]; exact Nat.le_refl _)
   have HF := hide (And.intro (show Blk w9 w.heap.size 24 (setC S).toArray from hrow) hb9)
   clear hrow hrow2 hg9 hz9 hb9
   go_wp2_with fail
   have c9 : ∀ i : Nat, _ = _ := HF.out.1.cell
   simp only [setC] at c9
   refine bodyPost_ret (v := .tuple #[setV S, .int .i64 ((n : Nat) : Int), .nilIface]) (by unfold setV setC; simp [results, Tryz.results146, go_sem, c9]; try omega) rfl ?_
   rw [HR2.out]
   exact ⟨rfl, HF.out.2⟩
  | bad k z =>
   obtain ⟨gf, rfl, hgf, hbf, hb2⟩ := hres
   have H2 := hide (And.intro (H0.out.1.below hb2 H0.out.1.lt) (And.intro (H0.out.2.1.trans (hb2.mono H0.out.2.1.size)) hbf))
   have hne := H0.out.1.lt
   clear hb2 H0 hbf
   rw [setV_none]
   unfold faultV
   go_wp2_with (refine wpList_store_row rfl _ _ _ rfl w.heap.size 0 _ _ _ rfl rfl H2.out.1 Tryz.sizeSetO (by simp) (by simp [Value.oneCell']) ?_)
   intro w9 hrow2 hg9 hz9
   have hrow := hrow2.out
   rw [splice_full (by rfl)] at hrow
   have hb9 := below_grew H2.out.2.1 hg9 (Nat.le_refl _) (fun q hq => by rw [← Option.some.inj hq]; exact Nat.le_refl _)
   have HF := hide (And.intro hrow (And.intro hb9 (H2.out.2.2.grown hg9 (fun e => by have := Option.some.inj e; omega))))
   clear hrow hrow2 hg9 hz9 hb9
   go_wp2_with fail
   have c9 : ∀ i : Nat, _ = _ := HF.out.1.cell
   refine bodyPost_ret (v := .tuple #[setV (fun _ => false), .int .i64 0, faultV gf]) (by rw [setV_none]; unfold faultV; simp [results, Tryz.results146, go_sem, c9]) rfl ?_
   rw [HR2.out]
   exact ⟨gf, rfl, by omega, HF.out.2.2, HF.out.2.1⟩
 ·subst hM
  by_cases hsgl : pb p (i + 1) = 45 ∧ i + 2 < p.size ∧ pb p (i + 2) ≠ 93
  case neg =>
   have hHR := HR.out
   unfold itemP at hHR
   rw [if_neg hD, if_neg hC, if_neg hsgl] at hHR
   clear hD hC HR
   have q0 := pb_at HI.out
   obtain ⟨b, hb0⟩ : ∃ b, b = pb p i := ⟨_, rfl⟩
   rw [← hb0] at hHR
   have hb8 : b < 256 := by rw [hb0]; exact pb_lt HI.out
   have q1 : (p[i]'HI.out).toNat = b := by rw [hb0, q0]
   have HR2 := hide hHR
   clear hHR hb0 q0
   have hcond : (¬ (i : Int) + 2 < (p.size : Int)) ∨ (∃ h1 : i + 1 < p.size, i + 2 < p.size ∧ ¬ (p[i + 1]'h1).toNat = 45) ∨ (∃ (h1 : i + 1 < p.size) (h2 : i + 2 < p.size), (p[i + 1]'h1).toNat = 45 ∧ (p[i + 2]'h2).toNat = 93) := by
    by_cases h2 : i + 2 < p.size
    ·by_cases h3 : pb p (i + 1) = 45
     ·by_cases h4 : pb p (i + 2) = 93
      ·exact .inr (.inr ⟨by omega, h2, by rw [← pb_at (by omega)]; exact h3, by rw [← pb_at h2]; exact h4⟩)
      ·exact absurd ⟨h3, h2, h4⟩ hsgl
     ·exact .inr (.inl ⟨by omega, h2, by rw [← pb_at (by omega)]; exact h3⟩)
    ·exact .inl (by omega)
   clear hsgl
   have HALL := hide (And.intro hb8 q1)
   rcases hcond with h2 | ⟨h1, h2, h3⟩ | ⟨h1, h2, h3, h4⟩
   ·have hge : (i : Int) + 2 ≥ (p.size : Int) := by omega
    clear h2
    have hi := HI.out
    go_wp2_with fail
    have hu := Blk.new W1 5 #[.int .u8 (b : Int)]
    have hbu := (Below.refl W1.heap.size W1).alloc (Nat.le_refl _) (.cells #[.int .u8 (b : Int)] 5)
    generalize (W1.alloc (.cells #[.int .u8 (b : Int)] 5)) = W2 at *
    refine (of1_any b W1.heap.size W2 hb8 hu).mono ?_
    rintro e w2 ⟨rfl, hb2⟩
    have hb3 := hbu.trans (hb2.mono hbu.size)
    have H2 := hide (And.intro (H0.out.1.below hb3 H0.out.1.lt) (H0.out.2.1.trans (hb3.mono H0.out.2.1.size)))
    clear hbu hb2 hb3 H0 hu
    generalize (fun x => decide (x = b)) = S at *
    unfold setV setC
    go_wp2_with (refine wpList_store_row rfl _ _ _ rfl w.heap.size 0 _ _ _ rfl rfl H2.out.1 Tryz.sizeSetO (by simp) (by simp [Value.oneCell']) ?_)
    intro w9 hrow2 hg9 hz9
    have hrow := hrow2.out
    rw [splice_full (by rfl)] at hrow
    have hb9 := below_grew H2.out.2 hg9 (Nat.le_refl _) (fun q hq => by rw [← Option.some.inj hq]; exact Nat.le_refl _)
    have HF := hide (And.intro (show Blk w9 w.heap.size 24 (setC S).toArray from hrow) hb9)
    clear hrow hrow2 hg9 hz9 hb9
    go_wp2_with fail
    have c9 : ∀ i : Nat, _ = _ := HF.out.1.cell
    simp only [setC] at c9
    refine bodyPost_ret (v := .tuple #[setV S, .int .i64 ((i + 1 : Nat) : Int), .nilIface]) (by unfold setV setC; simp [results, Tryz.results146, go_sem, c9]; try omega) rfl ?_
    rw [HR2.out]
    exact ⟨rfl, HF.out.2⟩
   ·have hge : ¬ (i : Int) + 2 ≥ (p.size : Int) := by omega
    have hgl : ¬ (p.size : Int) ≤ (i : Int) + 2 := by omega
    have hgd : decide ((p.size : Int) ≤ (i : Int) + 2) = false := decide_eq_false hgl
    have hc1 : (0 : Int) ≤ (i : Int) + 1 ∧ (i : Int) + 1 < (p.size : Int) := by omega
    have e3 : ¬ ((p[i + 1]'h1).toNat : Int) = 45 := by omega
    clear h2 h3
    have hi := HI.out
    go_wp2_with fail
    have hu := Blk.new W1 5 #[.int .u8 (b : Int)]
    have hbu := (Below.refl W1.heap.size W1).alloc (Nat.le_refl _) (.cells #[.int .u8 (b : Int)] 5)
    generalize (W1.alloc (.cells #[.int .u8 (b : Int)] 5)) = W2 at *
    refine (of1_any b W1.heap.size W2 hb8 hu).mono ?_
    rintro e w2 ⟨rfl, hb2⟩
    have hb3 := hbu.trans (hb2.mono hbu.size)
    have H2 := hide (And.intro (H0.out.1.below hb3 H0.out.1.lt) (H0.out.2.1.trans (hb3.mono H0.out.2.1.size)))
    clear hbu hb2 hb3 H0 hu
    generalize (fun x => decide (x = b)) = S at *
    unfold setV setC
    go_wp2_with (refine wpList_store_row rfl _ _ _ rfl w.heap.size 0 _ _ _ rfl rfl H2.out.1 Tryz.sizeSetO (by simp) (by simp [Value.oneCell']) ?_)
    intro w9 hrow2 hg9 hz9
    have hrow := hrow2.out
    rw [splice_full (by rfl)] at hrow
    have hb9 := below_grew H2.out.2 hg9 (Nat.le_refl _) (fun q hq => by rw [← Option.some.inj hq]; exact Nat.le_refl _)
    have HF := hide (And.intro (show Blk w9 w.heap.size 24 (setC S).toArray from hrow) hb9)
    clear hrow hrow2 hg9 hz9 hb9
    go_wp2_with fail
    have c9 : ∀ i : Nat, _ = _ := HF.out.1.cell
    simp only [setC] at c9
    refine bodyPost_ret (v := .tuple #[setV S, .int .i64 ((i + 1 : Nat) : Int), .nilIface]) (by unfold setV setC; simp [results, Tryz.results146, go_sem, c9]; try omega) rfl ?_
    rw [HR2.out]
    exact ⟨rfl, HF.out.2⟩
   ·have hge : ¬ (i : Int) + 2 ≥ (p.size : Int) := by omega
    have hgl : ¬ (p.size : Int) ≤ (i : Int) + 2 := by omega
    have hgd : decide ((p.size : Int) ≤ (i : Int) + 2) = false := decide_eq_false hgl
    have hc1 : (0 : Int) ≤ (i : Int) + 1 ∧ (i : Int) + 1 < (p.size : Int) := by omega
    have hc2 : (0 : Int) ≤ (i : Int) + 2 ∧ (i : Int) + 2 < (p.size : Int) := by omega
    have e3 : ((p[i + 1]'h1).toNat : Int) = 45 := by omega
    have e4 : ((p[i + 2]'h2).toNat : Int) = 93 := by omega
    clear h3 h4
    have hi := HI.out
    go_wp2_with fail
    have hu := Blk.new W1 5 #[.int .u8 (b : Int)]
    have hbu := (Below.refl W1.heap.size W1).alloc (Nat.le_refl _) (.cells #[.int .u8 (b : Int)] 5)
    generalize (W1.alloc (.cells #[.int .u8 (b : Int)] 5)) = W2 at *
    refine (of1_any b W1.heap.size W2 hb8 hu).mono ?_
    rintro e w2 ⟨rfl, hb2⟩
    have hb3 := hbu.trans (hb2.mono hbu.size)
    have H2 := hide (And.intro (H0.out.1.below hb3 H0.out.1.lt) (H0.out.2.1.trans (hb3.mono H0.out.2.1.size)))
    clear hbu hb2 hb3 H0 hu
    generalize (fun x => decide (x = b)) = S at *
    unfold setV setC
    go_wp2_with (refine wpList_store_row rfl _ _ _ rfl w.heap.size 0 _ _ _ rfl rfl H2.out.1 Tryz.sizeSetO (by simp) (by simp [Value.oneCell']) ?_)
    intro w9 hrow2 hg9 hz9
    have hrow := hrow2.out
    rw [splice_full (by rfl)] at hrow
    have hb9 := below_grew H2.out.2 hg9 (Nat.le_refl _) (fun q hq => by rw [← Option.some.inj hq]; exact Nat.le_refl _)
    have HF := hide (And.intro (show Blk w9 w.heap.size 24 (setC S).toArray from hrow) hb9)
    clear hrow hrow2 hg9 hz9 hb9
    go_wp2_with fail
    have c9 : ∀ i : Nat, _ = _ := HF.out.1.cell
    simp only [setC] at c9
    refine bodyPost_ret (v := .tuple #[setV S, .int .i64 ((i + 1 : Nat) : Int), .nilIface]) (by unfold setV setC; simp [results, Tryz.results146, go_sem, c9]; try omega) rfl ?_
    rw [HR2.out]
    exact ⟨rfl, HF.out.2⟩
  case pos =>
   obtain ⟨h45, h2, h93⟩ := hsgl
   have h1 : i + 1 < p.size := by omega
   have hHR := HR.out
   unfold itemP at hHR
   rw [if_neg hD, if_neg hC, if_pos ⟨h45, h2, h93⟩] at hHR
   clear hD hC HR
   have hge : ¬ (i : Int) + 2 ≥ (p.size : Int) := by omega
   have hgl : ¬ (p.size : Int) ≤ (i : Int) + 2 := by omega
   have hgd : decide ((p.size : Int) ≤ (i : Int) + 2) = false := decide_eq_false hgl
   have hc1 : (0 : Int) ≤ (i : Int) + 1 ∧ (i : Int) + 1 < (p.size : Int) := by omega
   have hc2 : (0 : Int) ≤ (i : Int) + 2 ∧ (i : Int) + 2 < (p.size : Int) := by omega
   have e3 : ((p[i + 1]'h1).toNat : Int) = 45 := by rw [← pb_at h1, h45]; rfl
   have e4 : ¬ ((p[i + 2]'h2).toNat : Int) = 93 := by rw [← pb_at h2]; omega
   have HRR := hide hHR
   clear hHR h45 h93
   go_wp2_with fail
   refine (show Calls Tryz.prog 166 #[.string p, .int .i64 ((i : Int) + 2)] W1 _ from mark5_any p (i + 2) h2 (by have := HS.out; omega) W1).mono ?_
   rintro e W2 ⟨rfl, hw⟩
   subst hw
   have hM := markP_cases p (i + 2)
   rw [show i + 2 + 1 = i + 3 from rfl] at hM
   generalize markP p (i + 2) = M2 at *
   rcases hM with ⟨hM, hD⟩ | ⟨hM, hD⟩ | ⟨hM, hD, hC⟩
   ·have HR2 := hide (show r = .bad 6 ((i + 2 : Nat) : Int) by rw [HRR.out, if_pos hD])
    clear HRR hD
    have ce := H0.out.2.2.errs.var 9 (by decide)
    rcases hM with rfl | rfl
    ·go_wp2_with fail
     refine (fault_any ((i + 2 : Nat) : Int) (a 9) W2).mono ?_
     rintro e wf ⟨gf, rfl, hgf, hbf, hb2⟩
     have HB := hide (And.intro (H0.out.1.below hb2 (by have := H0.out.1.lt; omega)) (And.intro (H0.out.2.1.trans (hb2.mono H0.out.2.1.size)) hbf))
     have HG := hide (And.intro hgf hbf.lt)
     have hz2 := hb2.size
     have hz1 := H0.out.2.1.size
     have hne := H0.out.1.lt
     clear hgf hbf hb2
     unfold faultV
     go_wp2_with (refine wpList_store_row rfl _ _ _ rfl w.heap.size 0 _ _ _ rfl rfl HB.out.1 Tryz.sizeSetO (by simp) (by simp [Value.oneCell']) ?_)
     intro w9 hrow2 hg9 hz9
     have hrow := hrow2.out
     rw [splice_full (by rfl)] at hrow
     have hb9 := below_grew HB.out.2.1 hg9 (Nat.le_refl _) (fun q hq => by rw [← Option.some.inj hq]; exact Nat.le_refl _)
     have HF := hide (And.intro hrow (And.intro hb9 (HB.out.2.2.grown hg9 (fun e => by have := Option.some.inj e; have := HG.out.1; omega))))
     clear hrow hrow2 hg9 hz9 hb9
     go_wp2_with fail
     have c9 : ∀ i : Nat, _ = _ := HF.out.1.cell
     refine bodyPost_ret (v := .tuple #[setV (fun _ => false), .int .i64 0, faultV gf]) (by rw [setV_none]; unfold faultV; simp [results, Tryz.results146, go_sem, c9]) rfl ?_
     rw [HR2.out]
     exact ⟨gf, rfl, by have := HG.out.1; omega, HF.out.2.2, HF.out.2.1⟩
    ·go_wp2_with fail
     refine (fault_any ((i + 2 : Nat) : Int) (a 9) W2).mono ?_
     rintro e wf ⟨gf, rfl, hgf, hbf, hb2⟩
     have HB := hide (And.intro (H0.out.1.below hb2 (by have := H0.out.1.lt; omega)) (And.intro (H0.out.2.1.trans (hb2.mono H0.out.2.1.size)) hbf))
     have HG := hide (And.intro hgf hbf.lt)
     have hz2 := hb2.size
     have hz1 := H0.out.2.1.size
     have hne := H0.out.1.lt
     clear hgf hbf hb2
     unfold faultV
     go_wp2_with (refine wpList_store_row rfl _ _ _ rfl w.heap.size 0 _ _ _ rfl rfl HB.out.1 Tryz.sizeSetO (by simp) (by simp [Value.oneCell']) ?_)
     intro w9 hrow2 hg9 hz9
     have hrow := hrow2.out
     rw [splice_full (by rfl)] at hrow
     have hb9 := below_grew HB.out.2.1 hg9 (Nat.le_refl _) (fun q hq => by rw [← Option.some.inj hq]; exact Nat.le_refl _)
     have HF := hide (And.intro hrow (And.intro hb9 (HB.out.2.2.grown hg9 (fun e => by have := Option.some.inj e; have := HG.out.1; omega))))
     clear hrow hrow2 hg9 hz9 hb9
     go_wp2_with fail
     have c9 : ∀ i : Nat, _ = _ := HF.out.1.cell
     refine bodyPost_ret (v := .tuple #[setV (fun _ => false), .int .i64 0, faultV gf]) (by rw [setV_none]; unfold faultV; simp [results, Tryz.results146, go_sem, c9]) rfl ?_
     rw [HR2.out]
     exact ⟨gf, rfl, by have := HG.out.1; omega, HF.out.2.2, HF.out.2.1⟩
   ·subst hM
    have HR2 := hide (show r = .bad 4 (i : Int) by rw [HRR.out, if_neg (by omega), if_pos (.inl hD)])
    clear HRR hD
    have ce := H0.out.2.2.errs.var 7 (by decide)
    go_wp2_with fail
    refine (fault_any (i : Int) (a 7) W2).mono ?_
    rintro e wf ⟨gf, rfl, hgf, hbf, hb2⟩
    have HB := hide (And.intro (H0.out.1.below hb2 (by have := H0.out.1.lt; omega)) (And.intro (H0.out.2.1.trans (hb2.mono H0.out.2.1.size)) hbf))
    have HG := hide (And.intro hgf hbf.lt)
    have hz2 := hb2.size
    have hz1 := H0.out.2.1.size
    have hne := H0.out.1.lt
    clear hgf hbf hb2
    unfold faultV
    go_wp2_with (refine wpList_store_row rfl _ _ _ rfl w.heap.size 0 _ _ _ rfl rfl HB.out.1 Tryz.sizeSetO (by simp) (by simp [Value.oneCell']) ?_)
    intro w9 hrow2 hg9 hz9
    have hrow := hrow2.out
    rw [splice_full (by rfl)] at hrow
    have hb9 := below_grew HB.out.2.1 hg9 (Nat.le_refl _) (fun q hq => by rw [← Option.some.inj hq]; exact Nat.le_refl _)
    have HF := hide (And.intro hrow (And.intro hb9 (HB.out.2.2.grown hg9 (fun e => by have := Option.some.inj e; have := HG.out.1; omega))))
    clear hrow hrow2 hg9 hz9 hb9
    go_wp2_with fail
    have c9 : ∀ i : Nat, _ = _ := HF.out.1.cell
    refine bodyPost_ret (v := .tuple #[setV (fun _ => false), .int .i64 0, faultV gf]) (by rw [setV_none]; unfold faultV; simp [results, Tryz.results146, go_sem, c9]) rfl ?_
    rw [HR2.out]
    exact ⟨gf, rfl, by have := HG.out.1; omega, HF.out.2.2, HF.out.2.1⟩
   ·subst hM
    have q0 := pb_at HI.out
    have q2 := pb_at h2
    have l0 := pb_lt HI.out
    have l2 := pb_lt h2
    have hhr := HRR.out
    rw [if_neg hD] at hhr
    have hhr2 : r = if pb p (i + 2) < pb p i then .bad 4 (i : Int) else .good (fun x => decide (pb p i ≤ x ∧ x ≤ pb p (i + 2))) (i + 3) := by
     rw [hhr]
     by_cases h : pb p (i + 2) < pb p i
     ·rw [if_pos (.inr h), if_pos h]
     ·rw [if_neg (fun h3 => h3.elim hC h), if_neg h]
    clear hhr hD hC HRR e3 e4
    rw [q0] at l0 hhr2
    rw [q2] at l2 hhr2
    clear q0 q2
    have hi := HI.out
    obtain ⟨b, q0⟩ : ∃ b, (p[i]'hi).toNat = b := ⟨_, rfl⟩
    obtain ⟨c, q2⟩ : ∃ c, (p[i + 2]'h2).toNat = c := ⟨_, rfl⟩
    rw [q0] at l0 hhr2
    rw [q2] at l2 hhr2
    by_cases hlt : c < b
    ·have HR2 := hide (show r = .bad 4 (i : Int) by rw [hhr2, if_pos hlt])
     clear hhr2
     have hlt2 : (c : Int) < (b : Int) := by omega
     have ce := H0.out.2.2.errs.var 7 (by decide)
     go_upto_region 15 with fail
     go_quiet (fail)
     have hbq := below_drewN (Below.refl W2.heap.size W2) nq
     have H3 := hide (And.intro (H0.out.1.below hbq H0.out.1.lt) (And.intro (H0.out.2.1.trans (hbq.mono H0.out.2.1.size)) (H0.out.2.2.below hbq)))
     clear hbq H0 ce
     generalize W2.drewN nq = W3 at *
     have ce := H3.out.2.2.errs.var 7 (by decide)
     go_wp2_with fail
     refine (fault_any (i : Int) (a 7) W3).mono ?_
     rintro e wf ⟨gf, rfl, hgf, hbf, hb2⟩
     have HB := hide (And.intro (H3.out.1.below hb2 (by have := H3.out.1.lt; omega)) (And.intro (H3.out.2.1.trans (hb2.mono H3.out.2.1.size)) hbf))
     have HG := hide (And.intro hgf hbf.lt)
     have hz2 := hb2.size
     have hz1 := H3.out.2.1.size
     have hne := H3.out.1.lt
     clear hgf hbf hb2
     unfold faultV
     go_wp2_with (refine wpList_store_row rfl _ _ _ rfl w.heap.size 0 _ _ _ rfl rfl HB.out.1 Tryz.sizeSetO (by simp) (by simp [Value.oneCell']) ?_)
     intro w9 hrow2 hg9 hz9
     have hrow := hrow2.out
     rw [splice_full (by rfl)] at hrow
     have hb9 := below_grew HB.out.2.1 hg9 (Nat.le_refl _) (fun q hq => by rw [← Option.some.inj hq]; exact Nat.le_refl _)
     have HF := hide (And.intro hrow (And.intro hb9 (HB.out.2.2.grown hg9 (fun e => by have := Option.some.inj e; have := HG.out.1; omega))))
     clear hrow hrow2 hg9 hz9 hb9
     go_wp2_with fail
     have c9 : ∀ i : Nat, _ = _ := HF.out.1.cell
     refine bodyPost_ret (v := .tuple #[setV (fun _ => false), .int .i64 0, faultV gf]) (by rw [setV_none]; unfold faultV; simp [results, Tryz.results146, go_sem, c9]) rfl ?_
     rw [HR2.out]
     exact ⟨gf, rfl, by have := HG.out.1; omega, HF.out.2.2, HF.out.2.1⟩
    ·have HR2 := hide (show r = .good (fun x => decide (b ≤ x ∧ x ≤ c)) (i + 3) by rw [hhr2, if_neg hlt])
     clear hhr2
     have hlt2 : ¬ (c : Int) < (b : Int) := by omega
     go_upto_region 15 with fail
     go_quiet (fail)
     have hbq := below_drewN (Below.refl W2.heap.size W2) nq
     have H3 := hide (And.intro (H0.out.1.below hbq H0.out.1.lt) (And.intro (H0.out.2.1.trans (hbq.mono H0.out.2.1.size)) (H0.out.2.2.below hbq)))
     clear hbq H0
     generalize W2.drewN nq = W3 at *
     go_upto_region 17 with fail
     refine wp_region_mix (fun _ => True) [] (by kernel_rfl) (fun hcl => ?_)
     have hS0 : Below W3.heap.size W3 W3.drew := (Below.refl _ _).drew
     have hS := trivial
     refine wpAnyT_free (i := 0) hcl rfl (by kernel_rfl) (v := ?_) (fun _ _ _ h => h) hS (Or.inl ⟨rfl, fun w' _ => ?_⟩) (fun hcl => ?_)
     rotate_left
     ·go_simp
      with_reducible rfl
     simp only [List.getElem_toArray, List.getElem_cons_zero, List.getElem_cons_succ, Act.put, List.setIfInBounds_toArray, List.set_cons_zero, List.set_cons_succ]
     refine wpAnyT_free (i := 1) hcl rfl (by kernel_rfl) (v := ?_) (fun _ _ _ h => h) hS (Or.inl ⟨rfl, fun w' _ => ?_⟩) (fun hcl => ?_)
     rotate_left
     ·go_simp
      with_reducible rfl
     simp only [List.getElem_toArray, List.getElem_cons_zero, List.getElem_cons_succ, Act.put, List.setIfInBounds_toArray, List.set_cons_zero, List.set_cons_succ]
     refine wpAnyT_free (i := 2) hcl rfl (by kernel_rfl) (v := ?_) (fun _ _ _ h => h) hS (Or.inl ⟨rfl, fun w' _ => ?_⟩) (fun hcl => ?_)
     rotate_left
     ·go_simp
      with_reducible rfl
     simp only [List.getElem_toArray, List.getElem_cons_zero, List.getElem_cons_succ, Act.put, List.setIfInBounds_toArray, List.set_cons_zero, List.set_cons_succ]
     refine wpAnyT_free (i := 3) hcl rfl (by kernel_rfl) (v := ?_) (fun _ _ _ h => h) hS (Or.inl ⟨rfl, fun w' _ => ?_⟩) (fun hcl => ?_)
     rotate_left
     ·go_simp
      with_reducible rfl
     simp only [List.getElem_toArray, List.getElem_cons_zero, List.getElem_cons_succ, Act.put, List.setIfInBounds_toArray, List.set_cons_zero, List.set_cons_succ]
     refine wpAnyT_free (i := 4) hcl rfl (by kernel_rfl) (v := ?_) (fun _ _ _ h => h) hS (Or.inl ⟨rfl, fun w' _ => ?_⟩) (fun hcl => ?_)
     rotate_left
     ·go_simp
      with_reducible rfl
     simp only [List.getElem_toArray, List.getElem_cons_zero, List.getElem_cons_succ, Act.put, List.setIfInBounds_toArray, List.set_cons_zero, List.set_cons_succ]
     refine wpAnyT_free (i := 5) hcl rfl (by kernel_rfl) (v := ?_) (fun _ _ _ h => h) hS (Or.inl ⟨rfl, fun w' _ => ?_⟩) (fun hcl => ?_)
     rotate_left
     ·go_simp
      with_reducible rfl
     simp only [List.getElem_toArray, List.getElem_cons_zero, List.getElem_cons_succ, Act.put, List.setIfInBounds_toArray, List.set_cons_zero, List.set_cons_succ]
     refine wpAnyT_free (i := 6) hcl rfl (by kernel_rfl) (v := ?_) (fun _ _ _ h => h) hS (Or.inl ⟨rfl, fun w' _ => ?_⟩) (fun hcl => ?_)
     rotate_left
     ·go_simp
      with_reducible rfl
     simp only [List.getElem_toArray, List.getElem_cons_zero, List.getElem_cons_succ, Act.put, List.setIfInBounds_toArray, List.set_cons_zero, List.set_cons_succ]
     refine wpAnyT_free (i := 8) hcl rfl (by kernel_rfl) (v := ?_) (fun _ _ _ h => h) hS (Or.inl ⟨rfl, fun w' _ => ?_⟩) (fun hcl => ?_)
     rotate_left
     ·go_simp
      with_reducible rfl
     simp only [List.getElem_toArray, List.getElem_cons_zero, List.getElem_cons_succ, Act.put, List.setIfInBounds_toArray, List.set_cons_zero, List.set_cons_succ]
     refine wpAnyT_free (i := 9) hcl rfl (by kernel_rfl) (v := ?_) (fun _ _ _ h => h) hS (Or.inl ⟨rfl, fun w' _ => ?_⟩) (fun hcl => ?_)
     rotate_left
     ·go_simp
      with_reducible rfl
     simp only [List.getElem_toArray, List.getElem_cons_zero, List.getElem_cons_succ, Act.put, List.setIfInBounds_toArray, List.set_cons_zero, List.set_cons_succ]
     refine wpAnyT_step (i := 7) hcl rfl (by kernel_rfl) (fun hcl => ?_)
     simp only [List.getElem_toArray, List.getElem_cons_zero, List.getElem_cons_succ, Act.put, List.setIfInBounds_toArray, List.set_cons_zero, List.set_cons_succ]
     go_wp2_with fail
     refine (range_any b c _ l0 l2).mono ?_
     rintro e W4 ⟨rfl, hb4⟩
     have hS4 := hS0.trans (hb4.mono hS0.size)
     generalize (fun x => decide (b ≤ x ∧ x ≤ c)) = S at *
     unfold setV setC
     go_wp2_with fail
     refine ⟨trivial, ?_⟩
     clear hS0 hb4
     have H4 := hide (And.intro (H3.out.1.below hS4 H3.out.1.lt) (H3.out.2.1.trans (hS4.mono H3.out.2.1.size)))
     clear hS4 H3
     refine wpAnyT_step (i := 10) hcl rfl (by kernel_rfl) (fun hcl => ?_)
     simp only [List.getElem_toArray, List.getElem_cons_zero, List.getElem_cons_succ, Act.put, List.setIfInBounds_toArray, List.set_cons_zero, List.set_cons_succ]
     refine wpList_store_row rfl _ _ _ rfl w.heap.size 0 _ _ _ rfl rfl H4.out.1 Tryz.sizeSetO (by simp) (by simp [Value.oneCell']) ?_
     intro w9 hrow2 hg9 hz9
     refine wpList_nil ?_
     have hrow := hrow2.out
     rw [splice_full (by rfl)] at hrow
     have hb9 := below_grew H4.out.2 hg9 (Nat.le_refl _) (fun q hq => by rw [← Option.some.inj hq]; exact Nat.le_refl _)
     have HF := hide (And.intro (show Blk w9 w.heap.size 24 (setC S).toArray from hrow) hb9)
     clear hrow hrow2 hg9 hz9 hb9
     refine ⟨trivial, ?_⟩
     refine wpAnyT_free (i := 11) hcl rfl (by kernel_rfl) (v := ?_) (fun _ _ _ h => h) hS (Or.inl ⟨rfl, fun w' _ => ?_⟩) (fun hcl => ?_)
     rotate_left
     ·go_simp
      with_reducible rfl
     simp only [List.getElem_toArray, List.getElem_cons_zero, List.getElem_cons_succ, Act.put, List.setIfInBounds_toArray, List.set_cons_zero, List.set_cons_succ]
     refine wpAnyT_free (i := 12) hcl rfl (by kernel_rfl) (v := ?_) (fun _ _ _ h => h) hS (Or.inl ⟨rfl, fun w' _ => ?_⟩) (fun hcl => ?_)
     rotate_left
     ·go_simp
      with_reducible rfl
     simp only [List.getElem_toArray, List.getElem_cons_zero, List.getElem_cons_succ, Act.put, List.setIfInBounds_toArray, List.set_cons_zero, List.set_cons_succ]
     refine wpAnyT_done (by kernel_rfl) ?_ _
     go_wp2_with fail
     have c9 : ∀ i : Nat, _ = _ := HF.out.1.cell
     simp only [setC] at c9
     refine bodyPost_ret (v := .tuple #[setV S, .int .i64 ((i + 3 : Nat) : Int), .nilIface]) (by unfold setV setC; simp [results, Tryz.results146, go_sem, c9]; try omega) rfl ?_
     rw [HR2.out]
     exact ⟨rfl, HF.out.2⟩
end Go.Proofs.YtpkcklpjbeginaaGreatDoor
