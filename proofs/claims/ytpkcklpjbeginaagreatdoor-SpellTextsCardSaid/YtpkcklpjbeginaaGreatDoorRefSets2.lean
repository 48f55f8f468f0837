/- trawlref01: Join, Meet, Not, Range, Of one byte. (Printed by gen_refsets2.py.) -/
import Derived.Test.YtpkcklpjbeginaaGreatDoorRefSets
import Derived.Deep.DeepCutAuto
set_option linter.unusedSimpArgs false
set_option linter.unusedVariables false
namespace Go.Proofs.YtpkcklpjbeginaaGreatDoor
open Go.RowKit

set_option maxRecDepth 100000 in
set_option maxHeartbeats 4000000 in
theorem refNot_any (S : Nat → Bool) (w : World) : Calls Tryz.prog 104 #[setV S] w (SetIs (fun x => !S x) w) := by
 obtain ⟨R, hR⟩ : ∃ R : Nat → Bool, R = (fun x => !S x) := ⟨_, rfl⟩
 rw [← hR]
 have HR := hide hR
 clear hR
 have hb := ((Below.refl w.heap.size w).alloc (Nat.le_refl _) (.cells (setC S).toArray 24)).alloc (by simp) (.cells #[.int .u64 0, .int .u64 0, .int .u64 0, .int .u64 0] 24)
 have h1 := (Blk.new w 24 (setC S).toArray).alloc (.cells #[.int .u64 0, .int .u64 0, .int .u64 0, .int .u64 0] 24)
 have h3 := Blk.new (w.alloc (.cells (setC S).toArray 24)) 24 #[.int .u64 0, .int .u64 0, .int .u64 0, .int .u64 0]
 rw [World.size_alloc] at h3
 have hsz : w.heap.size + 1 < ((w.alloc (.cells (setC S).toArray 24)).alloc (.cells #[.int .u64 0, .int .u64 0, .int .u64 0, .int .u64 0] 24)).heap.size := by simp
 have H0 := hide (And.intro h1 (And.intro h3 hb))
 clear hb h1 h3
 unfold setV
 go_enter Tryz.func104, Tryz.ntmps104
 go_upto_region 1 with fail
 generalize ((w.alloc (.cells (setC S).toArray 24)).alloc (.cells #[.int .u64 0, .int .u64 0, .int .u64 0, .int .u64 0] 24)) = W at *
 have c0 : ∀ i : Nat, _ = _ := H0.out.1.cell
 simp only [setC] at c0
 have HB := hide (bits_any S W)
 unfold setV setC at HB
 go_wp2_with fail
 refine HB.out.mono ?_
 rintro e w1 ⟨rfl, hb1⟩
 have hal := (Below.refl w1.heap.size w1).alloc (Nat.le_refl _) (.cells (boolsC fun _ => false).toArray 132)
 have hzb := Blk.new w1 132 (boolsC fun _ => false).toArray
 have hw1 := hb1.size
 have H1 := hide (And.intro (H0.out.2.1.below hb1 (by omega)) (H0.out.2.2.trans (hb1.mono (by omega))))
 clear hb1 HB c0 H0
 go_wp2_with (first | refine wpList_alloc_bools rfl rfl ?_ | refine wpList_store_bools rfl _ _ rfl w1.heap.size _ S rfl rfl hzb (by simp [boolsC_len]) ?_)
 intro w2 hrow hg9 hz9
 have hbE : Below w1.heap.size w1 w2 := below_grew hal hg9 (Nat.le_refl _) (fun q hq => by rw [← Option.some.inj hq]; exact Nat.le_refl _)
 have H2 := hide (And.intro hrow (And.intro (H1.out.1.below hbE (by have := H1.out.1.lt; exact this)) (H1.out.2.trans (hbE.mono (by omega)))))
 have hgl := hrow.lt
 clear hrow hg9 hz9 hal hzb hbE H1
 generalize hgb : w1.heap.size = gb at *
 clear hgb w1
 go_wp2_with fail
 go_loopw [4] (fun kv wr => ∃ k : Nat, kv = .int .i64 (k : Int) ∧ k ≤ 256 ∧ Blk wr gb 132 (boolsC fun x => if x < k then R x else S x).toArray ∧ Blk wr (w.heap.size + 1) 24 #[.int .u64 0, .int .u64 0, .int .u64 0, .int .u64 0] ∧ Below w.heap.size w wr) (fun kv _ => 256 - (intOf kv).toNat)
 case atStart => exact ⟨0, rfl, by omega, (boolsC_congr (f := S) (g := fun x => if x < 0 then R x else S x) (fun x _ => by rw [if_neg (by omega)])) ▸ H2.out.1, H2.out.2.1, H2.out.2.2⟩
 case round =>
  clear H2
  obtain ⟨k, rfl, hk, h1, h3, hb⟩ := hrel
  have HH := hide (And.intro h1 (And.intro h3 hb))
  have hzb := hb.size
  clear h1 h3 hb
  by_cases hlt : k < 256
  case neg =>
   have g1 : decide ((k : Int) < 256) = false := decide_eq_false (by omega)
   obtain rfl : k = 256 := by omega
   have H4 := hide (And.intro (show Blk wr gb 132 (boolsC R).toArray from (boolsC_congr (f := fun x => if x < 256 then R x else S x) (g := R) (fun x hx => by rw [if_pos hx])) ▸ HH.out.1) HH.out.2)
   clear HH
   have HM := hide (made_any R wr)
   go_wp2_with (refine wpList_load_bools rfl _ rfl gb _ rfl H4.out.1 ?_)
   refine HM.out.mono ?_
   rintro e w5 ⟨rfl, hb5⟩
   have H5 := hide (And.intro (H4.out.2.1.below hb5 (by have := H4.out.2.1.lt; exact this)) (H4.out.2.2.trans (hb5.mono H4.out.2.2.size)))
   clear hb5 H4 HM
   unfold setV
   simp only [setC]
   go_wp2_with (refine wpList_store_row rfl _ _ _ rfl (w.heap.size + 1) 0 _ _ _ rfl rfl H5.out.1 Tryz.sizeSetO (by simp) (by simp [Value.oneCell']) ?_)
   intro w9 hrow2 hg9 hz9
   have hrow := hrow2.out
   rw [splice_full (by rfl)] at hrow
   have hb9 := below_grew H5.out.2 hg9 (Nat.le_refl _) (fun q hq => by rw [← Option.some.inj hq]; omega)
   have HF := hide (And.intro hrow hb9)
   clear hrow hrow2 hg9 hz9
   go_wp2_with fail
   refine bodyPost_ret (results_cell_row rfl _ _ (w.heap.size + 1) _ _ (0, 0) _ rfl HF.out.1 Tryz.underlying24 rfl Tryz.sizeSetO) rfl ?_
   exact ⟨rfl, HF.out.2⟩
  have g1 : decide ((k : Int) < 256) = true := decide_eq_true (by omega)
  have hk6 : (k : Int) < 256 := by omega
  have c5 := HH.out.1.bit k hlt
  have f5 := HH.out.1.frozen k
  rw [if_neg (by omega)] at c5
  have hnew : boolsC (fun x => if x < k + 1 then R x else S x) = boolsC (fun x => if x = k then R k else if x < k then R x else S x) := boolsC_congr fun x _ => by
   by_cases e : x = k
   ·subst e; rw [if_pos (by omega), if_pos rfl]
   ·rw [if_neg e]
    by_cases h : x < k
    ·rw [if_pos (by omega), if_pos h]
    ·rw [if_neg (by omega), if_neg h]
  have hRk : R k = !S k := by rw [HR.out]
  rw [hRk] at hnew
  have HNW := hide hnew
  clear hnew hRk
  obtain ⟨sk, hsk⟩ : ∃ b, b = S k := ⟨_, rfl⟩
  rw [← hsk] at c5 HNW
  clear hsk
  cases sk
  all_goals
   go_wp2_with fail
   go_roundw
   case rel =>
    refine ⟨k + 1, by go_num, by omega, ?_, HH.out.2.1.far (by show w.heap.size + 1 ≠ gb; omega) _, HH.out.2.2.setCell (by show w.heap.size ≤ gb; omega) _⟩
    rw [HNW.out]
    exact HH.out.1.setBit k _
   case measure => simp [intOf]; omega

end Go.Proofs.YtpkcklpjbeginaaGreatDoor
