/- trawlref02.Named, Other, Fold. (Printed by gen_classes2.py.) -/
import Derived.Test.YtfehmfifjidjjaaGreatDoorClasses
set_option linter.unusedSimpArgs false
set_option linter.unusedVariables false
namespace Go.Proofs.YtfehmfifjidjjaaGreatDoor
open Go.RowKit

theorem some5l (l : List UInt8) : ((List.range 256).any fun b => match cls5 l with | some f => f b | none => false) = (cls5 l).isSome := by
 by_cases c0 : l = [97, 108, 110, 117, 109]
 ·subst c0; decide +kernel
 by_cases c1 : l = [97, 108, 112, 104, 97]
 ·subst c1; decide +kernel
 by_cases c2 : l = [108, 111, 119, 101, 114]
 ·subst c2; decide +kernel
 by_cases c3 : l = [117, 112, 112, 101, 114]
 ·subst c3; decide +kernel
 by_cases c4 : l = [120, 100, 105, 103, 105, 116]
 ·subst c4; decide +kernel
 by_cases c5 : l = [100, 105, 103, 105, 116]
 ·subst c5; decide +kernel
 by_cases c6 : l = [115, 112, 97, 99, 101]
 ·subst c6; decide +kernel
 by_cases c7 : l = [98, 108, 97, 110, 107]
 ·subst c7; decide +kernel
 by_cases c8 : l = [99, 110, 116, 114, 108]
 ·subst c8; decide +kernel
 by_cases c9 : l = [112, 114, 105, 110, 116]
 ·subst c9; decide +kernel
 by_cases c10 : l = [103, 114, 97, 112, 104]
 ·subst c10; decide +kernel
 by_cases c11 : l = [112, 117, 110, 99, 116]
 ·subst c11; decide +kernel
 have h : cls5 l = none := by
  unfold cls5
  rw [if_neg c0, if_neg c1, if_neg c2, if_neg c3, if_neg c4, if_neg c5, if_neg c6, if_neg c7, if_neg c8, if_neg c9, if_neg c10, if_neg c11]
 rw [h]
 simp
theorem some5 (s : ByteArray) : (List.range 256).any (memb5 s) = (cls5 s.toList).isSome := some5l s.toList
/-- The class, or none, of a name. -/
def NamedIs (s : ByteArray) (w : World) (e : Ending) (w' : World) : Prop := e = .returned (.tuple #[setV (memb5 s), .bool (cls5 s.toList).isSome]) ∧ Below w.heap.size w w'
set_option maxRecDepth 100000 in
set_option maxHeartbeats 4000000 in
theorem refNamed_any (s : ByteArray) (w : World) : Calls Tryz.prog 142 #[.string s] w (NamedIs s w) := by
 have HS := hide (some5 s)
 have HME := hide (fun (k : Nat) (hk : k < 256) (y : World) => member_any s k hk y)
 unfold NamedIs
 generalize (cls5 s.toList).isSome = sm at *
 generalize memb5 s = R at *
 have hb := ((Below.refl w.heap.size w).alloc (Nat.le_refl _) (.cells #[.int .u64 0, .int .u64 0, .int .u64 0, .int .u64 0] 24)).alloc (by simp) (.cells (boolsC fun _ => false).toArray 132)
 have h1' := (Blk.new w 24 #[.int .u64 0, .int .u64 0, .int .u64 0, .int .u64 0]).alloc (.cells (boolsC fun _ => false).toArray 132)
 have h3 := Blk.new (w.alloc (.cells #[.int .u64 0, .int .u64 0, .int .u64 0, .int .u64 0] 24)) 132 (boolsC fun _ => false).toArray
 rw [World.size_alloc] at h3
 have hsz : w.heap.size + 1 < ((w.alloc (.cells #[.int .u64 0, .int .u64 0, .int .u64 0, .int .u64 0] 24)).alloc (.cells (boolsC fun _ => false).toArray 132)).heap.size := by simp
 have H0 := hide (And.intro h3 (And.intro h1' hb))
 clear hb h1' h3
 go_enter Tryz.func142, Tryz.ntmps142
 go_wp2_with (refine wpList_alloc_bools rfl rfl ?_)
 generalize ((w.alloc (.cells #[.int .u64 0, .int .u64 0, .int .u64 0, .int .u64 0] 24)).alloc (.cells (boolsC fun _ => false).toArray 132)) = W at *
 go_loopw [5, 6] (fun sv kv wr => ∃ k : Nat, kv = .int .i64 (k : Int) ∧ k ≤ 256 ∧ sv = .bool ((List.range k).any R) ∧ Blk wr (w.heap.size + 1) 132 (boolsC fun x => decide (x < k) && R x).toArray ∧ Blk wr w.heap.size 24 #[.int .u64 0, .int .u64 0, .int .u64 0, .int .u64 0] ∧ Below w.heap.size w wr) (fun _ kv _ => 256 - (intOf kv).toNat)
 case atStart => exact ⟨0, rfl, by omega, rfl, (boolsC_congr (f := fun _ => false) (g := fun x => decide (x < 0) && R x) (fun x _ => by simp)) ▸ H0.out.1, H0.out.2.1, H0.out.2.2⟩
 case round =>
  clear H0
  obtain ⟨k, rfl, hk, rfl, h1', h3, hb⟩ := hrel
  have HH := hide (And.intro h1' (And.intro h3 hb))
  have hzb := hb.size
  clear h1' h3 hb
  by_cases hlt : k < 256
  case neg =>
   have g1 : decide ((k : Int) < 256) = false := decide_eq_false (by omega)
   obtain rfl : k = 256 := by omega
   rw [HS.out]
   have H4 := hide (And.intro (show Blk wr (w.heap.size + 1) 132 (boolsC R).toArray from (boolsC_congr (f := fun x => decide (x < 256) && R x) (g := R) (fun x hx => by simp [hx])) ▸ HH.out.1) HH.out.2)
   clear HH
   have HM := hide (made_any R wr)
   go_wp2_with (refine wpList_load_bools rfl _ rfl (w.heap.size + 1) _ rfl H4.out.1 ?_)
   refine HM.out.mono ?_
   rintro e w5 ⟨rfl, hb5⟩
   have H5 := hide (And.intro (H4.out.2.1.below hb5 (by have := H4.out.2.1.lt; exact this)) (H4.out.2.2.trans (hb5.mono H4.out.2.2.size)))
   clear hb5 H4 HM
   unfold setV
   simp only [setC]
   go_wp2_with (refine wpList_store_row rfl _ _ _ rfl w.heap.size 0 _ _ _ rfl rfl H5.out.1 Tryz.sizeSetO (by simp) (by simp [Value.oneCell']) ?_)
   intro w9 hrow2 hg9 hz9
   have hrow := hrow2.out
   rw [splice_full (by rfl)] at hrow
   have hb9 := below_grew H5.out.2 hg9 (Nat.le_refl _) (fun q hq => by rw [← Option.some.inj hq]; omega)
   have HF := hide hb9
   have c9 := hrow.cell
   clear hrow hrow2 hg9 hz9
   go_wp2_with fail
   refine bodyPost_ret (v := .tuple #[.agg (setC R).toArray, .bool sm]) (by simp [results, Tryz.results142, go_sem, c9, setC]) rfl ?_
   exact ⟨rfl, HF.out⟩
  have g1 : decide ((k : Int) < 256) = true := decide_eq_true (by omega)
  have hk6 : (k : Int) < 256 := by omega
  have f5 := HH.out.1.frozen k
  have c5 := HH.out.1.bit k hlt
  have hnew : boolsC (fun x => decide (x < k + 1) && R x) = boolsC (fun x => if x = k then R k else decide (x < k) && R x) := boolsC_congr fun x _ => by
   by_cases e : x = k
   ·subst e; simp
   ·rw [if_neg e, show decide (x < k + 1) = decide (x < k) from decide_eq_decide.2 (by omega)]
  have hany : (List.range (k + 1)).any R = ((List.range k).any R || R k) := by rw [List.range_succ, List.any_append]; simp
  have HM := hide (HME.out k hlt wr)
  generalize (List.range k).any R = cur at *
  obtain ⟨rk, hrk⟩ : ∃ b, b = R k := ⟨_, rfl⟩
  rw [← hrk] at hnew hany HM
  have HNW := hide (And.intro hnew hany)
  clear hnew hany hrk
  go_wp2_with fail
  refine HM.out.mono ?_
  rintro e w5 ⟨rfl, hw5⟩
  subst hw5
  have H6 := hide (HH.out.1.setBit k rk)
  have H7 := hide (And.intro (HH.out.2.1.far (p := ⟨w.heap.size + 1, k, none⟩) (by show w.heap.size ≠ w.heap.size + 1; omega) (.bool rk)) (HH.out.2.2.setCell (p := ⟨w.heap.size + 1, k, none⟩) (by show w.heap.size ≤ w.heap.size + 1; omega) (.bool rk)))
  clear HM
  go_upto_region 7 with fail
  clear c5 f5
  generalize (w5.setCell ⟨w.heap.size + 1, k, none⟩ (.bool rk)) = w6 at *
  have c6 := H6.out.bit k hlt
  rw [if_pos rfl] at c6
  cases cur <;> cases rk
  all_goals
   go_wp2_with fail
   go_roundw
   case rel =>
    refine ⟨k + 1, by go_num, by omega, by rw [HNW.out.2]; rfl, ?_, H7.out.1, H7.out.2⟩
    rw [HNW.out.1]
    exact H6.out
   case measure => simp [intOf]; omega

/-- The other case of a letter. -/
def oth5 (b : Nat) : Nat := if up5 b then b + 32 else if low5 b then b - 32 else b
theorem oth5_lt {b : Nat} (h : b < 256) : oth5 b < 256 := by
 unfold oth5 up5 low5 bt5
 by_cases h1 : 65 ≤ b ∧ b ≤ 90
 ·rw [decide_eq_true h1, if_pos rfl]; omega
 ·rw [decide_eq_false h1, if_neg (by simp)]
  by_cases h2 : 97 ≤ b ∧ b ≤ 122
  ·rw [decide_eq_true h2, if_pos rfl]; omega
  ·rw [decide_eq_false h2, if_neg (by simp)]; omega
theorem oth5_oth (b : Nat) : oth5 (oth5 b) = b := by
 unfold oth5 up5 low5 bt5
 simp only [decide_eq_true_eq]
 repeat' split
 all_goals omega
theorem toList_upper : ByteArray.toList ⟨#[117, 112, 112, 101, 114]⟩ = [117, 112, 112, 101, 114] := by first | rfl | kernel_rfl | decide +kernel | simp [ByteArray.toList, ByteArray.toList.loop]
theorem toList_lower : ByteArray.toList ⟨#[108, 111, 119, 101, 114]⟩ = [108, 111, 119, 101, 114] := by first | rfl | kernel_rfl | decide +kernel | simp [ByteArray.toList, ByteArray.toList.loop]
theorem memb_upper (b : Nat) : memb5 ⟨#[117, 112, 112, 101, 114]⟩ b = up5 b := by
 unfold memb5
 rw [toList_upper]
 rfl
theorem memb_lower (b : Nat) : memb5 ⟨#[108, 111, 119, 101, 114]⟩ b = low5 b := by
 unfold memb5
 rw [toList_lower]
 rfl
theorem refOther_any (b : Nat) (hb : b < 256) (w : World) : Calls Tryz.prog 162 #[.int .u8 (b : Int)] w fun e w' => e = .returned (.int .u8 ((oth5 b : Nat) : Int)) ∧ w' = w := by
 have HU := hide (memb_upper b ▸ member_any ⟨#[117, 112, 112, 101, 114]⟩ b hb w)
 have HL := hide (memb_lower b ▸ member_any ⟨#[108, 111, 119, 101, 114]⟩ b hb w)
 have h1 : up5 b = true → 65 ≤ b ∧ b ≤ 90 := fun h => by unfold up5 bt5 at h; exact of_decide_eq_true h
 have h2 : low5 b = true → 97 ≤ b ∧ b ≤ 122 := fun h => by unfold low5 bt5 at h; exact of_decide_eq_true h
 obtain ⟨r, hr⟩ : ∃ r, r = oth5 b := ⟨_, rfl⟩
 rw [← hr]
 unfold oth5 at hr
 have HR := hide hr
 clear hr
 generalize up5 b = u at *
 generalize low5 b = l at *
 go_enter Tryz.func162, Tryz.ntmps162
 cases u with
 | true =>
  have h3 := h1 rfl
  have hw : IntKind.u8.wrap ((b : Int) + 32) = (b : Int) + 32 := by rw [IntKind.wrap_u8']; omega
  clear h1 h2
  go_wp2_with fail
  refine HU.out.mono ?_
  rintro e w5 ⟨rfl, hw5⟩
  subst hw5
  go_wp2_with fail
  go_ret
  exact ⟨by rw [HR.out]; simp, rfl⟩
 | false =>
  cases l with
  | true =>
   have h3 := h2 rfl
   have hw : IntKind.u8.wrap ((b : Int) - 32) = (b : Int) - 32 := by rw [IntKind.wrap_u8']; omega
   clear h1 h2
   have hrr : (r : Int) = (b : Int) - 32 := by rw [HR.out]; simp; omega
   go_wp2_with fail
   refine HU.out.mono ?_
   rintro e w5 ⟨rfl, hw5⟩
   subst hw5
   go_wp2_with fail
   refine HL.out.mono ?_
   rintro e w6 ⟨rfl, hw6⟩
   subst hw6
   go_wp2_with fail
   go_ret
   exact ⟨by rw [hrr]; rfl, rfl⟩
  | false =>
   clear h1 h2
   go_wp2_with fail
   refine HU.out.mono ?_
   rintro e w5 ⟨rfl, hw5⟩
   subst hw5
   go_wp2_with fail
   refine HL.out.mono ?_
   rintro e w6 ⟨rfl, hw6⟩
   subst hw6
   go_wp2_with fail
   go_ret
   exact ⟨by rw [HR.out]; rfl, rfl⟩
/-- With the other case of each letter. -/
def fold5 (S : Nat → Bool) : Nat → Bool := fun x => S x || S (oth5 x)
set_option maxRecDepth 100000 in
set_option maxHeartbeats 4000000 in
theorem refFold_any (S : Nat → Bool) (w : World) : Calls Tryz.prog 144 #[setV S] w (SetIs (fold5 S) w) := by
 obtain ⟨R, hR⟩ : ∃ R : Nat → Bool, R = fold5 S := ⟨_, rfl⟩
 rw [← hR]
 have HR := hide hR
 clear hR
 have hb := ((Below.refl w.heap.size w).alloc (Nat.le_refl _) (.cells (setC S).toArray 24)).alloc (by simp) (.cells #[.int .u64 0, .int .u64 0, .int .u64 0, .int .u64 0] 24)
 have h1 := (Blk.new w 24 (setC S).toArray).alloc (.cells #[.int .u64 0, .int .u64 0, .int .u64 0, .int .u64 0] 24)
 have h3 := Blk.new (w.alloc (.cells (setC S).toArray 24)) 24 #[.int .u64 0, .int .u64 0, .int .u64 0, .int .u64 0]
 rw [World.size_alloc] at h3
 have hsz : w.heap.size + 1 < ((w.alloc (.cells (setC S).toArray 24)).alloc (.cells #[.int .u64 0, .int .u64 0, .int .u64 0, .int .u64 0] 24)).heap.size := by simp
 have H0 := hide (And.intro h1 (And.intro h3 hb))
 clear hb h1 h3
 unfold setV
 go_enter Tryz.func144, Tryz.ntmps144
 go_upto_region 1 with fail
 generalize ((w.alloc (.cells (setC S).toArray 24)).alloc (.cells #[.int .u64 0, .int .u64 0, .int .u64 0, .int .u64 0] 24)) = W at *
 have c0 : ∀ i : Nat, _ = _ := H0.out.1.cell
 simp only [setC] at c0
 have HB := hide (bits_any S W)
 unfold setV setC at HB
 go_wp2_with fail
 refine HB.out.mono ?_
 rintro e w1 ⟨rfl, hb1⟩
 have hal := (Below.refl w1.heap.size w1).alloc (Nat.le_refl _) (.cells (boolsC fun _ => false).toArray 132)
 have hzb := Blk.new w1 132 (boolsC fun _ => false).toArray
 have hw1 := hb1.size
 have H1 := hide (And.intro (H0.out.2.1.below hb1 (by omega)) (H0.out.2.2.trans (hb1.mono (by omega))))
 clear hb1 HB c0 H0
 go_wp2_with (first | refine wpList_alloc_bools rfl rfl ?_ | refine wpList_store_bools rfl _ _ rfl w1.heap.size _ S rfl rfl hzb (by simp [boolsC_len]) ?_)
 intro w2 hrow hg9 hz9
 have hbE : Below w1.heap.size w1 w2 := below_grew hal hg9 (Nat.le_refl _) (fun q hq => by rw [← Option.some.inj hq]; exact Nat.le_refl _)
 have H2 := hide (And.intro hrow (And.intro (H1.out.1.below hbE (by have := H1.out.1.lt; exact this)) (H1.out.2.trans (hbE.mono (by omega)))))
 have hgl := hrow.lt
 clear hrow hg9 hz9 hal hzb hbE H1
 generalize hgb : w1.heap.size = gb at *
 clear hgb w1
 have hal := (Below.refl w2.heap.size w2).alloc (Nat.le_refl _) (.cells (boolsC fun _ => false).toArray 132)
 have hzb := Blk.new w2 132 (boolsC fun _ => false).toArray
 have HB2 := hide (H2.out.1.alloc (.cells (boolsC fun _ => false).toArray 132))
 go_wp2_with (first | refine wpList_alloc_bools rfl rfl ?_ | refine wpList_load_bools rfl _ rfl gb S rfl H2.out.1 ?_ | refine wpList_store_bools rfl _ _ rfl w2.heap.size _ S rfl rfl hzb (by simp [boolsC_len]) ?_)
 intro w3 hrow hg9 hz9
 have hbE : Below w2.heap.size w2 w3 := below_grew hal hg9 (Nat.le_refl _) (fun q hq => by rw [← Option.some.inj hq]; exact Nat.le_refl _)
 have hw2z := H2.out.2.2.size
 have H3 := hide (And.intro hrow (And.intro (H2.out.1.below hbE hgl) (And.intro (H2.out.2.1.below hbE (by have := H2.out.2.1.lt; exact this)) (H2.out.2.2.trans (hbE.mono hw2z)))))
 have hgm := hrow.lt
 clear hrow hg9 hz9 hal hzb hbE H2 HB2
 generalize hgb : w2.heap.size = gm at *
 clear hgb w2
 go_wp2_with fail
 go_loopw [5] (fun kv wr => ∃ k : Nat, kv = .int .i64 (k : Int) ∧ k ≤ 256 ∧ Blk wr gm 132 (boolsC fun x => S x || (decide (oth5 x < k) && S (oth5 x))).toArray ∧ Blk wr gb 132 (boolsC S).toArray ∧ Blk wr (w.heap.size + 1) 24 #[.int .u64 0, .int .u64 0, .int .u64 0, .int .u64 0] ∧ Below w.heap.size w wr) (fun kv _ => 256 - (intOf kv).toNat)
 case atStart => exact ⟨0, rfl, by omega, (boolsC_congr (f := S) (g := fun x => S x || (decide (oth5 x < 0) && S (oth5 x))) (fun x _ => by simp)) ▸ H3.out.1, H3.out.2.1, H3.out.2.2.1, H3.out.2.2.2⟩
 case round =>
  clear H3
  obtain ⟨k, rfl, hk, h1, h2, h3, hb⟩ := hrel
  have HH := hide (And.intro h1 (And.intro h2 (And.intro h3 hb)))
  have hzb := hb.size
  clear h1 h2 h3 hb
  by_cases hlt : k < 256
  case neg =>
   have g1 : decide ((k : Int) < 256) = false := decide_eq_false (by omega)
   obtain rfl : k = 256 := by omega
   have H4 := hide (And.intro (show Blk wr gm 132 (boolsC R).toArray from (boolsC_congr (f := fun x => S x || (decide (oth5 x < 256) && S (oth5 x))) (g := R) (fun x hx => by rw [HR.out]; unfold fold5; rw [decide_eq_true (oth5_lt hx), Bool.true_and])) ▸ HH.out.1) HH.out.2.2)
   clear HH
   have HM := hide (made_any R wr)
   go_wp2_with (refine wpList_load_bools rfl _ rfl gm _ rfl H4.out.1 ?_)
   refine HM.out.mono ?_
   rintro e w5 ⟨rfl, hb5⟩
   have H5 := hide (And.intro (H4.out.2.1.below hb5 (by have := H4.out.2.1.lt; exact this)) (H4.out.2.2.trans (hb5.mono H4.out.2.2.size)))
   clear hb5 H4 HM
   unfold setV
   simp only [setC]
   go_wp2_with (refine wpList_store_row rfl _ _ _ rfl (w.heap.size + 1) 0 _ _ _ rfl rfl H5.out.1 Tryz.sizeSetO (by simp) (by simp [Value.oneCell']) ?_)
   intro w9 hrow2 hg9 hz9
   have hrow := hrow2.out
   rw [splice_full (by rfl)] at hrow
   have hb9 := below_grew H5.out.2 hg9 (Nat.le_refl _) (fun q hq => by rw [← Option.some.inj hq]; omega)
   have HF := hide (And.intro hrow hb9)
   clear hrow hrow2 hg9 hz9
   go_wp2_with fail
   refine bodyPost_ret (results_cell_row rfl _ _ (w.heap.size + 1) _ _ (0, 0) _ rfl HF.out.1 Tryz.underlying24 rfl Tryz.sizeSetO) rfl ?_
   exact ⟨rfl, HF.out.2⟩
  have g1 : decide ((k : Int) < 256) = true := decide_eq_true (by omega)
  have hk6 : (k : Int) < 256 := by omega
  have c5 := HH.out.2.1.bit k hlt
  obtain ⟨sk, hsk⟩ : ∃ b, b = S k := ⟨_, rfl⟩
  rw [← hsk] at c5
  have HSK := hide hsk
  clear hsk
  cases sk with
  | false =>
   have hnew : boolsC (fun x => S x || (decide (oth5 x < k) && S (oth5 x))) = boolsC (fun x => S x || (decide (oth5 x < k + 1) && S (oth5 x))) := boolsC_congr fun x _ => by
    by_cases e : oth5 x = k
    ·rw [e, ← HSK.out]; simp
    ·rw [show decide (oth5 x < k + 1) = decide (oth5 x < k) from decide_eq_decide.2 (by omega)]
   have HNW := hide hnew
   clear hnew
   go_wp2_with fail
   go_roundw
   case rel => exact ⟨k + 1, by go_num, by omega, HNW.out ▸ HH.out.1, HH.out.2.1, HH.out.2.2.1, HH.out.2.2.2⟩
   case measure => simp [intOf]; omega
  | true =>
   have hnew : boolsC (fun x => S x || (decide (oth5 x < k + 1) && S (oth5 x))) = boolsC (fun x => if x = oth5 k then true else S x || (decide (oth5 x < k) && S (oth5 x))) := boolsC_congr fun x _ => by
    by_cases e : x = oth5 k
    ·rw [if_pos e, e, oth5_oth, ← HSK.out]; simp
    ·have e2 : oth5 x ≠ k := fun h => e (by rw [← h, oth5_oth])
     rw [if_neg e, show decide (oth5 x < k + 1) = decide (oth5 x < k) from decide_eq_decide.2 (by omega)]
   have HNW := hide hnew
   have ho := oth5_lt hlt
   have hcv : IntKind.u8.wrap (k : Int) = (k : Int) := by rw [IntKind.wrap_u8']; omega
   have HO := hide (refOther_any k hlt wr)
   clear hnew
   have f5 := HH.out.1.frozen (oth5 k)
   have c6 := HH.out.1.bit (oth5 k) ho
   generalize hok : oth5 k = q at *
   clear hok
   go_wp2_with fail
   refine HO.out.mono ?_
   rintro e w5 ⟨rfl, hw5⟩
   subst hw5
   go_wp2_with fail
   go_roundw
   case rel =>
    refine ⟨k + 1, by go_num, by omega, ?_, HH.out.2.1.far (by show gb ≠ gm; omega) _, HH.out.2.2.1.far (by show w.heap.size + 1 ≠ gm; omega) _, HH.out.2.2.2.setCell (by show w.heap.size ≤ gm; omega) _⟩
    rw [HNW.out]
    exact HH.out.1.setBit q true
   case measure => simp [intOf]; omega
end Go.Proofs.YtfehmfifjidjjaaGreatDoor
