/- RefBreA: trawlref07: two, repeat. (Printed by gen_refbrea.py.)
RefBreB: trawlref07.atom. (Printed by gen_refbreb.py.)
RefBreC: trawlref07.pieces. (Printed by gen_refbrec.py.)
RefBreD: trawlref07.Parse. (Printed by gen_refbred.py.) -/
import Derived.Test.YtpkcklpjbeginaaGreatDoorRefEreA
import Derived.Test.YtpkcklpjbeginaaGreatDoorBreE
import Derived.Test.YtpkcklpjbeginaaGreatDoorRefEreF
set_option linter.unusedSimpArgs false
set_option linter.unusedVariables false
set_option linter.unnecessarySimpa false

/-! ## RefBreA -/
namespace Go.Proofs.YtpkcklpjbeginaaGreatDoor
open Go.RowKit

set_option maxRecDepth 100000 in
set_option maxHeartbeats 1000000 in
/-- Do these two bytes stand at a place? -/
theorem two_any (p : ByteArray) (hp : p.size ≤ 1024) (i : Nat) (hip : i ≤ p.size) (a b : Nat) (ha : a < 256) (hb : b < 256) (za : Int) (hza : za = (a : Int)) (zb : Int) (hzb : zb = (b : Int)) (r : Bool) (hr : decide (pb p i = a ∧ pb p (i + 1) = b) = r) (w : World) :
  Calls Tryz.prog 72 #[.string p, .int .i64 (i : Int), .int .u8 za, .int .u8 zb] w fun e w' => e = .returned (.bool r) ∧ w' = w := by
 subst hza hzb hr
 by_cases hi : i + 1 < p.size
 ·have hi0 : i < p.size := by omega
  have g1 : decide ((i : Int) + 1 < (p.size : Int)) = true := decide_eq_true (by omega)
  obtain ⟨n, hn⟩ : ∃ n, n = i + 1 := ⟨_, rfl⟩
  have i1 : (i : Int) + 1 = (n : Int) := by omega
  have i2 : (0 : Int) ≤ (n : Int) := by omega
  have i3 : (n : Int) < (p.size : Int) := by omega
  have i4 : n < p.size := by omega
  rw [← hn, pb_at hi0, pb_at i4]
  have HN := hide hn
  clear hn hi hip
  have g2 : decide ((n : Int) < (p.size : Int)) = true := decide_eq_true i3
  have g2n : decide (n < p.size) = true := decide_eq_true i4
  by_cases h1 : (p[i]'hi0).toNat = a
  ·have e1 : (((p[i]'hi0).toNat : Int) == (a : Int)) = true := by rw [beq_iff_eq]; omega
   by_cases h2 : (p[n]'i4).toNat = b
   ·have e2 : (((p[n]'i4).toNat : Int) == (b : Int)) = true := by rw [beq_iff_eq]; omega
    rw [decide_eq_true (And.intro h1 h2)]
    clear h1 h2
    go_enter Tryz.func72, Tryz.ntmps72
    go_wp2_with fail
    go_ret
    exact ⟨rfl, rfl⟩
   ·have e2 : (((p[n]'i4).toNat : Int) == (b : Int)) = false := by rw [beq_eq_false_iff_ne]; omega
    rw [decide_eq_false (fun h => h2 h.2)]
    clear h1 h2
    go_enter Tryz.func72, Tryz.ntmps72
    go_wp2_with fail
    go_ret
    exact ⟨rfl, rfl⟩
  ·have e1 : (((p[i]'hi0).toNat : Int) == (a : Int)) = false := by rw [beq_eq_false_iff_ne]; omega
   rw [decide_eq_false (fun h => h1 h.1)]
   clear h1
   go_enter Tryz.func72, Tryz.ntmps72
   go_wp2_with fail
   go_ret
   exact ⟨rfl, rfl⟩
 ·obtain ⟨n, hn⟩ : ∃ n, n = i + 1 := ⟨_, rfl⟩
  have i1 : (i : Int) + 1 = (n : Int) := by omega
  have i2 : (0 : Int) ≤ (n : Int) := by omega
  have i3 : (n : Int) ≤ 1025 := by omega
  have g1 : decide ((n : Int) < (p.size : Int)) = false := decide_eq_false (by omega)
  have g1n : decide (n < p.size) = false := decide_eq_false (by omega)
  rw [pb_none hi, decide_eq_false (by omega)]
  clear hi hn hip
  go_enter Tryz.func72, Tryz.ntmps72
  go_wp2_with fail
  go_ret
  exact ⟨rfl, rfl⟩
set_option maxRecDepth 100000 in
set_option maxHeartbeats 4000000 in
theorem refRepB_any {y : World} {gr B0 : Nat} {p : ByteArray} {i : Nat} {fl : Int} {g : Nat} {ov : Value} {d : Nat} {q : Nat → Prop} (h : RdS y gr B0 p (i : Int) fl (g : Int) ov d 0 0) (hp : p.size ≤ 1024) (hi : i ≤ p.size) (hB0 : B0 ≤ y.heap.size) (hq : ∀ b, y.heap.size ≤ b → q b) (hgq : ¬ q gr) (t : T) (B : Option Addr) (c : Nat) (hnd : t.nodes ≤ 100000) (hin : T.In y (fun b => q b ∧ b < y.heap.size ∧ ov.ownBlock ≠ some b) t B) :
  Calls Tryz.prog 76 #[.pointer (some ⟨gr, 0, none⟩), .agg (t.hd.cells (.slice B t.subs.length c)).toArray] y (SPost B0 gr p fl d q ov y (withRep (repB p i) t i g)) := by
 have hal1 := (Below.refl y.heap.size y).alloc (Nat.le_refl _) (.cells #[.int .i64 t.hd.kind, .int .u64 t.hd.s0, .int .u64 t.hd.s1, .int .u64 t.hd.s2, .int .u64 t.hd.s3, .slice B t.subs.length c, .int .i64 t.hd.num, .int .i64 t.hd.min, .int .i64 t.hd.max, .bool t.hd.bare] 27)
 have hsz1 : (y.alloc (.cells #[.int .i64 t.hd.kind, .int .u64 t.hd.s0, .int .u64 t.hd.s1, .int .u64 t.hd.s2, .int .u64 t.hd.s3, .slice B t.subs.length c, .int .i64 t.hd.num, .int .i64 t.hd.min, .int .i64 t.hd.max, .bool t.hd.bare] 27)).heap.size = y.heap.size + 1 := World.size_alloc _ _
 have hal := hal1.alloc hal1.size (.cells #[.int .i64 0, .int .u64 0, .int .u64 0, .int .u64 0, .int .u64 0, .slice none 0 0, .int .i64 0, .int .i64 0, .int .i64 0, .bool false] 27)
 have hR := Blk.new (y.alloc (.cells #[.int .i64 t.hd.kind, .int .u64 t.hd.s0, .int .u64 t.hd.s1, .int .u64 t.hd.s2, .int .u64 t.hd.s3, .slice B t.subs.length c, .int .i64 t.hd.num, .int .i64 t.hd.min, .int .i64 t.hd.max, .bool t.hd.bare] 27)) 27 #[.int .i64 0, .int .u64 0, .int .u64 0, .int .u64 0, .int .u64 0, .slice none 0 0, .int .i64 0, .int .i64 0, .int .i64 0, .bool false]
 have hT := (Blk.new y 27 #[.int .i64 t.hd.kind, .int .u64 t.hd.s0, .int .u64 t.hd.s1, .int .u64 t.hd.s2, .int .u64 t.hd.s3, .slice B t.subs.length c, .int .i64 t.hd.num, .int .i64 t.hd.min, .int .i64 t.hd.max, .bool t.hd.bare]).alloc (.cells #[.int .i64 0, .int .u64 0, .int .u64 0, .int .u64 0, .int .u64 0, .slice none 0 0, .int .i64 0, .int .i64 0, .int .i64 0, .bool false] 27)
 rw [hsz1] at hR
 have H0 := hide (And.intro (h.next hal) (And.intro (RdF.of_below (gr := gr) (x := ov.ownBlock) hB0 hal) (And.intro hR hT)))
 have HIN := hide (hin.same (ok' := fun b => (q b ∧ b ≠ y.heap.size + 1) ∧ b < ((y.alloc (.cells #[.int .i64 t.hd.kind, .int .u64 t.hd.s0, .int .u64 t.hd.s1, .int .u64 t.hd.s2, .int .u64 t.hd.s3, .slice B t.subs.length c, .int .i64 t.hd.num, .int .i64 t.hd.min, .int .i64 t.hd.max, .bool t.hd.bare] 27)).alloc (.cells #[.int .i64 0, .int .u64 0, .int .u64 0, .int .u64 0, .int .u64 0, .slice none 0 0, .int .i64 0, .int .i64 0, .int .i64 0, .bool false] 27)).heap.size ∧ ov.ownBlock ≠ some b) ((same_of_below hal).mono fun b hb => hb.2.1) fun b hb => ⟨⟨hb.1, by have := hb.2.1; omega⟩, Nat.lt_of_lt_of_le hb.2.1 hal.size, hb.2.2⟩)
 have HQ := hide (And.intro hq hgq)
 have HB := hide hB0
 have HZW := hide (show ((y.alloc (.cells #[.int .i64 t.hd.kind, .int .u64 t.hd.s0, .int .u64 t.hd.s1, .int .u64 t.hd.s2, .int .u64 t.hd.s3, .slice B t.subs.length c, .int .i64 t.hd.num, .int .i64 t.hd.min, .int .i64 t.hd.max, .bool t.hd.bare] 27)).alloc (.cells #[.int .i64 0, .int .u64 0, .int .u64 0, .int .u64 0, .int .u64 0, .slice none 0 0, .int .i64 0, .int .i64 0, .int .i64 0, .bool false] 27)).heap.size = y.heap.size + 2 from by rw [World.size_alloc, hsz1])
 have HBW := hide (show B0 ≤ ((y.alloc (.cells #[.int .i64 t.hd.kind, .int .u64 t.hd.s0, .int .u64 t.hd.s1, .int .u64 t.hd.s2, .int .u64 t.hd.s3, .slice B t.subs.length c, .int .i64 t.hd.num, .int .i64 t.hd.min, .int .i64 t.hd.max, .bool t.hd.bare] 27)).alloc (.cells #[.int .i64 0, .int .u64 0, .int .u64 0, .int .u64 0, .int .u64 0, .slice none 0 0, .int .i64 0, .int .i64 0, .int .i64 0, .bool false] 27)).heap.size from by have h1 := HZW.out; omega)
 clear hal1 hsz1 hal hR hT h hB0 hin hq hgq
 obtain ⟨res, hres⟩ : ∃ res : PR, res = withRep (repB p i) t i g := ⟨_, rfl⟩
 rw [← hres]
 have HRS := hide hres
 clear hres
 have HE1 := hide (show (i : Int) + 1 = ((i + 1 : Nat) : Int) from rfl)
 simp only [Hd.cells]
 go_enter Tryz.func76, Tryz.ntmps76
 go_upto_region 1 with fail
 generalize ((y.alloc (.cells #[.int .i64 t.hd.kind, .int .u64 t.hd.s0, .int .u64 t.hd.s1, .int .u64 t.hd.s2, .int .u64 t.hd.s3, .slice B t.subs.length c, .int .i64 t.hd.num, .int .i64 t.hd.min, .int .i64 t.hd.max, .bool t.hd.bare] 27)).alloc (.cells #[.int .i64 0, .int .u64 0, .int .u64 0, .int .u64 0, .int .u64 0, .slice none 0 0, .int .i64 0, .int .i64 0, .int .i64 0, .bool false] 27)) = W at *
 have c0 := H0.out.1.box.cell
 have f0 := H0.out.1.box.frozen
 go_wp2_with fail
 by_cases h42 : pb p i = 42
 ·have HE := hide (show repB p i = .yes 0 (-1) (i + 1) from by unfold repB; rw [if_pos h42])
  refine (refIsZ_any H0.out.1 i 42 (by decide) hp 42 rfl true (decide_eq_true h42)).mono ?_
  intro e w1 h1
  rw [h1.1, h1.2]
  clear h1 w1
  go_upto_region 4 with fail
  rw [HE1.out]
  have H3 := hide (And.intro (show RdS (W.setCell ⟨gr, 1, none⟩ (.int .i64 ((i + 1 : Nat) : Int))) gr B0 p ((i + 1 : Nat) : Int) fl (g : Int) ov d 0 0 from H0.out.1.set 1 _) (And.intro (H0.out.2.1.set H0.out.1.base 1 (.int .i64 ((i + 1 : Nat) : Int))) (And.intro (H0.out.2.2.1.far (blk_ne6 H0.out.2.2.1 H0.out.1.box (by decide)) (p := ⟨gr, 1, none⟩) (.int .i64 ((i + 1 : Nat) : Int))) (H0.out.2.2.2.far (blk_ne6 H0.out.2.2.2 H0.out.1.box (by decide)) (p := ⟨gr, 1, none⟩) (.int .i64 ((i + 1 : Nat) : Int))))))
  have HIN3 := hide (HIN.out.same (ok' := fun b => (q b ∧ b ≠ y.heap.size + 1) ∧ b < (W.setCell ⟨gr, 1, none⟩ (.int .i64 ((i + 1 : Nat) : Int))).heap.size ∧ ov.ownBlock ≠ some b) ((Same.refl _ _).set (p := ⟨gr, 1, none⟩) (fun e => HQ.out.2 e.1.1) (.int .i64 ((i + 1 : Nat) : Int))) fun b hb => ⟨hb.1, by rw [World.size_setCell]; exact hb.2.1, hb.2.2⟩)
  have HS3 := hide (show (W.setCell ⟨gr, 1, none⟩ (.int .i64 ((i + 1 : Nat) : Int))).heap.size = y.heap.size + 2 from by rw [World.size_setCell]; exact HZW.out)
  have HB3 := hide (show B0 ≤ (W.setCell ⟨gr, 1, none⟩ (.int .i64 ((i + 1 : Nat) : Int))).heap.size from by have h1 := HS3.out; have h2 := HB.out; omega)
  generalize (W.setCell ⟨gr, 1, none⟩ (.int .i64 ((i + 1 : Nat) : Int))) = W3 at *
  clear c0 f0
  go_wp2_with (refine wpList_load_node rfl _ rfl y.heap.size t.hd (.slice B t.subs.length c) rfl (show Blk _ y.heap.size 27 (t.hd.cells (.slice B t.subs.length c)).toArray from H3.out.2.2.2) ?_)
  refine (refCounted_any (q := fun b => q b ∧ b ≠ y.heap.size + 1) (show RdS W3 gr B0 p (((i + 1) : Nat) : Int) fl (g : Int) ov d 0 0 from H3.out.1) HB3.out (fun b hb => ⟨HQ.out.1 b (by have := HS3.out; omega), by have := HS3.out; omega⟩) (fun e => HQ.out.2 e.1) t B c hnd HIN3.out ((0 : Nat) : Int) (-1) i).mono ?_
  intro e w4 hpost
  by_cases hbig : 2000 < (repT ((0 : Nat) : Int) (-1) t).fullSize
  ·rw [if_pos hbig] at hpost
   obtain ⟨t', B', cc, ov', I', g', rfl, hT, hE, hF⟩ := hpost
   have HP4 := hide (And.intro hE (And.intro (H3.out.2.1.trans hF) (And.intro (hF.blk_ H3.out.2.2.1 (blk_ne6 H3.out.2.2.1 H3.out.1.box (by decide)) (H3.out.1.apart H3.out.2.2.1 (by decide))) hT)))
   have HE2 := hide (show res = .bad 9 i from by rw [HRS.out, HE.out]; exact if_pos hbig)
   clear hE hF hT hbig
   go_wp2_with (refine wpList_store_node rfl _ _ rfl (y.heap.size + 1) _ _ _ _ _ rfl rfl HP4.out.2.2.1 rfl ?_; intro w9 hrow_w9 hg_w9 hz_w9)
   refine bodyPost_ret (node_result rfl _ _ (y.heap.size + 1) _ _ rfl hrow_w9) rfl ?_
   exact sbad (t := t') HE2.out HP4.out.1 HP4.out.2.1 (HP4.out.2.2.2.same (Same.refl _ _) fun b hb => ⟨hb.1.1, hb.2.1, hb.2.2, hb.1.2⟩) hg_w9 HP4.out.2.2.1 (by omega) HB.out
  ·rw [if_neg hbig] at hpost
   obtain ⟨B', cc, ov', rfl, hT, hE, hF⟩ := hpost
   have HP4 := hide (And.intro hE (And.intro (H3.out.2.1.trans hF) (And.intro (hF.blk_ H3.out.2.2.1 (blk_ne6 H3.out.2.2.1 H3.out.1.box (by decide)) (H3.out.1.apart H3.out.2.2.1 (by decide))) hT)))
   have HE2 := hide (show res = .ok (repT ((0 : Nat) : Int) (-1) t) (i + 1) g from by rw [HRS.out, HE.out]; exact if_neg hbig)
   clear hE hF hT hbig
   generalize repT ((0 : Nat) : Int) (-1) t = t' at *
   go_wp2_with (refine wpList_store_node rfl _ _ rfl (y.heap.size + 1) _ _ _ _ _ rfl rfl HP4.out.2.2.1 rfl ?_; intro w9 hrow_w9 hg_w9 hz_w9)
   refine bodyPost_ret (node_result rfl _ _ (y.heap.size + 1) _ _ rfl hrow_w9) rfl ?_
   exact sok (t := t') HE2.out HP4.out.1 HP4.out.2.1 (HP4.out.2.2.2.same (Same.refl _ _) fun b hb => ⟨hb.1.1, hb.2.1, hb.2.2, hb.1.2⟩) hg_w9 HP4.out.2.2.1 (by omega) HB.out
 refine (refIsZ_any H0.out.1 i 42 (by decide) hp 42 rfl false (decide_eq_false h42)).mono ?_
 intro e w1 h1
 rw [h1.1, h1.2]
 clear h1 w1
 go_wp2_with fail
 by_cases h2 : pb p i = 92 ∧ pb p (i + 1) = 123
 case neg =>
  have HE := hide (show res = .ok t i g from by rw [HRS.out]; unfold repB; rw [if_neg h42, if_neg h2]; rfl)
  refine (two_any p hp i hi 92 123 (by decide) (by decide) _ rfl _ rfl false (decide_eq_false h2) W).mono ?_
  intro e w1 h1
  rw [h1.1, h1.2]
  clear h1 w1
  clear c0 f0
  go_wp2_with (first | (refine wpList_load_node rfl _ rfl y.heap.size t.hd (.slice B t.subs.length c) rfl (show Blk _ y.heap.size 27 (t.hd.cells (.slice B t.subs.length c)).toArray from H0.out.2.2.2) ?_) | (refine wpList_store_node rfl _ _ rfl (y.heap.size + 1) _ _ _ _ _ rfl rfl H0.out.2.2.1 rfl ?_; intro w9 hrow_w9 hg_w9 hz_w9))
  refine bodyPost_ret (node_result rfl _ _ (y.heap.size + 1) _ _ rfl hrow_w9) rfl ?_
  exact sok (t := t) HE.out H0.out.1 H0.out.2.1 (HIN.out.same (Same.refl _ _) fun b hb => ⟨hb.1.1, hb.2.1, hb.2.2, hb.1.2⟩) hg_w9 H0.out.2.2.1 (by omega) HB.out
 case pos =>
 have hr0 : repB p i = if find2 p 92 125 (i + 2) = p.size then .bad 2 else match countsP (p.extract (i + 2) (find2 p 92 125 (i + 2))) with
   | none => .bad 3
   | some (a, b) => .yes a b (find2 p 92 125 (i + 2) + 2) := by unfold repB; rw [if_neg h42, if_pos h2]; rfl
 have HRE := hide hr0
 clear hr0
 have hi2 : i + 2 ≤ p.size := by have := pb_ins h2.2 (by decide); omega
 have HF := hide (find2_spec p 92 125 (i + 2) hi2)
 refine (two_any p hp i hi 92 123 (by decide) (by decide) _ rfl _ rfl true (decide_eq_true h2) W).mono ?_
 intro e w1 h1
 rw [h1.1, h1.2]
 clear h1 w1
 clear h42 h2
 have HI2 := hide (show (i : Int) + 2 = ((i + 2 : Nat) : Int) from rfl)
 go_wp2_with fail
 go_loopw [6] (fun ev wr => ∃ k : Nat, ev = .int .i64 (k : Int) ∧ i + 2 ≤ k ∧ k ≤ find2 p 92 125 (i + 2) ∧ wr = W) (fun ev _ => p.size - (intOf ev).toNat)
 case atStart => exact ⟨i + 2, rfl, Nat.le_refl _, HF.out.1, rfl⟩
 case round =>
  obtain ⟨k, rfl, hik, hkF, hwr⟩ := hrel
  rw [hwr]
  clear hwr
  have HRG := hide (And.intro hik hkF)
  by_cases hlt : k < find2 p 92 125 (i + 2)
  ·have hks : k < p.size := Nat.lt_of_lt_of_le hlt HF.out.2.1
   have HT2 := hide (two_any p hp k (by have h1 := HF.out.2.1; omega) 92 125 (by decide) (by decide) _ rfl _ rfl false (decide_eq_false (HF.out.2.2.2 k hik hlt)) W)
   have g1 : decide ((k : Int) < (p.size : Int)) = true := decide_eq_true (by omega)
   have g1n : decide (k < p.size) = true := decide_eq_true (by omega)
   have HLT := hide hlt
   clear hik hkF hlt
   go_wp2_with fail
   refine HT2.out.mono ?_
   rintro e w2 ⟨rfl, hw2⟩
   rw [hw2]
   clear hw2 w2
   go_wp2_with fail
   go_roundw
   case rel => exact ⟨k + 1, by first | rfl | go_num, by have := HRG.out.1; omega, HLT.out, by first | rfl | trivial⟩
   case measure => first | (simp [intOf]; done) | (simp [intOf]; omega)
  have HKE := hide (show k = find2 p 92 125 (i + 2) from by omega)
  by_cases hke : k = p.size
  ·have g1 : decide ((k : Int) < (p.size : Int)) = false := decide_eq_false (by omega)
   have g1n : decide (k < p.size) = false := decide_eq_false (by omega)
   have g3 : decide ((p.size : Int) ≤ (k : Int)) = true := decide_eq_true (by omega)
   have g3n : decide (p.size ≤ k) = true := decide_eq_true (by omega)
   have HE := hide (show res = .bad 2 i from by rw [HRS.out, HRE.out, if_pos (by rw [← HKE.out]; exact hke)]; rfl)
   have HFt := hide (refFault_any (show RdS W gr B0 p (i : Int) fl (g : Int) ov d 0 0 from H0.out.1) HBW.out 3 (i : Int))
   clear hik hkF hlt hke
   go_wp2_with fail
   refine HFt.out.mono ?_
   rintro e w4 ⟨rfl, hE, hF⟩
   have hgr0 := H0.out.1.box.lt
   have H4 := hide (And.intro hE (And.intro (H0.out.2.1.trans hF) (And.intro (hF.blk_ H0.out.2.2.1 (blk_ne6 H0.out.2.2.1 H0.out.1.box (by decide)) (H0.out.1.apart H0.out.2.2.1 (by decide))) (hF.blk_ H0.out.2.2.2 (blk_ne6 H0.out.2.2.2 H0.out.1.box (by decide)) (H0.out.1.apart H0.out.2.2.2 (by decide))))))
   have HIN4 := hide (HIN.out.same (ok' := fun b => q b ∧ b < w4.heap.size ∧ ov.ownBlock ≠ some b ∧ b ≠ y.heap.size + 1) (hF.same.mono fun b hb => ⟨hb.2.1, fun e => HQ.out.2 (e ▸ hb.1.1), hb.2.2⟩) fun b hb => ⟨hb.1.1, Nat.lt_of_lt_of_le hb.2.1 hF.below.size, hb.2.2, hb.1.2⟩)
   clear hE hF HFt hgr0 c0 f0
   go_wp2_with (first | (refine wpList_load_node rfl _ rfl y.heap.size t.hd (.slice B t.subs.length c) rfl (show Blk _ y.heap.size 27 (t.hd.cells (.slice B t.subs.length c)).toArray from H4.out.2.2.2) ?_) | (refine wpList_store_node rfl _ _ rfl (y.heap.size + 1) _ _ _ _ _ rfl rfl H4.out.2.2.1 rfl ?_; intro w9 hrow_w9 hg_w9 hz_w9))
   refine bodyPost_ret (node_result rfl _ _ (y.heap.size + 1) _ _ rfl hrow_w9) rfl ?_
   exact sbad (t := t) HE.out H4.out.1 H4.out.2.1 HIN4.out hg_w9 H4.out.2.2.1 (by omega) HB.out
  have hkl : k < p.size := by have h1 := HF.out.2.1; have h2 := HKE.out; omega
  have HT2 := hide (two_any p hp k (by have h1 := HF.out.2.1; omega) 92 125 (by decide) (by decide) _ rfl _ rfl true (decide_eq_true (by have h5 := HF.out.2.2.1 (by rw [← HKE.out]; exact hkl); rw [← HKE.out] at h5; exact h5)) W)
  have g1 : decide ((k : Int) < (p.size : Int)) = true := decide_eq_true (by omega)
  have g1n : decide (k < p.size) = true := decide_eq_true (by omega)
  have g3 : decide ((p.size : Int) ≤ (k : Int)) = false := decide_eq_false (by omega)
  have g3n : decide (p.size ≤ k) = false := decide_eq_false (by omega)
  have i4 : (k : Int) ≤ (p.size : Int) := by omega
  obtain ⟨A, hA⟩ : ∃ A, A = p.extract (i + 2) k := ⟨_, rfl⟩
  have hAs : A.size ≤ 1024 := by rw [hA, ByteArray.size_extract]; omega
  have HA := hide hA
  have HCt := hide (fun y => refCounts_any A hAs y)
  have HRE2 := hide (show repB p i = match countsP A with
   | none => .bad 3
   | some (a, b) => .yes a b (k + 2) from by rw [HRE.out, if_neg (by rw [← HKE.out]; omega), ← HKE.out, ← hA])
  have HE2 := hide (show (k : Int) + 2 = ((k + 2 : Nat) : Int) from rfl)
  obtain ⟨i1, hi1⟩ : ∃ i1, i1 = i + 2 := ⟨_, rfl⟩
  have i5 : (i : Int) + 2 = (i1 : Int) := by omega
  have hA2 : p.extract i1 k = A := by rw [hA, hi1]
  have i6 : (i1 : Int) ≤ (k : Int) := by omega
  have HI1 := hide hi1
  clear hik hkF hlt hke hAs hA hi1 HE1
  go_wp2_with fail
  refine HT2.out.mono ?_
  rintro e w2 ⟨rfl, hw2⟩
  rw [hw2]
  clear hw2 w2 HT2
  go_wp2_with fail
  refine (HCt.out _).mono ?_
  rintro e w3 ⟨u, v, rfl, huv, hb3⟩
  have H3 := hide (And.intro (H0.out.1.next hb3) (And.intro (H0.out.2.1.next HBW.out hb3) (And.intro (H0.out.2.2.1.next hb3) (H0.out.2.2.2.next hb3))))
  have HB3 := hide (Nat.le_trans HBW.out hb3.size)
  have HIN3 := hide (HIN.out.same (ok' := fun b => (q b ∧ b ≠ y.heap.size + 1) ∧ b < w3.heap.size ∧ ov.ownBlock ≠ some b) ((same_of_below hb3).mono fun b hb => hb.2.1) fun b hb => ⟨hb.1, Nat.lt_of_lt_of_le hb.2.1 hb3.size, hb.2.2⟩)
  have HS3 := hide (show y.heap.size + 2 ≤ w3.heap.size from by have h1 := HZW.out; have h2 := hb3.size; omega)
  have HUV := hide huv
  clear hb3 huv c0 f0 HCt H0 HIN g1 g3 i4 i5 i6 hA2
  have c0 := H3.out.1.box.cell
  have f0 := H3.out.1.box.frozen
  cases hcr : countsP A with
  | none =>
   have HE := hide (show res = .bad 3 i from by rw [HRS.out, HRE2.out, hcr]; rfl)
   clear hcr HUV HRE2
   simp only [Option.isSome_none]
   have HFt := hide (refFault_any (show RdS w3 gr B0 p (i : Int) fl (g : Int) ov d 0 0 from H3.out.1) HB3.out 4 (i : Int))
   go_wp2_with fail
   refine HFt.out.mono ?_
   rintro e w4 ⟨rfl, hE, hF⟩
   have hgr0 := H3.out.1.box.lt
   have H4 := hide (And.intro hE (And.intro (H3.out.2.1.trans hF) (And.intro (hF.blk_ H3.out.2.2.1 (blk_ne6 H3.out.2.2.1 H3.out.1.box (by decide)) (H3.out.1.apart H3.out.2.2.1 (by decide))) (hF.blk_ H3.out.2.2.2 (blk_ne6 H3.out.2.2.2 H3.out.1.box (by decide)) (H3.out.1.apart H3.out.2.2.2 (by decide))))))
   have HIN4 := hide (HIN3.out.same (ok' := fun b => q b ∧ b < w4.heap.size ∧ ov.ownBlock ≠ some b ∧ b ≠ y.heap.size + 1) (hF.same.mono fun b hb => ⟨hb.2.1, fun e => HQ.out.2 (e ▸ hb.1.1), hb.2.2⟩) fun b hb => ⟨hb.1.1, Nat.lt_of_lt_of_le hb.2.1 hF.below.size, hb.2.2, hb.1.2⟩)
   clear hE hF HFt hgr0 c0 f0
   go_wp2_with (first | (refine wpList_load_node rfl _ rfl y.heap.size t.hd (.slice B t.subs.length c) rfl (show Blk _ y.heap.size 27 (t.hd.cells (.slice B t.subs.length c)).toArray from H4.out.2.2.2) ?_) | (refine wpList_store_node rfl _ _ rfl (y.heap.size + 1) _ _ _ _ _ rfl rfl H4.out.2.2.1 rfl ?_; intro w9 hrow_w9 hg_w9 hz_w9))
   refine bodyPost_ret (node_result rfl _ _ (y.heap.size + 1) _ _ rfl hrow_w9) rfl ?_
   exact sbad (t := t) HE.out H4.out.1 H4.out.2.1 HIN4.out hg_w9 H4.out.2.2.1 (by omega) HB.out
  | some ab =>
   obtain ⟨a, b⟩ := ab
   have HE := hide (show repB p i = .yes a b (k + 2) from by rw [HRE2.out, hcr])
   obtain ⟨hu, hv⟩ := HUV.out a b hcr
   subst hu hv
   clear hcr HUV HRE2
   simp only [Option.isSome_some]
   go_upto_region 18 with fail
   rw [HE2.out]
   have H5 := hide (And.intro (show RdS (w3.setCell ⟨gr, 1, none⟩ (.int .i64 ((k + 2 : Nat) : Int))) gr B0 p ((k + 2 : Nat) : Int) fl (g : Int) ov d 0 0 from H3.out.1.set 1 _) (And.intro (H3.out.2.1.set H3.out.1.base 1 (.int .i64 ((k + 2 : Nat) : Int))) (And.intro (H3.out.2.2.1.far (blk_ne6 H3.out.2.2.1 H3.out.1.box (by decide)) (p := ⟨gr, 1, none⟩) (.int .i64 ((k + 2 : Nat) : Int))) (H3.out.2.2.2.far (blk_ne6 H3.out.2.2.2 H3.out.1.box (by decide)) (p := ⟨gr, 1, none⟩) (.int .i64 ((k + 2 : Nat) : Int))))))
   have HIN5 := hide (HIN3.out.same (ok' := fun b => (q b ∧ b ≠ y.heap.size + 1) ∧ b < (w3.setCell ⟨gr, 1, none⟩ (.int .i64 ((k + 2 : Nat) : Int))).heap.size ∧ ov.ownBlock ≠ some b) ((Same.refl _ _).set (p := ⟨gr, 1, none⟩) (fun e => HQ.out.2 e.1.1) (.int .i64 ((k + 2 : Nat) : Int))) fun b hb => ⟨hb.1, by rw [World.size_setCell]; exact hb.2.1, hb.2.2⟩)
   have HS5 := hide (show y.heap.size + 2 ≤ (w3.setCell ⟨gr, 1, none⟩ (.int .i64 ((k + 2 : Nat) : Int))).heap.size from by rw [World.size_setCell]; exact HS3.out)
   have HB5 := hide (show B0 ≤ (w3.setCell ⟨gr, 1, none⟩ (.int .i64 ((k + 2 : Nat) : Int))).heap.size from by have h1 := HS5.out; have h2 := HB.out; omega)
   generalize (w3.setCell ⟨gr, 1, none⟩ (.int .i64 ((k + 2 : Nat) : Int))) = W5 at *
   clear c0 f0
   go_wp2_with (refine wpList_load_node rfl _ rfl y.heap.size t.hd (.slice B t.subs.length c) rfl (show Blk _ y.heap.size 27 (t.hd.cells (.slice B t.subs.length c)).toArray from H5.out.2.2.2) ?_)
   refine (refCounted_any (q := fun b => q b ∧ b ≠ y.heap.size + 1) (show RdS W5 gr B0 p (((k + 2) : Nat) : Int) fl (g : Int) ov d 0 0 from H5.out.1) HB5.out (fun b hb => ⟨HQ.out.1 b (by have := HS5.out; omega), by have := HS5.out; omega⟩) (fun e => HQ.out.2 e.1) t B c hnd HIN5.out (a : Int) v i).mono ?_
   intro e w4 hpost
   by_cases hbig : 2000 < (repT (a : Int) v t).fullSize
   ·rw [if_pos hbig] at hpost
    obtain ⟨t', B', cc, ov', I', g', rfl, hT, hE, hF⟩ := hpost
    have HP4 := hide (And.intro hE (And.intro (H5.out.2.1.trans hF) (And.intro (hF.blk_ H5.out.2.2.1 (blk_ne6 H5.out.2.2.1 H5.out.1.box (by decide)) (H5.out.1.apart H5.out.2.2.1 (by decide))) hT)))
    have HE2 := hide (show res = .bad 9 i from by rw [HRS.out, HE.out]; exact if_pos hbig)
    clear hE hF hT hbig
    go_wp2_with (refine wpList_store_node rfl _ _ rfl (y.heap.size + 1) _ _ _ _ _ rfl rfl HP4.out.2.2.1 rfl ?_; intro w9 hrow_w9 hg_w9 hz_w9)
    refine bodyPost_ret (node_result rfl _ _ (y.heap.size + 1) _ _ rfl hrow_w9) rfl ?_
    exact sbad (t := t') HE2.out HP4.out.1 HP4.out.2.1 (HP4.out.2.2.2.same (Same.refl _ _) fun b hb => ⟨hb.1.1, hb.2.1, hb.2.2, hb.1.2⟩) hg_w9 HP4.out.2.2.1 (by omega) HB.out
   ·rw [if_neg hbig] at hpost
    obtain ⟨B', cc, ov', rfl, hT, hE, hF⟩ := hpost
    have HP4 := hide (And.intro hE (And.intro (H5.out.2.1.trans hF) (And.intro (hF.blk_ H5.out.2.2.1 (blk_ne6 H5.out.2.2.1 H5.out.1.box (by decide)) (H5.out.1.apart H5.out.2.2.1 (by decide))) hT)))
    have HE2 := hide (show res = .ok (repT (a : Int) v t) (k + 2) g from by rw [HRS.out, HE.out]; exact if_neg hbig)
    clear hE hF hT hbig
    generalize repT (a : Int) v t = t' at *
    go_wp2_with (refine wpList_store_node rfl _ _ rfl (y.heap.size + 1) _ _ _ _ _ rfl rfl HP4.out.2.2.1 rfl ?_; intro w9 hrow_w9 hg_w9 hz_w9)
    refine bodyPost_ret (node_result rfl _ _ (y.heap.size + 1) _ _ rfl hrow_w9) rfl ?_
    exact sok (t := t') HE2.out HP4.out.1 HP4.out.2.1 (HP4.out.2.2.2.same (Same.refl _ _) fun b hb => ⟨hb.1.1, hb.2.1, hb.2.2, hb.1.2⟩) hg_w9 HP4.out.2.2.1 (by omega) HB.out
end Go.Proofs.YtpkcklpjbeginaaGreatDoor

/-! ## RefBreB -/
namespace Go.Proofs.YtpkcklpjbeginaaGreatDoor
open Go.RowKit

/-- The contract of the document's pieces. -/
def PieR (B0 gr : Nat) (p : ByteArray) (fl : Int) (dp : Nat) (f : Nat → Nat → PR) : Prop :=
 ∀ (y : World) (ov : Value) (i g : Nat), RdS y gr B0 p (i : Int) fl (g : Int) ov 0 0 0 → i ≤ p.size → g ≤ i → B0 ≤ y.heap.size → Calls Tryz.prog 46 #[.pointer (some ⟨gr, 0, none⟩), .int .i64 (dp : Int)] y (SPost B0 gr p fl 0 (fun b => y.heap.size ≤ b) ov y (f i g))
set_option maxRecDepth 100000 in
set_option maxHeartbeats 4000000 in
theorem refAtomB_any {y : World} {gr B0 : Nat} {p : ByteArray} {i : Nat} {fl : Int} {g : Nat} {ov : Value} {dp : Nat} {deeper : Option (Nat → Nat → PR)}
  (hD : (deeper = none ∧ dp = 32) ∨ ∃ f, deeper = some f ∧ dp < 32 ∧ PieR B0 gr p fl (dp + 1) f ∧ ∀ i g, i ≤ p.size → (f i g).Fine p i g 0)
  (h : RdS y gr B0 p (i : Int) fl (g : Int) ov 0 0 0) (hp : p.size ≤ 1024) (hi : i < p.size) (hgi : g ≤ i) (hB0 : B0 ≤ y.heap.size) (star : Bool) (hst : ¬ (pb p i = 42 ∧ star = false)) (hnb : pb p i = 92 → pb p (i + 1) ≠ 41 ∧ pb p (i + 1) ≠ 123 ∧ pb p (i + 1) ≠ 125) :
  Calls Tryz.prog 75 #[.pointer (some ⟨gr, 0, none⟩), .int .i64 (dp : Int)] y (SPost B0 gr p fl 0 (fun b => y.heap.size ≤ b) ov y (atomB p (!decide (bits .and .i64 fl 2 = 0)) (!decide (bits .and .i64 fl 4 = 0)) deeper star i g)) := by
 have HD := hide hD
 have HST := hide (And.intro hst hnb)
 clear hD hst hnb
 have hz0 := Blk.new y 27 zeroCells
 have hbel := (Below.refl y.heap.size y).alloc (Nat.le_refl _) (.cells zeroCells 27)
 have H0 := hide (And.intro (h.next hbel) (And.intro (RdF.of_below (gr := gr) (x := ov.ownBlock) hB0 hbel) hz0))
 have HB := hide hB0
 have HZW := hide (World.size_alloc y (.cells zeroCells 27))
 have HBW := hide (Nat.le_trans hB0 hbel.size)
 clear hz0 hbel h hB0
 unfold zeroCells at *
 obtain ⟨ic, hic⟩ : ∃ ic, ic = !decide (bits .and .i64 fl 2 = 0) := ⟨_, rfl⟩
 obtain ⟨nl, hnl⟩ : ∃ nl, nl = !decide (bits .and .i64 fl 4 = 0) := ⟨_, rfl⟩
 rw [← hic, ← hnl]
 have HIC := hide hic
 have HNL := hide hnl
 clear hic hnl
 have c0 := H0.out.1.box.cell
 have f0 := H0.out.1.box.frozen
 obtain ⟨res, hres⟩ : ∃ res, res = atomB p ic nl deeper star i g := ⟨_, rfl⟩
 rw [← hres]
 have HRS := hide hres
 clear hres
 have g1 : decide ((i : Int) < (p.size : Int)) = true := decide_eq_true (by omega)
 obtain ⟨c, hc⟩ : ∃ c, c = pb p i := ⟨_, rfl⟩
 have hpc : (p[i]'hi).toNat = c := by rw [hc, pb_at hi]
 have hcl : c < 256 := by rw [hc]; exact pb_lt hi
 have HC := hide hc
 have HE1 := hide (show (i : Int) + 1 = ((i + 1 : Nat) : Int) from rfl)
 have HI := hide hi
 clear hc
 go_enter Tryz.func75, Tryz.ntmps75
 go_upto_region 1 with fail
 generalize (y.alloc (.cells #[.int .i64 0, .int .u64 0, .int .u64 0, .int .u64 0, .int .u64 0, .slice none 0 0, .int .i64 0, .int .i64 0, .int .i64 0, .bool false] 27)) = W at *
 go_upto_region 3 with fail
 clear hpc g1
 by_cases h91 : c = 91
 ·have HE := hide (show res = setAt p ic nl i g from by rw [HRS.out]; unfold atomB; rw [← HC.out, if_neg (by omega), if_pos h91])
  have h91p := HC.out.symm.trans h91
  subst h91
  obtain ⟨r4, hr4⟩ : ∃ r4, r4 = setAt p ic nl i g := ⟨_, rfl⟩
  have hcall := refSet_any (show RdS W gr B0 p (i : Int) fl (g : Int) ov 0 0 0 from H0.out.1) HBW.out hp h91p
  rw [← HIC.out, ← HNL.out, ← hr4] at hcall
  have HCa := hide hcall
  have HE2 := hide (HE.out.trans hr4.symm)
  clear hcall hr4 HE c0 f0
  go_wp2_with fail
  refine HCa.out.mono ?_
  intro e w4 hpost
  clear HCa
  cases r4 with
  | ok t' j' h' =>
   obtain ⟨B', cc, ov', rfl, hT, hE, hF⟩ := hpost
   have HP4 := hide (And.intro hE (And.intro (H0.out.2.1.trans hF) (And.intro (hF.blk_ H0.out.2.2 (blk_ne6 H0.out.2.2 H0.out.1.box (by decide)) (H0.out.1.apart H0.out.2.2 (by decide))) hT)))
   clear hE hF hT
   go_wp2_with (refine wpList_store_node rfl _ _ rfl y.heap.size _ _ _ _ _ rfl rfl HP4.out.2.2.1 rfl ?_; intro w9 hrow_w9 hg_w9 hz_w9)
   refine bodyPost_ret (node_result rfl _ _ y.heap.size _ _ rfl hrow_w9) rfl ?_
   exact sok (t := t') HE2.out HP4.out.1 HP4.out.2.1 (HP4.out.2.2.2.same (Same.refl _ _) fun b hb => ⟨by have h1 := hb.1; have h2 := HZW.out; omega, hb.2.1, hb.2.2, by have h1 := hb.1; have h2 := HZW.out; omega⟩) hg_w9 HP4.out.2.2.1 (Nat.le_refl _) HB.out
  | bad c' pl' =>
   obtain ⟨t', B', cc, ov', I', g', rfl, hT, hE, hF⟩ := hpost
   have HP4 := hide (And.intro hE (And.intro (H0.out.2.1.trans hF) (And.intro (hF.blk_ H0.out.2.2 (blk_ne6 H0.out.2.2 H0.out.1.box (by decide)) (H0.out.1.apart H0.out.2.2 (by decide))) hT)))
   clear hE hF hT
   go_wp2_with (refine wpList_store_node rfl _ _ rfl y.heap.size _ _ _ _ _ rfl rfl HP4.out.2.2.1 rfl ?_; intro w9 hrow_w9 hg_w9 hz_w9)
   refine bodyPost_ret (node_result rfl _ _ y.heap.size _ _ rfl hrow_w9) rfl ?_
   exact sbad (t := t') HE2.out HP4.out.1 HP4.out.2.1 (HP4.out.2.2.2.same (Same.refl _ _) fun b hb => ⟨by have h1 := hb.1; have h2 := HZW.out; omega, hb.2.1, hb.2.2, by have h1 := hb.1; have h2 := HZW.out; omega⟩) hg_w9 HP4.out.2.2.1 (Nat.le_refl _) HB.out
 have g91 : ((c : Int) == 91) = false := by rw [beq_eq_false_iff_ne]; omega
 by_cases h46 : c = 46
 ·have HE := hide (show res = .ok (bytT (dotS nl)) (i + 1) g from by rw [HRS.out]; unfold atomB; rw [← HC.out, if_pos h46])
  subst h46
  go_upto_region 5 with fail
  rw [HE1.out]
  have H1 := hide (And.intro (show RdS (W.setCell ⟨gr, 1, none⟩ (.int .i64 ((i + 1 : Nat) : Int))) gr B0 p ((i + 1 : Nat) : Int) fl (g : Int) ov 0 0 0 from H0.out.1.set 1 _) (And.intro (H0.out.2.1.set H0.out.1.base 1 (.int .i64 ((i + 1 : Nat) : Int))) (H0.out.2.2.far (blk_ne6 H0.out.2.2 H0.out.1.box (by decide)) (p := ⟨gr, 1, none⟩) (.int .i64 ((i + 1 : Nat) : Int)))))
  have HB1 := hide (show B0 ≤ (W.setCell ⟨gr, 1, none⟩ (.int .i64 ((i + 1 : Nat) : Int))).heap.size from by rw [World.size_setCell]; exact HBW.out)
  generalize (W.setCell ⟨gr, 1, none⟩ (.int .i64 ((i + 1 : Nat) : Int))) = W1 at *
  clear c0 f0
  have c0 := H1.out.1.box.cell
  have f0 := H1.out.1.box.frozen
  have HO1 := hide (fun z => refDot_any fl z)
  rw [← HNL.out] at HO1
  go_wp2_with fail
  refine (HO1.out _).mono ?_
  rintro e w6 ⟨rfl, hb6⟩
  have H7 := hide (And.intro (H1.out.1.next hb6) (And.intro (H1.out.2.1.next HB1.out hb6) (H1.out.2.2.next hb6)))
  clear hb6 HO1 c0 f0
  go_wp2_with (refine wpList_store_node rfl _ _ rfl y.heap.size _ _ _ _ _ rfl rfl H7.out.2.2 rfl ?_; intro w9 hrow9 hg9 hz9)
  refine bodyPost_ret (node_result rfl _ _ y.heap.size _ _ rfl hrow9) rfl ?_
  exact sok (t := bytT (dotS nl)) HE.out H7.out.1 H7.out.2.1 (T.In_iff.2 trivial) hg9 H7.out.2.2 (Nat.le_refl _) HB.out
 have g46 : ((c : Int) == 46) = false := by rw [beq_eq_false_iff_ne]; omega
 by_cases h92 : c = 92
 case neg =>
  have HE := hide (show res = .ok (bytT (oneS ic c)) (i + 1) g from by rw [HRS.out]; unfold atomB; rw [← HC.out, if_neg h46, if_neg h91, if_neg h92, if_neg (fun e => HST.out.1 ⟨HC.out.symm.trans e.1, e.2⟩)])
  have g92 : ((c : Int) == 92) = false := by rw [beq_eq_false_iff_ne]; omega
  go_wp2_with fail
  refine (two_any p hp i (Nat.le_of_lt HI.out) 92 40 (by decide) (by decide) _ rfl _ rfl false (decide_eq_false (fun e => h92 (HC.out.trans e.1))) _).mono ?_
  intro e w1 h1
  rw [h1.1, h1.2]
  clear h1 w1
  go_upto_region 27 with fail
  rw [HE1.out]
  have H1 := hide (And.intro (show RdS (W.setCell ⟨gr, 1, none⟩ (.int .i64 ((i + 1 : Nat) : Int))) gr B0 p ((i + 1 : Nat) : Int) fl (g : Int) ov 0 0 0 from H0.out.1.set 1 _) (And.intro (H0.out.2.1.set H0.out.1.base 1 (.int .i64 ((i + 1 : Nat) : Int))) (H0.out.2.2.far (blk_ne6 H0.out.2.2 H0.out.1.box (by decide)) (p := ⟨gr, 1, none⟩) (.int .i64 ((i + 1 : Nat) : Int)))))
  have HB1 := hide (show B0 ≤ (W.setCell ⟨gr, 1, none⟩ (.int .i64 ((i + 1 : Nat) : Int))).heap.size from by rw [World.size_setCell]; exact HBW.out)
  generalize (W.setCell ⟨gr, 1, none⟩ (.int .i64 ((i + 1 : Nat) : Int))) = W1 at *
  clear c0 f0
  have c0 := H1.out.1.box.cell
  have f0 := H1.out.1.box.frozen
  have HO1 := hide (fun z => refOne_any c hcl fl z)
  rw [← HIC.out] at HO1
  go_wp2_with fail
  refine (HO1.out _).mono ?_
  rintro e w6 ⟨rfl, hb6⟩
  have H7 := hide (And.intro (H1.out.1.next hb6) (And.intro (H1.out.2.1.next HB1.out hb6) (H1.out.2.2.next hb6)))
  clear hb6 HO1 c0 f0
  go_wp2_with (refine wpList_store_node rfl _ _ rfl y.heap.size _ _ _ _ _ rfl rfl H7.out.2.2 rfl ?_; intro w9 hrow9 hg9 hz9)
  refine bodyPost_ret (node_result rfl _ _ y.heap.size _ _ rfl hrow9) rfl ?_
  exact sok (t := bytT (oneS ic c)) HE.out H7.out.1 H7.out.2.1 (T.In_iff.2 trivial) hg9 H7.out.2.2 (Nat.le_refl _) HB.out
 case pos =>
 subst h92
 by_cases h40 : pb p (i + 1) = 40
 case pos =>
  have hi1 : i + 1 < p.size := pb_ins h40 (by decide)
  have HE := hide (show res = groupP p 2 deeper i g from by rw [HRS.out]; unfold atomB; rw [← HC.out, h40, if_neg (by decide), if_neg (by decide), if_pos rfl, if_pos ⟨hi1, by kernel_rfl⟩, if_pos rfl])
  go_wp2_with fail
  refine (two_any p hp i (Nat.le_of_lt HI.out) 92 40 (by decide) (by decide) _ rfl _ rfl true (decide_eq_true ⟨HC.out.symm, h40⟩) _).mono ?_
  intro e w1 h1
  rw [h1.1, h1.2]
  clear h1 w1
  rcases HD.out with ⟨hdn, rfl⟩ | ⟨f, hdf, hd32, hpat, hfine⟩
  ·have HE2 := hide (show res = .bad 10 i from by rw [HE.out, hdn]; rfl)
   have HFt := hide (refFault_any (show RdS W gr B0 p (i : Int) fl (g : Int) ov 0 0 0 from H0.out.1) HBW.out 11 (i : Int))
   clear HRS HD hdn h40 hi1
   go_wp2_with fail
   refine HFt.out.mono ?_
   rintro e w4 ⟨rfl, hE, hF⟩
   have H4 := hide (And.intro hE (And.intro (H0.out.2.1.trans hF) (hF.blk_ H0.out.2.2 (blk_ne6 H0.out.2.2 H0.out.1.box (by decide)) (H0.out.1.apart H0.out.2.2 (by decide)))))
   clear hE hF HFt c0 f0
   go_wp2_with (refine wpList_store_node rfl _ _ rfl y.heap.size _ ⟨0, 0, 0, 0, 0, 0, 0, 0, false⟩ none 0 0 rfl rfl H4.out.2.2 rfl ?_; intro w9 hrow9 hg9 hz9)
   refine bodyPost_ret (node_result rfl _ _ y.heap.size _ _ rfl hrow9) rfl ?_
   exact sbad (t := nilT) HE2.out H4.out.1 H4.out.2.1 (T.In_iff.2 trivial) hg9 H4.out.2.2 (Nat.le_refl _) HB.out
  ·have g32 : decide (32 ≤ (dp : Int)) = false := decide_eq_false (by omega)
   have g32n : decide (32 ≤ dp) = false := decide_eq_false (by omega)
   have HP := hide (And.intro hpat hfine)
   have HRS2 := hide (show res = (match f (i + 2) (g + 1) with
    | .bad c pl => .bad c pl
    | .ok t j h => if j < p.size then .ok (grpT ((g + 1 : Nat) : Int) t) (j + 2) h else .bad 1 i) from by rw [HE.out, hdf]; rfl)
   have HZ1 := hide (show y.heap.size < W.heap.size from H0.out.2.2.lt)
   have HI1 := hide hi1
   clear HRS HD hdf hpat hfine HE h40 hi1
   go_upto_region 13 with fail
   have e1 : ((g : Int) + 1) = ((g + 1 : Nat) : Int) := by omega
   rw [e1]
   have H3 := hide (And.intro (show RdS (W.setCell ⟨gr, 3, none⟩ (.int .i64 ((g + 1 : Nat) : Int))) gr B0 p (i : Int) fl ((g + 1 : Nat) : Int) ov 0 0 0 from H0.out.1.set 3 _) (And.intro (H0.out.2.1.set H0.out.1.base 3 (.int .i64 ((g + 1 : Nat) : Int))) (H0.out.2.2.far (blk_ne6 H0.out.2.2 H0.out.1.box (by decide)) (p := ⟨gr, 3, none⟩) (.int .i64 ((g + 1 : Nat) : Int)))))
   generalize (W.setCell ⟨gr, 3, none⟩ (.int .i64 ((g + 1 : Nat) : Int))) = W3 at *
   clear c0 f0 e1
   have c3 := H3.out.1.box.cell
   have f3 := H3.out.1.box.frozen
   go_upto_region 15 with fail
   have e2 : ((i : Int) + 2) = ((i + 2 : Nat) : Int) := by omega
   rw [e2]
   have H4 := hide (And.intro (show RdS (W3.setCell ⟨gr, 1, none⟩ (.int .i64 ((i + 2 : Nat) : Int))) gr B0 p ((i + 2 : Nat) : Int) fl ((g + 1 : Nat) : Int) ov 0 0 0 from H3.out.1.set 1 _) (And.intro (H3.out.2.1.set H3.out.1.base 1 (.int .i64 ((i + 2 : Nat) : Int))) (H3.out.2.2.far (blk_ne6 H3.out.2.2 H3.out.1.box (by decide)) (p := ⟨gr, 1, none⟩) (.int .i64 ((i + 2 : Nat) : Int)))))
   have HZ4 := hide (show y.heap.size < (W3.setCell ⟨gr, 1, none⟩ (.int .i64 ((i + 2 : Nat) : Int))).heap.size from H4.out.2.2.lt)
   have HB4 := hide (Nat.le_trans HB.out (Nat.le_of_lt HZ4.out))
   generalize (W3.setCell ⟨gr, 1, none⟩ (.int .i64 ((i + 2 : Nat) : Int))) = W4 at *
   clear c3 f3 e2
   have HPt := hide (HP.out.1 W4 ov (i + 2) (g + 1) H4.out.1 (by have := HI1.out; omega) (by omega) HB4.out)
   have HFn := hide (HP.out.2 (i + 2) (g + 1) (by have := HI1.out; omega))
   clear HP
   obtain ⟨dq, hdq⟩ : ∃ dq, dq = dp + 1 := ⟨_, rfl⟩
   rw [← hdq] at HPt
   have e3 : ((dp : Int) + 1) = (dq : Int) := by omega
   have e5 : (dq : Int) ≤ 32 := by omega
   have HDQ := hide hdq
   clear hdq
   go_wp2_with fail
   refine HPt.out.mono ?_
   intro e z hz
   clear HPt e3 e5
   cases hq : f (i + 2) (g + 1) with
   | bad c pl =>
    rw [hq] at hz HRS2
    obtain ⟨t, B, cc, ov', I, g', rfl, hin, hE, hF⟩ := hz
    have HE := hide (show res = .bad c pl from HRS2.out)
    clear HFn
    obtain ⟨cd, hcd⟩ : ∃ cd : Int, cd = ((c + 1 : Nat) : Int) := ⟨_, rfl⟩
    rw [← hcd] at hE
    have gc : (cd == 0) = false := by rw [beq_eq_false_iff_ne]; omega
    have HCD := hide hcd
    clear hcd
    have H5 := hide (And.intro hE (And.intro (H4.out.2.1.trans hF) (And.intro (hF.blk_ H4.out.2.2 (blk_ne6 H4.out.2.2 H4.out.1.box (by decide)) (H4.out.1.apart H4.out.2.2 (by decide))) hin)))
    have HB5 := hide (Nat.le_trans HB4.out hF.below.size)
    have HZ5 := hide (Nat.lt_of_lt_of_le HZ4.out hF.below.size)
    have HG4 := hide H4.out.1.box.lt
    clear hin hE hF hq HRS2
    have hal := (Below.refl z.heap.size z).alloc (Nat.le_refl _) (.cells #[.int .i64 t.hd.kind, .int .u64 t.hd.s0, .int .u64 t.hd.s1, .int .u64 t.hd.s2, .int .u64 t.hd.s3, .slice B t.subs.length cc, .int .i64 t.hd.num, .int .i64 t.hd.min, .int .i64 t.hd.max, .bool t.hd.bare] 27)
    have H6 := hide (And.intro (H5.out.1.next hal) (And.intro (H5.out.2.1.next HB5.out hal) (And.intro (H5.out.2.2.1.next hal) (And.intro (Blk.new z 27 #[.int .i64 t.hd.kind, .int .u64 t.hd.s0, .int .u64 t.hd.s1, .int .u64 t.hd.s2, .int .u64 t.hd.s3, .slice B t.subs.length cc, .int .i64 t.hd.num, .int .i64 t.hd.min, .int .i64 t.hd.max, .bool t.hd.bare]) (H5.out.2.2.2.same (ok' := (fun b => W4.heap.size ≤ b ∧ b < z.heap.size ∧ ov'.ownBlock ≠ some b)) ((same_of_below hal).mono fun b hb => hb.2.1) fun b hb => hb)))))
    have HS6 := hide (show z.heap.size + 1 ≤ (z.alloc (.cells #[.int .i64 t.hd.kind, .int .u64 t.hd.s0, .int .u64 t.hd.s1, .int .u64 t.hd.s2, .int .u64 t.hd.s3, .slice B t.subs.length cc, .int .i64 t.hd.num, .int .i64 t.hd.min, .int .i64 t.hd.max, .bool t.hd.bare] 27)).heap.size from Nat.le_of_eq (World.size_alloc _ _).symm)
    have HB6 := hide (Nat.le_trans HB5.out hal.size)
    clear hal
    simp only [Hd.cells]
    go_upto_region 16 with fail
    generalize (z.alloc (.cells #[.int .i64 t.hd.kind, .int .u64 t.hd.s0, .int .u64 t.hd.s1, .int .u64 t.hd.s2, .int .u64 t.hd.s3, .slice B t.subs.length cc, .int .i64 t.hd.num, .int .i64 t.hd.min, .int .i64 t.hd.max, .bool t.hd.bare] 27)) = W6 at *
    have c6 := H6.out.1.box.cell
    go_big_quiet (fail)
    have hbq := below_drewN6 (Below.refl W6.heap.size W6) nq
    have H6q := hide (And.intro (H6.out.1.next hbq) (And.intro (H6.out.2.1.next HB6.out hbq) (And.intro (H6.out.2.2.1.next hbq) (And.intro (H6.out.2.2.2.1.next hbq) (H6.out.2.2.2.2.same (ok' := (fun b => W4.heap.size ≤ b ∧ b < z.heap.size ∧ ov'.ownBlock ≠ some b)) ((same_of_below hbq).mono fun b hb => by have h1 := hb.2.1; have h2 := HS6.out; omega) fun b hb => hb)))))
    have HS6q := hide (Nat.le_trans HS6.out hbq.size)
    have HB6q := hide (Nat.le_trans HB6.out hbq.size)
    clear hbq c6 H6 HS6 HB6
    have H6 := H6q
    have HS6 := HS6q
    have HB6 := HB6q
    clear H6q HS6q HB6q
    generalize W6.drewN nq = Wq at *
    have c6 := H6.out.1.box.cell
    have f6 := H6.out.1.box.frozen
    have H7 := H6
    have HS7 := hide (show z.heap.size < Wq.heap.size from by have := HS6.out; omega)
    have HB7 := HB6
    clear c6 f6
    have c7' := H7.out.1.box.cell
    have f7' := H7.out.1.box.frozen
    go_upto_region 19 with fail
    have H8 := hide (And.intro (H7.out.1.set 1 (.int .i64 (wrap64 (I + 2)))) (And.intro (H7.out.2.1.set H7.out.1.base 1 (.int .i64 (wrap64 (I + 2)))) (And.intro (H7.out.2.2.1.far (blk_ne6 H7.out.2.2.1 H7.out.1.box (by decide)) (p := ⟨gr, 1, none⟩) (.int .i64 (wrap64 (I + 2)))) (And.intro (H7.out.2.2.2.1.far (blk_ne6 H7.out.2.2.2.1 H7.out.1.box (by decide)) (p := ⟨gr, 1, none⟩) (.int .i64 (wrap64 (I + 2)))) (H7.out.2.2.2.2.same (ok' := (fun b => W4.heap.size ≤ b ∧ b < z.heap.size ∧ ov'.ownBlock ≠ some b)) ((Same.refl _ _).set (p := ⟨gr, 1, none⟩) (fun hb => by have h1 : W4.heap.size ≤ gr := hb.1; have h2 := HG4.out; omega) (.int .i64 (wrap64 (I + 2)))) fun b hb => hb)))))
    have HS8 := hide (show z.heap.size < (Wq.setCell ⟨gr, 1, none⟩ (.int .i64 (wrap64 (I + 2)))).heap.size from by rw [World.size_setCell]; exact HS7.out)
    have HB8 := hide (show B0 ≤ (Wq.setCell ⟨gr, 1, none⟩ (.int .i64 (wrap64 (I + 2)))).heap.size from by rw [World.size_setCell]; exact HB7.out)
    generalize (Wq.setCell ⟨gr, 1, none⟩ (.int .i64 (wrap64 (I + 2)))) = w10 at *
    clear c7' f7'
    have hal := (Below.refl w10.heap.size w10).alloc (Nat.le_refl _) (.cells #[.int .i64 t.hd.kind, .int .u64 t.hd.s0, .int .u64 t.hd.s1, .int .u64 t.hd.s2, .int .u64 t.hd.s3, .slice B t.subs.length cc, .int .i64 t.hd.num, .int .i64 t.hd.min, .int .i64 t.hd.max, .bool t.hd.bare] 27)
    have hin2 : T.In (w10.alloc (.cells #[.int .i64 t.hd.kind, .int .u64 t.hd.s0, .int .u64 t.hd.s1, .int .u64 t.hd.s2, .int .u64 t.hd.s3, .slice B t.subs.length cc, .int .i64 t.hd.num, .int .i64 t.hd.min, .int .i64 t.hd.max, .bool t.hd.bare] 27)) (fun b => y.heap.size ≤ b ∧ b < (w10.alloc (.cells #[.int .i64 t.hd.kind, .int .u64 t.hd.s0, .int .u64 t.hd.s1, .int .u64 t.hd.s2, .int .u64 t.hd.s3, .slice B t.subs.length cc, .int .i64 t.hd.num, .int .i64 t.hd.min, .int .i64 t.hd.max, .bool t.hd.bare] 27)).heap.size ∧ ov'.ownBlock ≠ some b ∧ b ≠ y.heap.size) t B :=
     H8.out.2.2.2.2.same ((same_of_below hal).mono fun b hb => Nat.lt_trans hb.2.1 HS8.out) fun b hb => ⟨by have h1 := hb.1; have h2 := HZ4.out; omega, by rw [World.size_alloc]; have h1 := hb.2.1; have h2 := HS8.out; omega, hb.2.2, by have h1 := hb.1; have h2 := HZ4.out; omega⟩
    have hrw : ov'.ownBlock ≠ some w10.heap.size := fun e => by have := (H8.out.1.lt _ e).2; omega
    have htr := one_in (h := ⟨7, 0, 0, 0, 0, ((g + 1 : Nat) : Int), 0, 0, false⟩) (Blk.new w10 27 #[.int .i64 t.hd.kind, .int .u64 t.hd.s0, .int .u64 t.hd.s1, .int .u64 t.hd.s2, .int .u64 t.hd.s3, .slice B t.subs.length cc, .int .i64 t.hd.num, .int .i64 t.hd.min, .int .i64 t.hd.max, .bool t.hd.bare]) (ok := fun b => y.heap.size ≤ b ∧ b < (w10.alloc (.cells #[.int .i64 t.hd.kind, .int .u64 t.hd.s0, .int .u64 t.hd.s1, .int .u64 t.hd.s2, .int .u64 t.hd.s3, .slice B t.subs.length cc, .int .i64 t.hd.num, .int .i64 t.hd.min, .int .i64 t.hd.max, .bool t.hd.bare] 27)).heap.size ∧ ov'.ownBlock ≠ some b ∧ b ≠ y.heap.size) ⟨by have h1 := HS8.out; have h2 := HZ5.out; omega, by rw [World.size_alloc]; omega, hrw, by have h1 := HS8.out; have h2 := HZ5.out; omega⟩ hin2
    have H11 := hide (And.intro (H8.out.1.next hal) (And.intro (H8.out.2.1.next HB8.out hal) (And.intro (H8.out.2.2.1.next hal) htr)))
    clear hal hin2 hrw htr
    have cx := H8.out.2.2.2.1.cell
    go_wp2_with (refine wpList_store_node rfl _ _ rfl y.heap.size _ ⟨7, 0, 0, 0, 0, ((g + 1 : Nat) : Int), 0, 0, false⟩ (some ⟨w10.heap.size, 0, none⟩) 1 1 rfl rfl H11.out.2.2.1 rfl ?_; intro w9 hrow9 hg9 hz9)
    refine bodyPost_ret (node_result rfl _ _ y.heap.size _ _ rfl hrow9) rfl ?_
    exact sbad (t := grpT ((g + 1 : Nat) : Int) t) HE.out (HCD.out ▸ H11.out.1) H11.out.2.1 H11.out.2.2.2 hg9 H11.out.2.2.1 (Nat.le_refl _) HB.out
   | ok t j q =>
    rw [hq] at hz HRS2 HFn
    obtain ⟨B, cc, ov', rfl, hin, hE, hF⟩ := hz
    have hfn := HFn.out
    simp only [PR.Fine] at hfn
    have hjp : j ≤ p.size := hfn.2.1
    clear HFn hfn
    by_cases hj : j < p.size
    ·have HE := hide (show res = .ok (grpT ((g + 1 : Nat) : Int) t) (j + 2) q from by rw [HRS2.out]; exact if_pos hj)
     have gj : decide ((p.size : Int) ≤ (j : Int)) = false := decide_eq_false (by omega)
     have gjn : decide (p.size ≤ j) = false := decide_eq_false (by omega)
     have H5 := hide (And.intro hE (And.intro (H4.out.2.1.trans hF) (And.intro (hF.blk_ H4.out.2.2 (blk_ne6 H4.out.2.2 H4.out.1.box (by decide)) (H4.out.1.apart H4.out.2.2 (by decide))) hin)))
     have HB5 := hide (Nat.le_trans HB4.out hF.below.size)
     have HZ5 := hide (Nat.lt_of_lt_of_le HZ4.out hF.below.size)
     have HG4 := hide H4.out.1.box.lt
     clear hin hE hF hq HRS2
     have hal := (Below.refl z.heap.size z).alloc (Nat.le_refl _) (.cells #[.int .i64 t.hd.kind, .int .u64 t.hd.s0, .int .u64 t.hd.s1, .int .u64 t.hd.s2, .int .u64 t.hd.s3, .slice B t.subs.length cc, .int .i64 t.hd.num, .int .i64 t.hd.min, .int .i64 t.hd.max, .bool t.hd.bare] 27)
     have H6 := hide (And.intro (H5.out.1.next hal) (And.intro (H5.out.2.1.next HB5.out hal) (And.intro (H5.out.2.2.1.next hal) (And.intro (Blk.new z 27 #[.int .i64 t.hd.kind, .int .u64 t.hd.s0, .int .u64 t.hd.s1, .int .u64 t.hd.s2, .int .u64 t.hd.s3, .slice B t.subs.length cc, .int .i64 t.hd.num, .int .i64 t.hd.min, .int .i64 t.hd.max, .bool t.hd.bare]) (H5.out.2.2.2.same (ok' := (fun b => W4.heap.size ≤ b ∧ b < z.heap.size ∧ ov'.ownBlock ≠ some b)) ((same_of_below hal).mono fun b hb => hb.2.1) fun b hb => hb)))))
     have HS6 := hide (show z.heap.size + 1 ≤ (z.alloc (.cells #[.int .i64 t.hd.kind, .int .u64 t.hd.s0, .int .u64 t.hd.s1, .int .u64 t.hd.s2, .int .u64 t.hd.s3, .slice B t.subs.length cc, .int .i64 t.hd.num, .int .i64 t.hd.min, .int .i64 t.hd.max, .bool t.hd.bare] 27)).heap.size from Nat.le_of_eq (World.size_alloc _ _).symm)
     have HB6 := hide (Nat.le_trans HB5.out hal.size)
     clear hal
     simp only [Hd.cells]
     go_upto_region 16 with fail
     generalize (z.alloc (.cells #[.int .i64 t.hd.kind, .int .u64 t.hd.s0, .int .u64 t.hd.s1, .int .u64 t.hd.s2, .int .u64 t.hd.s3, .slice B t.subs.length cc, .int .i64 t.hd.num, .int .i64 t.hd.min, .int .i64 t.hd.max, .bool t.hd.bare] 27)) = W6 at *
     have c6 := H6.out.1.box.cell
     go_big_quiet (fail)
     have hbq := below_drewN6 (Below.refl W6.heap.size W6) nq
     have H6q := hide (And.intro (H6.out.1.next hbq) (And.intro (H6.out.2.1.next HB6.out hbq) (And.intro (H6.out.2.2.1.next hbq) (And.intro (H6.out.2.2.2.1.next hbq) (H6.out.2.2.2.2.same (ok' := (fun b => W4.heap.size ≤ b ∧ b < z.heap.size ∧ ov'.ownBlock ≠ some b)) ((same_of_below hbq).mono fun b hb => by have h1 := hb.2.1; have h2 := HS6.out; omega) fun b hb => hb)))))
     have HS6q := hide (Nat.le_trans HS6.out hbq.size)
     have HB6q := hide (Nat.le_trans HB6.out hbq.size)
     clear hbq c6 H6 HS6 HB6
     have H6 := H6q
     have HS6 := HS6q
     have HB6 := HB6q
     clear H6q HS6q HB6q
     generalize W6.drewN nq = Wq at *
     have c6 := H6.out.1.box.cell
     have f6 := H6.out.1.box.frozen
     have H7 := H6
     have HS7 := hide (show z.heap.size < Wq.heap.size from by have := HS6.out; omega)
     have HB7 := HB6
     clear c6 f6
     have c7' := H7.out.1.box.cell
     have f7' := H7.out.1.box.frozen
     go_upto_region 19 with fail
     have e4 : ((j : Int) + 2) = ((j + 2 : Nat) : Int) := by omega
     rw [e4]
     have H8 := hide (And.intro (H7.out.1.set 1 (.int .i64 ((j + 2 : Nat) : Int))) (And.intro (H7.out.2.1.set H7.out.1.base 1 (.int .i64 ((j + 2 : Nat) : Int))) (And.intro (H7.out.2.2.1.far (blk_ne6 H7.out.2.2.1 H7.out.1.box (by decide)) (p := ⟨gr, 1, none⟩) (.int .i64 ((j + 2 : Nat) : Int))) (And.intro (H7.out.2.2.2.1.far (blk_ne6 H7.out.2.2.2.1 H7.out.1.box (by decide)) (p := ⟨gr, 1, none⟩) (.int .i64 ((j + 2 : Nat) : Int))) (H7.out.2.2.2.2.same (ok' := (fun b => W4.heap.size ≤ b ∧ b < z.heap.size ∧ ov'.ownBlock ≠ some b)) ((Same.refl _ _).set (p := ⟨gr, 1, none⟩) (fun hb => by have h1 : W4.heap.size ≤ gr := hb.1; have h2 := HG4.out; omega) (.int .i64 ((j + 2 : Nat) : Int))) fun b hb => hb)))))
     have HS8 := hide (show z.heap.size < (Wq.setCell ⟨gr, 1, none⟩ (.int .i64 ((j + 2 : Nat) : Int))).heap.size from by rw [World.size_setCell]; exact HS7.out)
     have HB8 := hide (show B0 ≤ (Wq.setCell ⟨gr, 1, none⟩ (.int .i64 ((j + 2 : Nat) : Int))).heap.size from by rw [World.size_setCell]; exact HB7.out)
     generalize (Wq.setCell ⟨gr, 1, none⟩ (.int .i64 ((j + 2 : Nat) : Int))) = w10 at *
     clear c7' f7' e4
     have hal := (Below.refl w10.heap.size w10).alloc (Nat.le_refl _) (.cells #[.int .i64 t.hd.kind, .int .u64 t.hd.s0, .int .u64 t.hd.s1, .int .u64 t.hd.s2, .int .u64 t.hd.s3, .slice B t.subs.length cc, .int .i64 t.hd.num, .int .i64 t.hd.min, .int .i64 t.hd.max, .bool t.hd.bare] 27)
     have hin2 : T.In (w10.alloc (.cells #[.int .i64 t.hd.kind, .int .u64 t.hd.s0, .int .u64 t.hd.s1, .int .u64 t.hd.s2, .int .u64 t.hd.s3, .slice B t.subs.length cc, .int .i64 t.hd.num, .int .i64 t.hd.min, .int .i64 t.hd.max, .bool t.hd.bare] 27)) (fun b => y.heap.size ≤ b ∧ b < (w10.alloc (.cells #[.int .i64 t.hd.kind, .int .u64 t.hd.s0, .int .u64 t.hd.s1, .int .u64 t.hd.s2, .int .u64 t.hd.s3, .slice B t.subs.length cc, .int .i64 t.hd.num, .int .i64 t.hd.min, .int .i64 t.hd.max, .bool t.hd.bare] 27)).heap.size ∧ ov'.ownBlock ≠ some b ∧ b ≠ y.heap.size) t B :=
      H8.out.2.2.2.2.same ((same_of_below hal).mono fun b hb => Nat.lt_trans hb.2.1 HS8.out) fun b hb => ⟨by have h1 := hb.1; have h2 := HZ4.out; omega, by rw [World.size_alloc]; have h1 := hb.2.1; have h2 := HS8.out; omega, hb.2.2, by have h1 := hb.1; have h2 := HZ4.out; omega⟩
     have hrw : ov'.ownBlock ≠ some w10.heap.size := fun e => by have := (H8.out.1.lt _ e).2; omega
     have htr := one_in (h := ⟨7, 0, 0, 0, 0, ((g + 1 : Nat) : Int), 0, 0, false⟩) (Blk.new w10 27 #[.int .i64 t.hd.kind, .int .u64 t.hd.s0, .int .u64 t.hd.s1, .int .u64 t.hd.s2, .int .u64 t.hd.s3, .slice B t.subs.length cc, .int .i64 t.hd.num, .int .i64 t.hd.min, .int .i64 t.hd.max, .bool t.hd.bare]) (ok := fun b => y.heap.size ≤ b ∧ b < (w10.alloc (.cells #[.int .i64 t.hd.kind, .int .u64 t.hd.s0, .int .u64 t.hd.s1, .int .u64 t.hd.s2, .int .u64 t.hd.s3, .slice B t.subs.length cc, .int .i64 t.hd.num, .int .i64 t.hd.min, .int .i64 t.hd.max, .bool t.hd.bare] 27)).heap.size ∧ ov'.ownBlock ≠ some b ∧ b ≠ y.heap.size) ⟨by have h1 := HS8.out; have h2 := HZ5.out; omega, by rw [World.size_alloc]; omega, hrw, by have h1 := HS8.out; have h2 := HZ5.out; omega⟩ hin2
     have H11 := hide (And.intro (H8.out.1.next hal) (And.intro (H8.out.2.1.next HB8.out hal) (And.intro (H8.out.2.2.1.next hal) htr)))
     clear hal hin2 hrw htr
     have cx := H8.out.2.2.2.1.cell
     go_wp2_with (refine wpList_store_node rfl _ _ rfl y.heap.size _ ⟨7, 0, 0, 0, 0, ((g + 1 : Nat) : Int), 0, 0, false⟩ (some ⟨w10.heap.size, 0, none⟩) 1 1 rfl rfl H11.out.2.2.1 rfl ?_; intro w9 hrow9 hg9 hz9)
     refine bodyPost_ret (node_result rfl _ _ y.heap.size _ _ rfl hrow9) rfl ?_
     exact sok (t := grpT ((g + 1 : Nat) : Int) t) HE.out H11.out.1 H11.out.2.1 H11.out.2.2.2 hg9 H11.out.2.2.1 (Nat.le_refl _) HB.out
    ·have HE := hide (show res = .bad 1 (i : Int) from by rw [HRS2.out]; exact if_neg hj)
     have gj : decide ((p.size : Int) ≤ (j : Int)) = true := decide_eq_true (by omega)
     have gjn : decide (p.size ≤ j) = true := decide_eq_true (by omega)
     have H5 := hide (And.intro hE (And.intro (H4.out.2.1.trans hF) (And.intro (hF.blk_ H4.out.2.2 (blk_ne6 H4.out.2.2 H4.out.1.box (by decide)) (H4.out.1.apart H4.out.2.2 (by decide))) hin)))
     have HB5 := hide (Nat.le_trans HB4.out hF.below.size)
     have HZ5 := hide (Nat.lt_of_lt_of_le HZ4.out hF.below.size)
     have HG4 := hide H4.out.1.box.lt
     clear hin hE hF hq HRS2
     have hal := (Below.refl z.heap.size z).alloc (Nat.le_refl _) (.cells #[.int .i64 t.hd.kind, .int .u64 t.hd.s0, .int .u64 t.hd.s1, .int .u64 t.hd.s2, .int .u64 t.hd.s3, .slice B t.subs.length cc, .int .i64 t.hd.num, .int .i64 t.hd.min, .int .i64 t.hd.max, .bool t.hd.bare] 27)
     have H6 := hide (And.intro (H5.out.1.next hal) (And.intro (H5.out.2.1.next HB5.out hal) (And.intro (H5.out.2.2.1.next hal) (And.intro (Blk.new z 27 #[.int .i64 t.hd.kind, .int .u64 t.hd.s0, .int .u64 t.hd.s1, .int .u64 t.hd.s2, .int .u64 t.hd.s3, .slice B t.subs.length cc, .int .i64 t.hd.num, .int .i64 t.hd.min, .int .i64 t.hd.max, .bool t.hd.bare]) (H5.out.2.2.2.same (ok' := (fun b => W4.heap.size ≤ b ∧ b < z.heap.size ∧ ov'.ownBlock ≠ some b)) ((same_of_below hal).mono fun b hb => hb.2.1) fun b hb => hb)))))
     have HS6 := hide (show z.heap.size + 1 ≤ (z.alloc (.cells #[.int .i64 t.hd.kind, .int .u64 t.hd.s0, .int .u64 t.hd.s1, .int .u64 t.hd.s2, .int .u64 t.hd.s3, .slice B t.subs.length cc, .int .i64 t.hd.num, .int .i64 t.hd.min, .int .i64 t.hd.max, .bool t.hd.bare] 27)).heap.size from Nat.le_of_eq (World.size_alloc _ _).symm)
     have HB6 := hide (Nat.le_trans HB5.out hal.size)
     clear hal
     simp only [Hd.cells]
     go_upto_region 16 with fail
     generalize (z.alloc (.cells #[.int .i64 t.hd.kind, .int .u64 t.hd.s0, .int .u64 t.hd.s1, .int .u64 t.hd.s2, .int .u64 t.hd.s3, .slice B t.subs.length cc, .int .i64 t.hd.num, .int .i64 t.hd.min, .int .i64 t.hd.max, .bool t.hd.bare] 27)) = W6 at *
     have c6 := H6.out.1.box.cell
     go_big_quiet (fail)
     have hbq := below_drewN6 (Below.refl W6.heap.size W6) nq
     have H6q := hide (And.intro (H6.out.1.next hbq) (And.intro (H6.out.2.1.next HB6.out hbq) (And.intro (H6.out.2.2.1.next hbq) (And.intro (H6.out.2.2.2.1.next hbq) (H6.out.2.2.2.2.same (ok' := (fun b => W4.heap.size ≤ b ∧ b < z.heap.size ∧ ov'.ownBlock ≠ some b)) ((same_of_below hbq).mono fun b hb => by have h1 := hb.2.1; have h2 := HS6.out; omega) fun b hb => hb)))))
     have HS6q := hide (Nat.le_trans HS6.out hbq.size)
     have HB6q := hide (Nat.le_trans HB6.out hbq.size)
     clear hbq c6 H6 HS6 HB6
     have H6 := H6q
     have HS6 := HS6q
     have HB6 := HB6q
     clear H6q HS6q HB6q
     generalize W6.drewN nq = Wq at *
     have c6 := H6.out.1.box.cell
     have f6 := H6.out.1.box.frozen
     have HFt := hide (refFault_any (show RdS Wq gr B0 p (j : Int) fl (q : Int) ov' 0 0 0 from H6.out.1) HB6.out 2 (i : Int))
     go_wp2_with fail
     refine HFt.out.mono ?_
     rintro e w7 ⟨rfl, hE, hF⟩
     have H7 := hide (And.intro hE (And.intro (H6.out.2.1.trans hF) (And.intro (hF.blk_ H6.out.2.2.1 (blk_ne6 H6.out.2.2.1 H6.out.1.box (by decide)) (H6.out.1.apart H6.out.2.2.1 (by decide))) (And.intro (hF.blk_ H6.out.2.2.2.1 (blk_ne6 H6.out.2.2.2.1 H6.out.1.box (by decide)) (H6.out.1.apart H6.out.2.2.2.1 (by decide))) (H6.out.2.2.2.2.same (ok' := (fun b => W4.heap.size ≤ b ∧ b < z.heap.size ∧ ov'.ownBlock ≠ some b)) (hF.same.mono fun b hb => ⟨by have h1 := hb.2.1; have h2 := HS6.out; omega, by have h1 := hb.1; have h2 := HG4.out; omega, hb.2.2⟩) fun b hb => hb)))))
     have HS7 := hide (show z.heap.size < w7.heap.size from Nat.lt_of_lt_of_le (by have := HS6.out; omega) hF.below.size)
     have HB7 := hide (Nat.le_trans HB6.out hF.below.size)
     clear hE hF HFt c6 f6
     have c7' := H7.out.1.box.cell
     have f7' := H7.out.1.box.frozen
     go_upto_region 19 with fail
     have e4 : ((j : Int) + 2) = ((j + 2 : Nat) : Int) := by omega
     rw [e4]
     have H8 := hide (And.intro (H7.out.1.set 1 (.int .i64 ((j + 2 : Nat) : Int))) (And.intro (H7.out.2.1.set H7.out.1.base 1 (.int .i64 ((j + 2 : Nat) : Int))) (And.intro (H7.out.2.2.1.far (blk_ne6 H7.out.2.2.1 H7.out.1.box (by decide)) (p := ⟨gr, 1, none⟩) (.int .i64 ((j + 2 : Nat) : Int))) (And.intro (H7.out.2.2.2.1.far (blk_ne6 H7.out.2.2.2.1 H7.out.1.box (by decide)) (p := ⟨gr, 1, none⟩) (.int .i64 ((j + 2 : Nat) : Int))) (H7.out.2.2.2.2.same (ok' := (fun b => W4.heap.size ≤ b ∧ b < z.heap.size ∧ ov'.ownBlock ≠ some b)) ((Same.refl _ _).set (p := ⟨gr, 1, none⟩) (fun hb => by have h1 : W4.heap.size ≤ gr := hb.1; have h2 := HG4.out; omega) (.int .i64 ((j + 2 : Nat) : Int))) fun b hb => hb)))))
     have HS8 := hide (show z.heap.size < (w7.setCell ⟨gr, 1, none⟩ (.int .i64 ((j + 2 : Nat) : Int))).heap.size from by rw [World.size_setCell]; exact HS7.out)
     have HB8 := hide (show B0 ≤ (w7.setCell ⟨gr, 1, none⟩ (.int .i64 ((j + 2 : Nat) : Int))).heap.size from by rw [World.size_setCell]; exact HB7.out)
     generalize (w7.setCell ⟨gr, 1, none⟩ (.int .i64 ((j + 2 : Nat) : Int))) = w10 at *
     clear c7' f7' e4
     have hal := (Below.refl w10.heap.size w10).alloc (Nat.le_refl _) (.cells #[.int .i64 t.hd.kind, .int .u64 t.hd.s0, .int .u64 t.hd.s1, .int .u64 t.hd.s2, .int .u64 t.hd.s3, .slice B t.subs.length cc, .int .i64 t.hd.num, .int .i64 t.hd.min, .int .i64 t.hd.max, .bool t.hd.bare] 27)
     have hin2 : T.In (w10.alloc (.cells #[.int .i64 t.hd.kind, .int .u64 t.hd.s0, .int .u64 t.hd.s1, .int .u64 t.hd.s2, .int .u64 t.hd.s3, .slice B t.subs.length cc, .int .i64 t.hd.num, .int .i64 t.hd.min, .int .i64 t.hd.max, .bool t.hd.bare] 27)) (fun b => y.heap.size ≤ b ∧ b < (w10.alloc (.cells #[.int .i64 t.hd.kind, .int .u64 t.hd.s0, .int .u64 t.hd.s1, .int .u64 t.hd.s2, .int .u64 t.hd.s3, .slice B t.subs.length cc, .int .i64 t.hd.num, .int .i64 t.hd.min, .int .i64 t.hd.max, .bool t.hd.bare] 27)).heap.size ∧ ov'.ownBlock ≠ some b ∧ b ≠ y.heap.size) t B :=
      H8.out.2.2.2.2.same ((same_of_below hal).mono fun b hb => Nat.lt_trans hb.2.1 HS8.out) fun b hb => ⟨by have h1 := hb.1; have h2 := HZ4.out; omega, by rw [World.size_alloc]; have h1 := hb.2.1; have h2 := HS8.out; omega, hb.2.2, by have h1 := hb.1; have h2 := HZ4.out; omega⟩
     have hrw : ov'.ownBlock ≠ some w10.heap.size := fun e => by have := (H8.out.1.lt _ e).2; omega
     have htr := one_in (h := ⟨7, 0, 0, 0, 0, ((g + 1 : Nat) : Int), 0, 0, false⟩) (Blk.new w10 27 #[.int .i64 t.hd.kind, .int .u64 t.hd.s0, .int .u64 t.hd.s1, .int .u64 t.hd.s2, .int .u64 t.hd.s3, .slice B t.subs.length cc, .int .i64 t.hd.num, .int .i64 t.hd.min, .int .i64 t.hd.max, .bool t.hd.bare]) (ok := fun b => y.heap.size ≤ b ∧ b < (w10.alloc (.cells #[.int .i64 t.hd.kind, .int .u64 t.hd.s0, .int .u64 t.hd.s1, .int .u64 t.hd.s2, .int .u64 t.hd.s3, .slice B t.subs.length cc, .int .i64 t.hd.num, .int .i64 t.hd.min, .int .i64 t.hd.max, .bool t.hd.bare] 27)).heap.size ∧ ov'.ownBlock ≠ some b ∧ b ≠ y.heap.size) ⟨by have h1 := HS8.out; have h2 := HZ5.out; omega, by rw [World.size_alloc]; omega, hrw, by have h1 := HS8.out; have h2 := HZ5.out; omega⟩ hin2
     have H11 := hide (And.intro (H8.out.1.next hal) (And.intro (H8.out.2.1.next HB8.out hal) (And.intro (H8.out.2.2.1.next hal) htr)))
     clear hal hin2 hrw htr
     have cx := H8.out.2.2.2.1.cell
     go_wp2_with (refine wpList_store_node rfl _ _ rfl y.heap.size _ ⟨7, 0, 0, 0, 0, ((g + 1 : Nat) : Int), 0, 0, false⟩ (some ⟨w10.heap.size, 0, none⟩) 1 1 rfl rfl H11.out.2.2.1 rfl ?_; intro w9 hrow9 hg9 hz9)
     refine bodyPost_ret (node_result rfl _ _ y.heap.size _ _ rfl hrow9) rfl ?_
     exact sbad (t := grpT ((g + 1 : Nat) : Int) t) HE.out H11.out.1 H11.out.2.1 H11.out.2.2.2 hg9 H11.out.2.2.1 (Nat.le_refl _) HB.out
 case neg =>
 have HE0 := hide (show res = (if i + 1 < p.size ∧ punct5 (pb p (i + 1)) = true then .ok (bytT (oneS ic (pb p (i + 1)))) (i + 2) g else .bad 7 i) from by
  have h3 := HST.out.2 HC.out.symm
  rw [HRS.out]
  unfold atomB
  rw [← HC.out, if_neg (by decide), if_neg (by decide), if_pos rfl, if_neg h40, if_neg h3.1, if_neg h3.2.1, if_neg h3.2.2])
 clear HD HRS
 go_wp2_with fail
 refine (two_any p hp i (Nat.le_of_lt HI.out) 92 40 (by decide) (by decide) _ rfl _ rfl false (decide_eq_false (fun e => h40 e.2)) _).mono ?_
 intro e w1 h1
 rw [h1.1, h1.2]
 clear h1 w1
 clear h40
 by_cases hi1 : i + 1 < p.size
 case neg =>
  have HE := hide (HE0.out.trans (if_neg fun e => hi1 e.1))
  have g2 : decide ((p.size : Int) ≤ (i : Int) + 1) = true := decide_eq_true (by omega); have g2n : decide (p.size ≤ i + 1) = true := decide_eq_true (by omega)
  have HFt := hide (refFault_any (show RdS W gr B0 p (i : Int) fl (g : Int) ov 0 0 0 from H0.out.1) HBW.out 8 (i : Int))
  clear HE0
  go_wp2_with fail
  refine HFt.out.mono ?_
  rintro e w4 ⟨rfl, hE, hF⟩
  have H4 := hide (And.intro hE (And.intro (H0.out.2.1.trans hF) (hF.blk_ H0.out.2.2 (blk_ne6 H0.out.2.2 H0.out.1.box (by decide)) (H0.out.1.apart H0.out.2.2 (by decide)))))
  clear hE hF HFt c0 f0
  go_wp2_with (refine wpList_store_node rfl _ _ rfl y.heap.size _ ⟨0, 0, 0, 0, 0, 0, 0, 0, false⟩ none 0 0 rfl rfl H4.out.2.2 rfl ?_; intro w9 hrow9 hg9 hz9)
  refine bodyPost_ret (node_result rfl _ _ y.heap.size _ _ rfl hrow9) rfl ?_
  exact sbad (t := nilT) HE.out H4.out.1 H4.out.2.1 (T.In_iff.2 trivial) hg9 H4.out.2.2 (Nat.le_refl _) HB.out
 case pos =>
 obtain ⟨b, hb⟩ : ∃ b, b = pb p (i + 1) := ⟨_, rfl⟩
 have hpb2 : (p[i + 1]'hi1).toNat = b := by rw [hb, pb_at hi1]
 have hbl : b < 256 := by rw [hb]; exact pb_lt hi1
 rw [← hb] at HE0
 have HPu := hide (fun z => refPunct_any b hbl z)
 have HB2 := hide hb
 have g2 : decide ((p.size : Int) ≤ (i : Int) + 1) = false := decide_eq_false (by omega); have g2n : decide (p.size ≤ i + 1) = false := decide_eq_false (by omega)
 clear hb
 cases hpu : punct5 b with
 | false =>
  have HE := hide (HE0.out.trans (if_neg fun e => by rw [hpu] at e; cases e.2))
  rw [hpu] at HPu
  clear HE0 hpu
  go_wp2_with fail
  refine (HPu.out _).mono ?_
  rintro e w3 ⟨rfl, hb3⟩
  have H3 := hide (And.intro (H0.out.1.next hb3) (And.intro (H0.out.2.1.next HBW.out hb3) (H0.out.2.2.next hb3)))
  have HB3 := hide (Nat.le_trans HBW.out hb3.size)
  have HE12 := hide (show (i : Int) + 2 = ((i + 2 : Nat) : Int) from rfl)
  clear hb3 c0 f0 HPu
  have c0 := H3.out.1.box.cell
  have f0 := H3.out.1.box.frozen
  have HFt := hide (refFault_any (show RdS w3 gr B0 p (i : Int) fl (g : Int) ov 0 0 0 from H3.out.1) HB3.out 8 (i : Int))
  go_wp2_with fail
  refine HFt.out.mono ?_
  rintro e w4 ⟨rfl, hE, hF⟩
  have H4 := hide (And.intro hE (And.intro (H3.out.2.1.trans hF) (hF.blk_ H3.out.2.2 (blk_ne6 H3.out.2.2 H3.out.1.box (by decide)) (H3.out.1.apart H3.out.2.2 (by decide)))))
  clear hE hF HFt c0 f0
  go_wp2_with (refine wpList_store_node rfl _ _ rfl y.heap.size _ ⟨0, 0, 0, 0, 0, 0, 0, 0, false⟩ none 0 0 rfl rfl H4.out.2.2 rfl ?_; intro w9 hrow9 hg9 hz9)
  refine bodyPost_ret (node_result rfl _ _ y.heap.size _ _ rfl hrow9) rfl ?_
  exact sbad (t := nilT) HE.out H4.out.1 H4.out.2.1 (T.In_iff.2 trivial) hg9 H4.out.2.2 (Nat.le_refl _) HB.out
 | true =>
  have HE := hide (HE0.out.trans (if_pos ⟨hi1, hpu⟩))
  rw [hpu] at HPu
  clear HE0 hpu
  go_wp2_with fail
  refine (HPu.out _).mono ?_
  rintro e w3 ⟨rfl, hb3⟩
  have H3 := hide (And.intro (H0.out.1.next hb3) (And.intro (H0.out.2.1.next HBW.out hb3) (H0.out.2.2.next hb3)))
  have HB3 := hide (Nat.le_trans HBW.out hb3.size)
  have HE12 := hide (show (i : Int) + 2 = ((i + 2 : Nat) : Int) from rfl)
  clear hb3 c0 f0 HPu
  have c0 := H3.out.1.box.cell
  have f0 := H3.out.1.box.frozen
  clear g2 g2n
  go_upto_region 25 with fail
  rw [HE12.out]
  have H1 := hide (And.intro (show RdS (w3.setCell ⟨gr, 1, none⟩ (.int .i64 ((i + 2 : Nat) : Int))) gr B0 p ((i + 2 : Nat) : Int) fl (g : Int) ov 0 0 0 from H3.out.1.set 1 _) (And.intro (H3.out.2.1.set H3.out.1.base 1 (.int .i64 ((i + 2 : Nat) : Int))) (H3.out.2.2.far (blk_ne6 H3.out.2.2 H3.out.1.box (by decide)) (p := ⟨gr, 1, none⟩) (.int .i64 ((i + 2 : Nat) : Int)))))
  have HB1 := hide (show B0 ≤ (w3.setCell ⟨gr, 1, none⟩ (.int .i64 ((i + 2 : Nat) : Int))).heap.size from by rw [World.size_setCell]; exact HB3.out)
  generalize (w3.setCell ⟨gr, 1, none⟩ (.int .i64 ((i + 2 : Nat) : Int))) = W1 at *
  clear c0 f0
  have c0 := H1.out.1.box.cell
  have f0 := H1.out.1.box.frozen
  clear HC HI
  obtain ⟨n1, hn1⟩ : ∃ n1, n1 = i + 1 := ⟨_, rfl⟩
  have x1 : (i : Int) + 1 = (n1 : Int) := by omega
  have x2 : n1 < p.size := by omega
  have x3 : (p[n1]'x2).toNat = b := by rw [← pb_at x2, hn1]; exact HB2.out.symm
  have xw : IntKind.i64.wrap (n1 : Int) = (n1 : Int) := wrapI (by omega) (by omega)
  have x4 : (0 : Int) ≤ (n1 : Int) := by omega
  have x5 : (n1 : Int) < (p.size : Int) := by omega
  clear hpb2 hn1 HE1 HE12
  have HO1 := hide (fun z => refOne_any b hbl fl z)
  rw [← HIC.out] at HO1
  clear c0 f0
  refine wp_region_mix (fun z => RdS z gr B0 p ((i + 2 : Nat) : Int) fl (g : Int) ov 0 0 0) [] (by kernel_rfl) (fun hcl => ?_)
  generalize hz0 : W1.drew = z0
  have hbd : Below W1.heap.size W1 z0 := by rw [← hz0]; exact (Below.refl _ _).drew
  have HD := hide (And.intro (H1.out.2.1.next HB1.out hbd) (H1.out.2.2.next hbd))
  have HBD := hide (Nat.le_trans HB1.out hbd.size)
  have hS : RdS z0 gr B0 p ((i + 2 : Nat) : Int) fl (g : Int) ov 0 0 0 := H1.out.1.next hbd
  clear hz0 hbd
  refine wpAnyT_free (i := 0) hcl rfl (by kernel_rfl) (v := ?_) (fun _ _ _ h => h) hS (Or.inl ⟨rfl, fun w' _ => ?_⟩) (fun hcl => ?_)
  rotate_left
  ·go_simp
   with_reducible rfl
  simp only [List.getElem_toArray, List.getElem_cons_zero, List.getElem_cons_succ, Act.put, List.setIfInBounds_toArray, List.set_cons_zero, List.set_cons_succ]
  refine wpAnyT_free (i := 1) hcl rfl (by kernel_rfl) (v := ?_) (fun _ _ _ h => h) hS (Or.inl ⟨rfl, fun w' _ => ?_⟩) (fun hcl => ?_)
  rotate_left
  ·go_simp
   with_reducible rfl
  simp only [List.getElem_toArray, List.getElem_cons_zero, List.getElem_cons_succ, Act.put, List.setIfInBounds_toArray, List.set_cons_zero, List.set_cons_succ]
  refine wpAnyT_free (i := 2) hcl rfl (by kernel_rfl) (v := ?_) (fun _ _ _ h => h) hS (Or.inl ⟨rfl, fun w' _ => ?_⟩) (fun hcl => ?_)
  rotate_left
  ·go_simp
   with_reducible rfl
  simp only [List.getElem_toArray, List.getElem_cons_zero, List.getElem_cons_succ, Act.put, List.setIfInBounds_toArray, List.set_cons_zero, List.set_cons_succ]
  refine wpAnyT_take (i := 3) hcl rfl (by kernel_rfl) (v := ?_) (fun _ _ _ h => h) hS (Or.inl ⟨rfl, fun w' hS => ?_⟩) (fun hcl => ?_)
  rotate_left
  ·skip
   have cr : ∀ i : Nat, _ = _ := hS.box.cell
   go_simp
   with_reducible rfl
  simp only [List.getElem_toArray, List.getElem_cons_zero, List.getElem_cons_succ, Act.put, List.setIfInBounds_toArray, List.set_cons_zero, List.set_cons_succ]
  refine wpAnyT_free (i := 4) hcl rfl (by kernel_rfl) (v := ?_) (fun _ _ _ h => h) hS (Or.inl ⟨rfl, fun w' _ => ?_⟩) (fun hcl => ?_)
  rotate_left
  ·go_simp
   with_reducible rfl
  simp only [List.getElem_toArray, List.getElem_cons_zero, List.getElem_cons_succ, Act.put, List.setIfInBounds_toArray, List.set_cons_zero, List.set_cons_succ]
  refine wpAnyT_free (i := 5) hcl rfl (by kernel_rfl) (v := ?_) (fun _ _ _ h => h) hS (Or.inl ⟨rfl, fun w' _ => ?_⟩) (fun hcl => ?_)
  rotate_left
  ·go_simp
   with_reducible rfl
  simp only [List.getElem_toArray, List.getElem_cons_zero, List.getElem_cons_succ, Act.put, List.setIfInBounds_toArray, List.set_cons_zero, List.set_cons_succ]
  refine wpAnyT_free (i := 6) hcl rfl (by kernel_rfl) (v := ?_) (fun _ _ _ h => h) hS (Or.inl ⟨rfl, fun w' _ => ?_⟩) (fun hcl => ?_)
  rotate_left
  ·go_simp
   with_reducible rfl
  simp only [List.getElem_toArray, List.getElem_cons_zero, List.getElem_cons_succ, Act.put, List.setIfInBounds_toArray, List.set_cons_zero, List.set_cons_succ]
  refine wpAnyT_free (i := 7) hcl rfl (by kernel_rfl) (v := ?_) (fun _ _ _ h => h) hS (Or.inl ⟨rfl, fun w' _ => ?_⟩) (fun hcl => ?_)
  rotate_left
  ·go_simp
   with_reducible rfl
  simp only [List.getElem_toArray, List.getElem_cons_zero, List.getElem_cons_succ, Act.put, List.setIfInBounds_toArray, List.set_cons_zero, List.set_cons_succ]
  refine wpAnyT_free (i := 8) hcl rfl (by kernel_rfl) (v := ?_) (fun _ _ _ h => h) hS (Or.inl ⟨rfl, fun w' _ => ?_⟩) (fun hcl => ?_)
  rotate_left
  ·go_simp
   with_reducible rfl
  simp only [List.getElem_toArray, List.getElem_cons_zero, List.getElem_cons_succ, Act.put, List.setIfInBounds_toArray, List.set_cons_zero, List.set_cons_succ]
  refine wpAnyT_free (i := 9) hcl rfl (by kernel_rfl) (v := ?_) (fun _ _ _ h => h) hS (Or.inl ⟨rfl, fun w' _ => ?_⟩) (fun hcl => ?_)
  rotate_left
  ·go_simp
   with_reducible rfl
  simp only [List.getElem_toArray, List.getElem_cons_zero, List.getElem_cons_succ, Act.put, List.setIfInBounds_toArray, List.set_cons_zero, List.set_cons_succ]
  refine wpAnyT_take (i := 10) hcl rfl (by kernel_rfl) (v := ?_) (fun _ _ _ h => h) hS (Or.inl ⟨rfl, fun w' hS => ?_⟩) (fun hcl => ?_)
  rotate_left
  ·skip
   have cr : ∀ i : Nat, _ = _ := hS.box.cell
   go_simp
   with_reducible rfl
  simp only [List.getElem_toArray, List.getElem_cons_zero, List.getElem_cons_succ, Act.put, List.setIfInBounds_toArray, List.set_cons_zero, List.set_cons_succ]
  have HS0 := hide hS
  clear hS
  refine wpAnyT_step (i := 11) hcl rfl (by kernel_rfl) (fun hcl => ?_)
  simp only [List.getElem_toArray, List.getElem_cons_zero, List.getElem_cons_succ, Act.put, List.setIfInBounds_toArray, List.set_cons_zero, List.set_cons_succ]
  go_wp2_with fail
  refine (HO1.out _).mono ?_
  rintro e z1 ⟨rfl, hb⟩
  have H7 := hide (And.intro (HS0.out.next hb) (And.intro (HD.out.1.next HBD.out hb) (HD.out.2.next hb)))
  clear hb HO1
  go_wp2_with fail
  refine ⟨H7.out.1, ?_⟩
  refine wpAnyT_step (i := 12) hcl rfl (by kernel_rfl) (fun hcl => ?_)
  simp only [List.getElem_toArray, List.getElem_cons_zero, List.getElem_cons_succ, Act.put, List.setIfInBounds_toArray, List.set_cons_zero, List.set_cons_succ]
  refine wpList_store_node rfl _ _ rfl y.heap.size _ _ _ _ _ rfl rfl H7.out.2.2 rfl ?_
  intro w9 hrow9 hg9 hz9
  refine wpList_nil ?_
  refine ⟨RdG.grown H7.out.1 hg9 (fun e => (blk_ne6 H7.out.2.2 H7.out.1.box (by decide)) (Option.some.inj e)) (.inr (H7.out.1.apart H7.out.2.2 (by decide))), ?_⟩
  refine wpAnyT_done (by kernel_rfl) ?_ _
  go_wp2_with fail
  refine bodyPost_ret (node_result rfl _ _ y.heap.size _ _ rfl hrow9) rfl ?_
  exact sok (t := bytT (oneS ic b)) HE.out H7.out.1 H7.out.2.1 (T.In_iff.2 trivial) hg9 H7.out.2.2 (Nat.le_refl _) HB.out
end Go.Proofs.YtpkcklpjbeginaaGreatDoor

/-! ## RefBreC -/
namespace Go.Proofs.YtpkcklpjbeginaaGreatDoor
open Go.RowKit

/-- Where a piece ends that is an atom and its repeat. -/
theorem withRepB_at {p : ByteArray} {t t2 : T} {k q k2 q2 : Nat} (hk : k ≤ p.size) (h2 : withRep (repB p k) t k q = .ok t2 k2 q2) : k ≤ k2 ∧ k2 ≤ p.size ∧ q2 = q := by
 unfold withRep at h2
 cases hr : repB p k with
 | no => rw [hr] at h2; injection h2 with e1 e2 e3; omega
 | bad c => rw [hr] at h2; cases h2
 | yes a b n =>
  have := repB_next hr
  rw [hr] at h2
  simp only at h2
  split at h2
  ·cases h2
  ·injection h2 with e1 e2 e3; omega
section
variable {p : ByteArray} {ic nl : Bool} {deeper : Option (Nat → Nat → PR)} {star : Bool} {j g : Nat}
theorem atomB_star (h : pb p j = 42) (hs : star = false) : atomB p ic nl deeper star j g = .bad 8 j := by
 unfold atomB
 rw [h, if_neg (by decide), if_neg (by decide), if_neg (by decide), if_pos ⟨rfl, hs⟩]
theorem atomB_open (h : pb p j = 92) (h2 : pb p (j + 1) = 123) : atomB p ic nl deeper star j g = .bad 8 j := by
 have hi := pb_ins h2 (by decide)
 unfold atomB
 rw [h, h2, if_neg (by decide), if_neg (by decide), if_pos rfl, if_pos ⟨hi, by kernel_rfl⟩, if_neg (by decide), if_neg (by decide), if_pos rfl]
theorem atomB_shut (h : pb p j = 92) (h2 : pb p (j + 1) = 125) : atomB p ic nl deeper star j g = .bad 2 j := by
 have hi := pb_ins h2 (by decide)
 unfold atomB
 rw [h, h2, if_neg (by decide), if_neg (by decide), if_pos rfl, if_pos ⟨hi, by kernel_rfl⟩, if_neg (by decide), if_neg (by decide), if_neg (by decide), if_pos rfl]
theorem atomB_end (h : pb p j = 92) (h2 : pb p (j + 1) = 41) : atomB p ic nl deeper star j g = .bad 1 j := by
 have hi := pb_ins h2 (by decide)
 unfold atomB
 rw [h, h2, if_neg (by decide), if_neg (by decide), if_pos rfl, if_pos ⟨hi, by kernel_rfl⟩, if_neg (by decide), if_pos rfl]
end
set_option maxRecDepth 100000 in
set_option maxHeartbeats 12000000 in
theorem refPieces_any {y : World} {gr B0 : Nat} {p : ByteArray} {i : Nat} {fl : Int} {g : Nat} {ov : Value} {dp : Nat} {deeper : Option (Nat → Nat → PR)} (hdp : dp ≤ 32)
  (hD : (deeper = none ∧ dp = 32) ∨ ∃ f, deeper = some f ∧ dp < 32 ∧ PieR B0 gr p fl (dp + 1) f ∧ ∀ i g, i ≤ p.size → (f i g).Fine p i g 0) (hdf : DFine p deeper)
  (h : RdS y gr B0 p (i : Int) fl (g : Int) ov 0 0 0) (hp : p.size ≤ 1024) (hi : i ≤ p.size) (hgi : g ≤ i) (hB0 : B0 ≤ y.heap.size) :
  Calls Tryz.prog 46 #[.pointer (some ⟨gr, 0, none⟩), .int .i64 (dp : Int)] y (SPost B0 gr p fl 0 (fun b => y.heap.size ≤ b) ov y (pattB p (!decide (bits .and .i64 fl 2 = 0)) (!decide (bits .and .i64 fl 4 = 0)) deeper (decide (0 < dp)) (p.size + 1) true true i g [])) := by
 have HPa := hide (fun (y' : World) (ov' : Value) (j g' : Nat) (star : Bool) (hs : ¬ (pb p j = 42 ∧ star = false)) (hb : pb p j = 92 → pb p (j + 1) ≠ 41 ∧ pb p (j + 1) ≠ 123 ∧ pb p (j + 1) ≠ 125) (h' : RdS y' gr B0 p (j : Int) fl (g' : Int) ov' 0 0 0) (hj : j < p.size) (hgj : g' ≤ j) (hB' : B0 ≤ y'.heap.size) => And.intro (refAtomB_any hD h' hp hj hgj hB' star hs hb) (atomB_fine (ic := !decide (bits .and .i64 fl 2 = 0)) (nl := !decide (bits .and .i64 fl 4 = 0)) hdf star (i := j) (g := g') hj))
 clear hD
 obtain ⟨ic, hic⟩ : ∃ ic, ic = !decide (bits .and .i64 fl 2 = 0) := ⟨_, rfl⟩
 obtain ⟨nl, hnl⟩ : ∃ nl, nl = !decide (bits .and .i64 fl 4 = 0) := ⟨_, rfl⟩
 rw [← hic, ← hnl] at HPa ⊢
 clear hic hnl hdf
 have hz0 := Blk.new y 27 zeroCells
 have hbel := (Below.refl y.heap.size y).alloc (Nat.le_refl _) (.cells zeroCells 27)
 have H0 := hide (And.intro (h.next hbel) (And.intro (RdF.of_below (gr := gr) (x := ov.ownBlock) hB0 hbel) hz0))
 have HB := hide hB0
 have HGY := hide h.box.lt
 clear hz0 hbel h hB0
 unfold zeroCells at *
 have HZ := hide (World.size_alloc y (.cells #[.int .i64 0, .int .u64 0, .int .u64 0, .int .u64 0, .int .u64 0, .slice none 0 0, .int .i64 0, .int .i64 0, .int .i64 0, .bool false] 27))
 obtain ⟨res, hres⟩ : ∃ res, res = pattB p ic nl deeper (decide (0 < dp)) (p.size + 1) true true i g [] := ⟨_, rfl⟩
 rw [← hres]
 have HRS := hide hres
 clear hres
 have HGR := hide (show gr < y.heap.size + 1 from Nat.lt_succ_of_lt HGY.out)
 go_enter Tryz.func46, Tryz.ntmps46
 go_upto_region 1 with fail
 generalize (y.alloc (.cells #[.int .i64 0, .int .u64 0, .int .u64 0, .int .u64 0, .int .u64 0, .slice none 0 0, .int .i64 0, .int .i64 0, .int .i64 0, .bool false] 27)) = W at *
 go_wp2_with fail
 go_loopw [5, 6, 7] (fun lv fv bv wr => (∃ (j g' n : Nat) (acc : List T) (ov' : Value) (front begun star : Bool), fv = .bool front ∧ bv = .bool begun ∧ star = (front || begun) ∧ LpS B0 gr p fl 0 ov y wr lv (j : Int) (g' : Int) 0 0 acc ov' ∧ i ≤ j ∧ j ≤ p.size ∧ g' ≤ j ∧ acc.length ≤ j ∧ p.size + 1 ≤ n + j ∧ pattB p ic nl deeper (decide (0 < dp)) n front star j g' acc = res) ∨ (∃ (c : Nat) (I G pl : Int) (acc : List T) (ov' : Value), LpS B0 gr p fl 0 ov y wr lv I G ((c + 1 : Nat) : Int) pl acc ov' ∧ acc.length ≤ 5000 ∧ res = .bad c pl)) (fun _ _ _ wr => rsLeft gr p wr)
 case atStart => exact .inl ⟨i, g, p.size + 1, [], ov, true, false, true, rfl, rfl, rfl, ⟨H0.out.1, H0.out.2.1, H0.out.2.2, GrowX.nil _ _ _⟩, Nat.le_refl _, hi, hgi, Nat.zero_le _, by omega, HRS.out.symm⟩
 case round =>
  rcases hrel with ⟨j, g', n, acc, ov', front, begun, star, rfl, rfl, hstar, hlp, hij, hjp, hgj, hac, hn, hbr⟩ | ⟨c, I, G, pl, acc, ov', hlp, hac, hbr⟩
  case inr => as_aux_lemma =>
   have HL := hide hlp
   have HE := hide hbr
   have HBr := hide (Nat.le_trans HB.out hlp.fr.below.size)
   obtain ⟨cd, hcd⟩ : ∃ cd : Int, cd = ((c + 1 : Nat) : Int) := ⟨_, rfl⟩
   have gc : (cd == 0) = false := by rw [beq_eq_false_iff_ne]; omega
   have HCD := hide hcd
   clear hlp hbr
   go_upto_region 4 with fail
   go_cut [42] (fun v42 wx => v42 = .bool false ∧ Below wr.heap.size wr wx)
   case first =>
    have HHs := hide (fun (x : Later wr) => (two_any p hp 0 (Nat.zero_le _) 92 41 (by decide) (by decide) 92 rfl 41 rfl _ rfl x.val).mono fun e w' hh => show e = _ ∧ Below x.val.heap.size x.val w' from ⟨hh.1, hh.2 ▸ Below.refl _ _⟩)
    have c0 := fun (x : Later wr) => (HL.out.rd.next x.2).box.cell
    rw [← hcd] at c0
    clear hcd
    refine wp_region_later (by kernel_rfl) (by kernel_rfl) ?_
    repeat (go_big_quiet_step (with_reducible exact calls_later (HHs.out _)))
    refine wpQuiet_nil ?_
    intro w6 hw6
    obtain ⟨x, hxe⟩ := hw6
    have hbq : Below wr.heap.size wr w6 := hxe ▸ x.2
    have HBQ := hide hbq
    clear hxe x c0 HHs hbq
    go_wp2_with fail
    go_meet
    case rel => exact ⟨rfl, HBQ.out⟩
   case rest =>
   rename World => wa
   obtain ⟨hv42, hbq⟩ := hcut
   subst hv42
   have HLa := hide (HL.out.next HBr.out hbq)
   have HBa := hide (Nat.le_trans HBr.out hbq.size)
   clear hbq HL HBr hcd gc
   have HL := HLa
   have HBr := HBa
   go_upto_region 27 with fail
   obtain ⟨Al, cl, hlv, hinl⟩ := HL.out.gx.in_
   subst hlv
   have hsq := refSeveral_any 5 acc Al cl _ wa (fun b hb => hb.2.1) hinl (by omega)
   rw [sev_seq] at hsq
   have HSq := hide hsq
   clear hinl hsq
   go_wp2_with fail
   refine HSq.out.mono ?_
   rintro e wq ⟨B2, c2, rfl, hin2, hbf⟩
   have HL2 := hide (HL.out.next HBr.out hbf)
   have HT2 := hide hin2
   have HZ2 := hide (show y.heap.size + 1 ≤ wa.heap.size ∧ wa.heap.size ≤ wq.heap.size from ⟨HL.out.bx.lt, hbf.size⟩)
   clear hin2 hbf HSq
   go_wp2_with (refine wpList_store_node rfl _ _ rfl y.heap.size _ _ _ _ _ rfl rfl HL2.out.bx rfl ?_; intro w9 hrow9 hg9 hz9)
   refine bodyPost_ret (node_result rfl _ _ y.heap.size _ _ rfl hrow9) rfl ?_
   exact sbad (t := T.seq acc) HE.out HL2.out.rd HL2.out.fr (HT2.out.same (Same.refl _ _) fun b hb => ⟨by have := hb.1; omega, by have h1 := hb.2.1; have h2 := HZ2.out.2; omega, hb.2.2, by have := hb.1; omega⟩) hg9 HL2.out.bx (Nat.le_refl _) HB.out
  case inl =>
   have HL := hide hlp
   have HE := hide hbr
   have HBr := hide (Nat.le_trans HB.out hlp.fr.below.size)
   have HMs := hide (rsLeft_ok hlp.rd)
   have HST := hide hstar
   clear hlp hbr hstar
   cases n with
   | zero => omega
   | succ n =>
   rw [pattB] at HE
   obtain ⟨cb, hcb⟩ : ∃ cb : Bool, cb = (decide (j < p.size) && !(decide (0 < dp) && decide (pb p j = 92 ∧ pb p (j + 1) = 41))) := ⟨_, rfl⟩
   have HCB := hide hcb
   clear hcb
   go_upto_region 4 with fail
   go_cut [42] (fun v42 wx => v42 = .bool cb ∧ Below wr.heap.size wr wx)
   case first => as_aux_lemma =>
    obtain ⟨bh, hbh⟩ : ∃ bh, bh = decide (pb p j = 92 ∧ pb p (j + 1) = 41) := ⟨_, rfl⟩
    have HHs := hide (fun (x : Later wr) => (two_any p hp j hjp 92 41 (by decide) (by decide) 92 rfl 41 rfl bh hbh.symm x.val).mono fun e w' hh => show e = _ ∧ Below x.val.heap.size x.val w' from ⟨hh.1, hh.2 ▸ Below.refl _ _⟩)
    have c0 := fun (x : Later wr) => (HL.out.rd.next x.2).box.cell
    rw [← hbh] at HCB
    clear hbh HE
    by_cases hj : j < p.size
    case neg =>
     have g1 : decide ((j : Int) < (p.size : Int)) = false := decide_eq_false (by omega)
     have q1 : decide (j < p.size) = false := decide_eq_false hj
     have HX := hide (show cb = false from by rw [HCB.out, q1]; rfl)
     refine wp_region_later (by kernel_rfl) (by kernel_rfl) ?_
     repeat (go_big_quiet_step (with_reducible exact calls_later (HHs.out _)))
     refine wpQuiet_nil ?_
     intro w6 hw6
     obtain ⟨x, hxe⟩ := hw6
     have hbq : Below wr.heap.size wr w6 := hxe ▸ x.2
     have HBQ := hide hbq
     clear hxe x c0 HHs hbq
     go_wp2_with fail
     go_meet
     case rel => exact ⟨by rw [HX.out], HBQ.out⟩
    case pos =>
    have g1 : decide ((j : Int) < (p.size : Int)) = true := decide_eq_true (by omega)
    have q1 : decide (j < p.size) = true := decide_eq_true hj
    by_cases hdn : 0 < dp
    case neg =>
     have g2 : decide ((0 : Int) < (dp : Int)) = false := decide_eq_false (by omega)
     have q2 : decide (0 < dp) = false := decide_eq_false hdn
     have HX := hide (show cb = true from by rw [HCB.out, q1, q2]; rfl)
     refine wp_region_later (by kernel_rfl) (by kernel_rfl) ?_
     repeat (go_big_quiet_step (with_reducible exact calls_later (HHs.out _)))
     refine wpQuiet_nil ?_
     intro w6 hw6
     obtain ⟨x, hxe⟩ := hw6
     have hbq : Below wr.heap.size wr w6 := hxe ▸ x.2
     have HBQ := hide hbq
     clear hxe x c0 HHs hbq
     go_wp2_with fail
     go_meet
     case rel => exact ⟨by rw [HX.out], HBQ.out⟩
    case pos =>
    have g2 : decide ((0 : Int) < (dp : Int)) = true := decide_eq_true (by omega)
    have q2 : decide (0 < dp) = true := decide_eq_true hdn
    cases bh with
    | false =>
     have HX := hide (show cb = true from by rw [HCB.out, q1, q2]; rfl)
     refine wp_region_later (by kernel_rfl) (by kernel_rfl) ?_
     repeat (go_big_quiet_step (with_reducible exact calls_later (HHs.out _)))
     refine wpQuiet_nil ?_
     intro w6 hw6
     obtain ⟨x, hxe⟩ := hw6
     have hbq : Below wr.heap.size wr w6 := hxe ▸ x.2
     have HBQ := hide hbq
     clear hxe x c0 HHs hbq
     go_wp2_with fail
     go_meet
     case rel => exact ⟨by rw [HX.out], HBQ.out⟩
    | true =>
     have HX := hide (show cb = false from by rw [HCB.out, q1, q2]; rfl)
     refine wp_region_later (by kernel_rfl) (by kernel_rfl) ?_
     repeat (go_big_quiet_step (with_reducible exact calls_later (HHs.out _)))
     refine wpQuiet_nil ?_
     intro w6 hw6
     obtain ⟨x, hxe⟩ := hw6
     have hbq : Below wr.heap.size wr w6 := hxe ▸ x.2
     have HBQ := hide hbq
     clear hxe x c0 HHs hbq
     go_wp2_with fail
     go_meet
     case rel => exact ⟨by rw [HX.out], HBQ.out⟩
   case rest =>
   rename World => wa
   obtain ⟨hv42, hbq⟩ := hcut
   subst hv42
   have HLa := hide (HL.out.next HBr.out hbq)
   have HBa := hide (Nat.le_trans HBr.out hbq.size)
   clear hbq HL HBr
   have HL := HLa
   have HBr := HBa
   clear HLa HBa
   have c0 := HL.out.rd.box.cell
   cases cb with
   | false =>
    have HE2 := hide (show res = .ok (T.seq acc) j g' from by
     rw [← HE.out, if_pos]
     have h1 := HCB.out
     by_cases hj : j < p.size
     ·refine .inr ?_
      rw [decide_eq_true hj] at h1
      simp only [Bool.true_and] at h1
      have h2 : (decide (0 < dp) && decide (pb p j = 92 ∧ pb p (j + 1) = 41)) = true := by
       cases hc : (decide (0 < dp) && decide (pb p j = 92 ∧ pb p (j + 1) = 41)) with
       | true => rfl
       | false => rw [hc] at h1; cases h1
      simp only [Bool.and_eq_true, decide_eq_true_eq] at h2
      exact ⟨decide_eq_true h2.1, h2.2.1, h2.2.2⟩
     ·exact .inl hj)
    go_upto_region 27 with fail
    clear c0
    obtain ⟨Al, cl, hlv, hinl⟩ := HL.out.gx.in_
    subst hlv
    have hsq := refSeveral_any 5 acc Al cl _ wa (fun b hb => hb.2.1) hinl (by omega)
    rw [sev_seq] at hsq
    have HSq := hide hsq
    clear hinl hsq
    go_wp2_with fail
    refine HSq.out.mono ?_
    rintro e wq ⟨B2, c2, rfl, hin2, hbf⟩
    have HL2 := hide (HL.out.next HBr.out hbf)
    have HT2 := hide hin2
    have HZ2 := hide (show y.heap.size + 1 ≤ wa.heap.size ∧ wa.heap.size ≤ wq.heap.size from ⟨HL.out.bx.lt, hbf.size⟩)
    clear hin2 hbf HSq
    go_wp2_with (refine wpList_store_node rfl _ _ rfl y.heap.size _ _ _ _ _ rfl rfl HL2.out.bx rfl ?_; intro w9 hrow9 hg9 hz9)
    refine bodyPost_ret (node_result rfl _ _ y.heap.size _ _ rfl hrow9) rfl ?_
    exact sok (t := T.seq acc) HE2.out HL2.out.rd HL2.out.fr (HT2.out.same (Same.refl _ _) fun b hb => ⟨by have := hb.1; omega, by have h1 := hb.2.1; have h2 := HZ2.out.2; omega, hb.2.2, by have := hb.1; omega⟩) hg9 HL2.out.bx (Nat.le_refl _) HB.out
   | true =>
   have hcont : j < p.size ∧ ¬ (decide (0 < dp) = true ∧ pb p j = 92 ∧ pb p (j + 1) = 41) := by
    have h1 := HCB.out.symm
    simp only [Bool.and_eq_true, decide_eq_true_eq] at h1
    refine ⟨h1.1, fun hh => ?_⟩
    have h2 := h1.2
    rw [hh.1, decide_eq_true hh.2] at h2
    cases h2
   have hj := hcont.1
   have HE2 := hide ((if_neg (fun hh => hh.elim (fun h1 => h1 hj) hcont.2)).symm.trans HE.out)
   clear hcont HE HCB
   obtain ⟨fb, hfb⟩ : ∃ fb : Bool, fb = (front && decide (pb p j = 94)) := ⟨_, rfl⟩
   have HFB := hide hfb
   clear hfb
   go_upto_region 10 with fail
   go_cut [62] (fun v62 wx => v62 = .bool fb ∧ wx = wa)
   case first =>
    cases front with
    | false =>
     have HX := hide (show fb = false from HFB.out)
     go_wp2_with fail
     go_meet
     case rel => exact ⟨by rw [HX.out], rfl⟩
    | true =>
     have HX := hide (show fb = decide (pb p j = 94) from by rw [HFB.out]; rfl)
     have HIs := hide (refIsZ_any HL.out.rd j 94 (by decide) hp 94 rfl fb HX.out.symm)
     go_wp2_with fail
     refine HIs.out.mono ?_
     intro e w1 h1
     rw [h1.1, h1.2]
     clear h1 w1 HIs
     go_wp2_with fail
     go_meet
     case rel => exact ⟨rfl, rfl⟩
   case rest =>
   obtain ⟨hv62, hwx⟩ := hcut
   subst hv62
   obtain rfl := hwx.symm
   cases fb with
   | true =>
    have hff := HFB.out.symm
    rw [Bool.and_eq_true] at hff
    have HE3 := hide (show pattB p ic nl deeper (decide (0 < dp)) n false star (j + 1) g' (acc ++ [begT]) = res from by rw [← HE2.out, if_pos ⟨hff.1, of_decide_eq_true hff.2⟩])
    have HS2 := hide (show star = (false || true) from by rw [HST.out, hff.1]; rfl)
    clear hff HE2 HFB
    have HQ0 := hide (And.intro HL.out.rd (And.intro HL.out.fr (And.intro HL.out.bx (And.intro HL.out.gx (show T.In wa (fun b => y.heap.size + 1 ≤ b ∧ b < wa.heap.size ∧ some b ≠ u5.ownBlock ∧ ov'.ownBlock ≠ some b) begT none from T.In_iff.2 trivial)))))
    have HBw := HBr
    clear HPa
    go_upto_region 11 with fail
    have hal := (Below.refl wa.heap.size wa).alloc (Nat.le_refl _) (.cells #[.int .i64 3, .int .u64 0, .int .u64 0, .int .u64 0, .int .u64 0, .slice none 0 0, .int .i64 0, .int .i64 0, .int .i64 0, .bool false] 27)
    have HQ := hide (And.intro (HQ0.out.1.next hal) (And.intro (HQ0.out.2.1.next HBw.out hal) (And.intro (HQ0.out.2.2.1.next hal) (And.intro (HQ0.out.2.2.2.1.next hal) (HQ0.out.2.2.2.2.same (ok' := fun b => y.heap.size + 1 ≤ b ∧ b < (wa.alloc (.cells #[.int .i64 3, .int .u64 0, .int .u64 0, .int .u64 0, .int .u64 0, .slice none 0 0, .int .i64 0, .int .i64 0, .int .i64 0, .bool false] 27)).heap.size ∧ some b ≠ u5.ownBlock ∧ ov'.ownBlock ≠ some b) ((same_of_below hal).mono fun b hb => hb.2.1) fun b hb => ⟨hb.1, Nat.lt_of_lt_of_le hb.2.1 hal.size, hb.2.2⟩)))))
    have HBz := hide (fun b (hb : ov'.ownBlock = some b) => (HQ.out.1.lt b hb).2)
    have HBs := hide (show y.heap.size + 1 ≤ (wa.alloc (.cells #[.int .i64 3, .int .u64 0, .int .u64 0, .int .u64 0, .int .u64 0, .slice none 0 0, .int .i64 0, .int .i64 0, .int .i64 0, .bool false] 27)).heap.size from HQ.out.2.2.1.lt)
    have hll : acc.length < 1000000 := by omega
    clear hal
    go_wp2_with (at_builtin; refine wpList_append_nodeX rfl _ _ rfl (y.heap.size + 1) _ _ acc rfl HQ.out.2.2.2.1 HBz.out (begT) none 0 wa.heap.size 1 rfl (Blk.new _ _ _) HQ.out.2.2.2.2 hll HBs.out ?_)
    intro v5 w5 hgx5 hg5
    have hap := HQ.out.2.2.2.1.apart
    have hlt := HQ.out.2.2.2.1.lt
    have hgr := HGR.out
    have n1 : u5.ownBlock ≠ some gr := fun e => by have := (hlt gr e).1; omega
    have n2 : u5.ownBlock ≠ some y.heap.size := fun e => by have := (hlt _ e).1; omega
    have HF := hide (show LpS B0 gr p fl 0 ov y w5 v5 (j : Int) (g' : Int) 0 0 (acc ++ [begT]) ov' from ⟨HQ.out.1.grown hg5 n1 (by
      by_cases hov : ov'.ownBlock = none
      ·exact .inl hov
      ·refine .inr fun e => ?_
       cases hl : u5.ownBlock with
       | none => rw [hl] at e; exact hov e
       | some b => rw [hl] at e; exact hap b hl e), HQ.out.2.1.grown hg5 (fun b e => by have := (hlt b e).1; omega) HB.out, HQ.out.2.2.1.grown hg5 (fun e => n2 e.symm), hgx5⟩)
    clear hgx5 hg5 hap hlt hgr n1 n2
    have c5 := HF.out.rd.box.cell
    have f5 := HF.out.rd.box.frozen
    have HE1 := hide (show (j : Int) + 1 = ((j + 1 : Nat) : Int) from rfl)
    clear HQ0 HQ c0
    go_wp2_with fail
    rw [HE1.out]
    have HF2 := hide (HF.out.step HGY.out ((j + 1 : Nat) : Int))
    clear c5 f5 HF
    go_roundw
    case rel => exact .inl ⟨j + 1, g', n, acc ++ [begT], ov', false, true, star, rfl, rfl, HS2.out, HF2.out, by omega, by omega, by omega, by simp; omega, by omega, HE3.out⟩
    case measure => rw [rsLeft_ok HF2.out.rd, HMs.out]; omega
   | false =>
   have hnf : ¬ (front = true ∧ pb p j = 94) := fun hh => by have h1 := HFB.out; rw [hh.1, decide_eq_true hh.2] at h1; cases h1
   have HE3 := hide ((if_neg hnf).symm.trans HE2.out)
   clear hnf HE2 HFB
   have HE2 := HE3
   clear HE3
   obtain ⟨eb, heb⟩ : ∃ eb : Bool, eb = decide (pb p j = 36 ∧ (j + 1 = p.size ∨ (pb p (j + 1) = 92 ∧ pb p (j + 2) = 41))) := ⟨_, rfl⟩
   have HEB := hide heb
   clear heb
   go_upto_region 15 with fail
   go_cut [80] (fun v80 wx => v80 = .bool eb ∧ wx = wa)
   case first =>
    by_cases h36 : pb p j = 36
    case neg =>
     have HX := hide (show eb = false from by rw [HEB.out]; exact decide_eq_false (fun hh => h36 hh.1))
     go_wp2_with fail
     refine (refIsZ_any HL.out.rd j 36 (by decide) hp 36 rfl false (decide_eq_false h36)).mono ?_
     intro e w1 h1
     rw [h1.1, h1.2]
     clear h1 w1
     go_wp2_with fail
     go_meet
     case rel => exact ⟨by rw [HX.out], rfl⟩
    case pos =>
    obtain ⟨m, hm⟩ : ∃ m, p.size = m + 1 := ⟨p.size - 1, by omega⟩
    have m1 : (p.size : Int) - 1 = (m : Int) := by omega
    by_cases hend : j + 1 = p.size
    case pos =>
     have HX := hide (show eb = true from by rw [HEB.out]; exact decide_eq_true ⟨h36, .inl hend⟩)
     have g1 : ((j : Int) == (m : Int)) = true := by rw [beq_iff_eq]; omega
     have g1n : (j == m) = true := by rw [beq_iff_eq]; omega
     have HM := hide hm
     clear hm
     go_wp2_with fail
     refine (refIsZ_any HL.out.rd j 36 (by decide) hp 36 rfl true (decide_eq_true h36)).mono ?_
     intro e w1 h1
     rw [h1.1, h1.2]
     clear h1 w1
     go_wp2_with fail
     go_meet
     case rel => exact ⟨by rw [HX.out], rfl⟩
    case neg =>
     have g1 : ((j : Int) == (m : Int)) = false := by rw [beq_eq_false_iff_ne]; omega
     have g1n : (j == m) = false := by rw [beq_eq_false_iff_ne]; omega
     obtain ⟨j1, hj1⟩ : ∃ j1, j1 = j + 1 := ⟨_, rfl⟩
     have m2 : (j : Int) + 1 = (j1 : Int) := by omega
     have HTw := hide (fun z => two_any p hp j1 (by omega) 92 41 (by decide) (by decide) 92 rfl 41 rfl eb (by rw [HEB.out, hj1]; congr 1; exact propext ⟨fun hh => ⟨h36, .inr hh⟩, fun hh => hh.2.resolve_left hend⟩) z)
     have HM := hide hm
     have HJ1 := hide hj1
     clear hm hj1
     go_wp2_with fail
     refine (refIsZ_any HL.out.rd j 36 (by decide) hp 36 rfl true (decide_eq_true h36)).mono ?_
     intro e w1 h1
     rw [h1.1, h1.2]
     clear h1 w1
     go_wp2_with fail
     refine (HTw.out _).mono ?_
     intro e w1 h1
     rw [h1.1, h1.2]
     clear h1 w1 HTw
     go_wp2_with fail
     go_meet
     case rel => exact ⟨rfl, rfl⟩
   case rest =>
   obtain ⟨hv80, hwx⟩ := hcut
   subst hv80
   obtain rfl := hwx.symm
   cases eb with
   | true =>
    have HE3 := hide (show pattB p ic nl deeper (decide (0 < dp)) n false false (j + 1) g' (acc ++ [endT]) = res from by rw [← HE2.out, if_pos (of_decide_eq_true HEB.out.symm)])
    clear HE2 HEB
    have HQ0 := hide (And.intro HL.out.rd (And.intro HL.out.fr (And.intro HL.out.bx (And.intro HL.out.gx (show T.In wa (fun b => y.heap.size + 1 ≤ b ∧ b < wa.heap.size ∧ some b ≠ u5.ownBlock ∧ ov'.ownBlock ≠ some b) endT none from T.In_iff.2 trivial)))))
    have HBw := HBr
    clear HPa
    go_upto_region 16 with fail
    have hal := (Below.refl wa.heap.size wa).alloc (Nat.le_refl _) (.cells #[.int .i64 4, .int .u64 0, .int .u64 0, .int .u64 0, .int .u64 0, .slice none 0 0, .int .i64 0, .int .i64 0, .int .i64 0, .bool false] 27)
    have HQ := hide (And.intro (HQ0.out.1.next hal) (And.intro (HQ0.out.2.1.next HBw.out hal) (And.intro (HQ0.out.2.2.1.next hal) (And.intro (HQ0.out.2.2.2.1.next hal) (HQ0.out.2.2.2.2.same (ok' := fun b => y.heap.size + 1 ≤ b ∧ b < (wa.alloc (.cells #[.int .i64 4, .int .u64 0, .int .u64 0, .int .u64 0, .int .u64 0, .slice none 0 0, .int .i64 0, .int .i64 0, .int .i64 0, .bool false] 27)).heap.size ∧ some b ≠ u5.ownBlock ∧ ov'.ownBlock ≠ some b) ((same_of_below hal).mono fun b hb => hb.2.1) fun b hb => ⟨hb.1, Nat.lt_of_lt_of_le hb.2.1 hal.size, hb.2.2⟩)))))
    have HBz := hide (fun b (hb : ov'.ownBlock = some b) => (HQ.out.1.lt b hb).2)
    have HBs := hide (show y.heap.size + 1 ≤ (wa.alloc (.cells #[.int .i64 4, .int .u64 0, .int .u64 0, .int .u64 0, .int .u64 0, .slice none 0 0, .int .i64 0, .int .i64 0, .int .i64 0, .bool false] 27)).heap.size from HQ.out.2.2.1.lt)
    have hll : acc.length < 1000000 := by omega
    clear hal
    go_wp2_with (at_builtin; refine wpList_append_nodeX rfl _ _ rfl (y.heap.size + 1) _ _ acc rfl HQ.out.2.2.2.1 HBz.out (endT) none 0 wa.heap.size 1 rfl (Blk.new _ _ _) HQ.out.2.2.2.2 hll HBs.out ?_)
    intro v5 w5 hgx5 hg5
    have hap := HQ.out.2.2.2.1.apart
    have hlt := HQ.out.2.2.2.1.lt
    have hgr := HGR.out
    have n1 : u5.ownBlock ≠ some gr := fun e => by have := (hlt gr e).1; omega
    have n2 : u5.ownBlock ≠ some y.heap.size := fun e => by have := (hlt _ e).1; omega
    have HF := hide (show LpS B0 gr p fl 0 ov y w5 v5 (j : Int) (g' : Int) 0 0 (acc ++ [endT]) ov' from ⟨HQ.out.1.grown hg5 n1 (by
      by_cases hov : ov'.ownBlock = none
      ·exact .inl hov
      ·refine .inr fun e => ?_
       cases hl : u5.ownBlock with
       | none => rw [hl] at e; exact hov e
       | some b => rw [hl] at e; exact hap b hl e), HQ.out.2.1.grown hg5 (fun b e => by have := (hlt b e).1; omega) HB.out, HQ.out.2.2.1.grown hg5 (fun e => n2 e.symm), hgx5⟩)
    clear hgx5 hg5 hap hlt hgr n1 n2
    have c5 := HF.out.rd.box.cell
    have f5 := HF.out.rd.box.frozen
    have HE1 := hide (show (j : Int) + 1 = ((j + 1 : Nat) : Int) from rfl)
    clear HQ0 HQ c0
    go_wp2_with fail
    rw [HE1.out]
    have HF2 := hide (HF.out.step HGY.out ((j + 1 : Nat) : Int))
    clear c5 f5 HF
    go_roundw
    case rel => exact .inl ⟨j + 1, g', n, acc ++ [endT], ov', false, false, false, rfl, rfl, rfl, HF2.out, by omega, by omega, by omega, by simp; omega, by omega, HE3.out⟩
    case measure => rw [rsLeft_ok HF2.out.rd, HMs.out]; omega
   | false =>
   have HE3 := hide ((if_neg (of_decide_eq_false HEB.out.symm)).symm.trans HE2.out)
   clear HE2 HEB
   obtain ⟨sb, hsb⟩ : ∃ sb : Bool, sb = decide (pb p j = 42 ∧ star = false) := ⟨_, rfl⟩
   have HSB := hide hsb
   clear hsb
   go_upto_region 18 with fail
   go_cut [114] (fun v114 wx => v114 = .bool sb ∧ wx = wa)
   case first =>
    by_cases h42 : pb p j = 42
    case neg =>
     have HX := hide (show sb = false from by rw [HSB.out]; exact decide_eq_false (fun hh => h42 hh.1))
     go_wp2_with fail
     refine (refIsZ_any HL.out.rd j 42 (by decide) hp 42 rfl false (decide_eq_false h42)).mono ?_
     intro e w1 h1
     rw [h1.1, h1.2]
     clear h1 w1
     go_wp2_with fail
     go_meet
     case rel => exact ⟨by rw [HX.out], rfl⟩
    case pos =>
     have HX := hide (show sb = (!front && !begun) from by rw [HSB.out, HST.out]; cases front <;> cases begun <;> simp [h42])
     cases front <;> cases begun
     all_goals
      go_wp2_with fail
      refine (refIsZ_any HL.out.rd j 42 (by decide) hp 42 rfl true (decide_eq_true h42)).mono ?_
      intro e w1 h1
      rw [h1.1, h1.2]
      clear h1 w1
      go_wp2_with fail
      go_meet
      case rel => exact ⟨by first | (rw [HX.out]; done) | (rw [HX.out]; rfl) | simp_all, rfl⟩
   case rest =>
   obtain ⟨hv114, hwx⟩ := hcut
   subst hv114
   obtain rfl := hwx.symm
   cases sb with
   | true =>
    have hs4 := of_decide_eq_true HSB.out.symm
    have HE4 := hide (show res = .bad 8 j from by rw [← HE3.out]; unfold pieceB; rw [atomB_star hs4.1 hs4.2])
    have HFt := hide (refFault_any (show RdS wa gr B0 p (j : Int) fl (g' : Int) ov' 0 0 0 from HL.out.rd) HBr.out 9 (j : Int))
    clear HE3 HPa
    go_wp2_with fail
    refine HFt.out.mono ?_
    rintro e wf ⟨rfl, hE, hF⟩
    have HLb := hide (HL.out.fault HGY.out hE hF)
    clear hE hF HFt c0
    go_wp2_with fail
    go_roundw
    case rel => exact .inr ⟨8, j, g', j, acc, ov', HLb.out, by omega, HE4.out⟩
    case measure => rw [rsLeft_bad (c := 8) HLb.out.rd, HMs.out]; omega
   | false =>
   have hs4 := of_decide_eq_false HSB.out.symm
   clear HSB
   go_wp2_with fail
   by_cases h123 : pb p j = 92 ∧ pb p (j + 1) = 123
   ·skip
    refine (two_any p hp j hjp 92 123 (by decide) (by decide) _ rfl _ rfl true (decide_eq_true h123) _).mono ?_
    intro e w1 h1
    rw [h1.1, h1.2]
    clear h1 w1
    have HE4 := hide (show res = .bad 8 j from by rw [← HE3.out]; unfold pieceB; rw [atomB_open h123.1 h123.2])
    have HFt := hide (refFault_any (show RdS wa gr B0 p (j : Int) fl (g' : Int) ov' 0 0 0 from HL.out.rd) HBr.out 9 (j : Int))
    clear HE3 HPa
    go_wp2_with fail
    refine HFt.out.mono ?_
    rintro e wf ⟨rfl, hE, hF⟩
    have HLb := hide (HL.out.fault HGY.out hE hF)
    clear hE hF HFt c0
    go_wp2_with fail
    go_roundw
    case rel => exact .inr ⟨8, j, g', j, acc, ov', HLb.out, by omega, HE4.out⟩
    case measure => rw [rsLeft_bad (c := 8) HLb.out.rd, HMs.out]; omega
   refine (two_any p hp j hjp 92 123 (by decide) (by decide) _ rfl _ rfl false (decide_eq_false h123) _).mono ?_
   intro e w1 h1
   rw [h1.1, h1.2]
   clear h1 w1
   go_wp2_with fail
   by_cases h125 : pb p j = 92 ∧ pb p (j + 1) = 125
   ·skip
    refine (two_any p hp j hjp 92 125 (by decide) (by decide) _ rfl _ rfl true (decide_eq_true h125) _).mono ?_
    intro e w1 h1
    rw [h1.1, h1.2]
    clear h1 w1
    have HE4 := hide (show res = .bad 2 j from by rw [← HE3.out]; unfold pieceB; rw [atomB_shut h125.1 h125.2])
    have HFt := hide (refFault_any (show RdS wa gr B0 p (j : Int) fl (g' : Int) ov' 0 0 0 from HL.out.rd) HBr.out 3 (j : Int))
    clear HE3 HPa
    go_wp2_with fail
    refine HFt.out.mono ?_
    rintro e wf ⟨rfl, hE, hF⟩
    have HLb := hide (HL.out.fault HGY.out hE hF)
    clear hE hF HFt c0
    go_wp2_with fail
    go_roundw
    case rel => exact .inr ⟨2, j, g', j, acc, ov', HLb.out, by omega, HE4.out⟩
    case measure => rw [rsLeft_bad (c := 2) HLb.out.rd, HMs.out]; omega
   refine (two_any p hp j hjp 92 125 (by decide) (by decide) _ rfl _ rfl false (decide_eq_false h125) _).mono ?_
   intro e w1 h1
   rw [h1.1, h1.2]
   clear h1 w1
   go_wp2_with fail
   by_cases h41 : pb p j = 92 ∧ pb p (j + 1) = 41
   ·skip
    refine (two_any p hp j hjp 92 41 (by decide) (by decide) _ rfl _ rfl true (decide_eq_true h41) _).mono ?_
    intro e w1 h1
    rw [h1.1, h1.2]
    clear h1 w1
    have HE4 := hide (show res = .bad 1 j from by rw [← HE3.out]; unfold pieceB; rw [atomB_end h41.1 h41.2])
    have HFt := hide (refFault_any (show RdS wa gr B0 p (j : Int) fl (g' : Int) ov' 0 0 0 from HL.out.rd) HBr.out 2 (j : Int))
    clear HE3 HPa
    go_wp2_with fail
    refine HFt.out.mono ?_
    rintro e wf ⟨rfl, hE, hF⟩
    have HLb := hide (HL.out.fault HGY.out hE hF)
    clear hE hF HFt c0
    go_wp2_with fail
    go_roundw
    case rel => exact .inr ⟨1, j, g', j, acc, ov', HLb.out, by omega, HE4.out⟩
    case measure => rw [rsLeft_bad (c := 1) HLb.out.rd, HMs.out]; omega
   refine (two_any p hp j hjp 92 41 (by decide) (by decide) _ rfl _ rfl false (decide_eq_false h41) _).mono ?_
   intro e w1 h1
   rw [h1.1, h1.2]
   clear h1 w1
   have HPj := hide (HPa.out wa ov' j g' star hs4 (fun h92 => ⟨fun e => h41 ⟨h92, e⟩, fun e => h123 ⟨h92, e⟩, fun e => h125 ⟨h92, e⟩⟩) HL.out.rd hj hgj HBr.out)
   have HE4 := hide (show (match (match atomB p ic nl deeper star j g' with
     | .bad c pl => .bad c pl
     | .ok t j h => withRep (repB p j) t j h : PR) with
     | .bad c pl => .bad c pl
     | .ok t k q => pattB p ic nl deeper (decide (0 < dp)) n false false k q (acc ++ [t])) = res from HE3.out)
   clear HE3 HPa hs4 h123 h125 h41
   go_upto_region 6 with fail
   clear c0
   go_wp2_with fail
   refine HPj.out.1.mono ?_
   rintro e z hz
   cases hq : atomB p ic nl deeper star j g' with
   | bad c2 pl =>
    rw [hq] at hz HE4
    obtain ⟨t, B, cc, ov2, I, G, rfl, hin, hE, hF⟩ := hz
    have hal := (Below.refl z.heap.size z).alloc (Nat.le_refl _) (.cells #[.int .i64 t.hd.kind, .int .u64 t.hd.s0, .int .u64 t.hd.s1, .int .u64 t.hd.s2, .int .u64 t.hd.s3, .slice B t.subs.length cc, .int .i64 t.hd.num, .int .i64 t.hd.min, .int .i64 t.hd.max, .bool t.hd.bare] 27)
    have HZz := hide hF.below.size
    have hF2 := hF.next (Nat.le_trans HBr.out hF.below.size) hal
    have HQ0 := hide (And.intro (hE.next hal) (And.intro (HL.out.fr.trans hF2) (And.intro (hF2.blk_ HL.out.bx (blk_ne6 HL.out.bx HL.out.rd.box (by decide)) (HL.out.rd.apart HL.out.bx (by decide))) (And.intro (HL.out.gx.rdf (B0 := B0) (y := wa) HGR.out hF2) (show T.In (z.alloc (.cells #[.int .i64 t.hd.kind, .int .u64 t.hd.s0, .int .u64 t.hd.s1, .int .u64 t.hd.s2, .int .u64 t.hd.s3, .slice B t.subs.length cc, .int .i64 t.hd.num, .int .i64 t.hd.min, .int .i64 t.hd.max, .bool t.hd.bare] 27)) (fun b => y.heap.size + 1 ≤ b ∧ b < (z.alloc (.cells #[.int .i64 t.hd.kind, .int .u64 t.hd.s0, .int .u64 t.hd.s1, .int .u64 t.hd.s2, .int .u64 t.hd.s3, .slice B t.subs.length cc, .int .i64 t.hd.num, .int .i64 t.hd.min, .int .i64 t.hd.max, .bool t.hd.bare] 27)).heap.size ∧ some b ≠ u5.ownBlock ∧ ov2.ownBlock ≠ some b) t B from hin.same ((same_of_below hal).mono fun b hb => hb.2.1) fun b hb => ⟨by have h1 := HL.out.bx.lt; have h2 := hb.1; omega, Nat.lt_of_lt_of_le hb.2.1 hal.size, fun e => by have h1 := (HL.out.gx.lt b e.symm).2; have h2 := hb.1; omega, hb.2.2⟩)))))
    have hbx := Blk.new z 27 #[.int .i64 t.hd.kind, .int .u64 t.hd.s0, .int .u64 t.hd.s1, .int .u64 t.hd.s2, .int .u64 t.hd.s3, .slice B t.subs.length cc, .int .i64 t.hd.num, .int .i64 t.hd.min, .int .i64 t.hd.max, .bool t.hd.bare]
    have HBw := hide (Nat.le_trans HBr.out hF2.below.size)
    have HBX := hide hbx
    clear hal hin hE hF hF2 hbx hq HPj
    simp only [Hd.cells]
    go_upto_region 7 with fail
    generalize (z.alloc (.cells #[.int .i64 t.hd.kind, .int .u64 t.hd.s0, .int .u64 t.hd.s1, .int .u64 t.hd.s2, .int .u64 t.hd.s3, .slice B t.subs.length cc, .int .i64 t.hd.num, .int .i64 t.hd.min, .int .i64 t.hd.max, .bool t.hd.bare] 27)) = z1 at *
    have c0 := HQ0.out.1.box.cell
    have gc : ((((c2 + 1 : Nat) : Int)) == 0) = false := by rw [beq_eq_false_iff_ne]; omega
    go_upto_region 9 with fail
    clear c0 gc
    have c1 := HBX.out.cell
    have hal := (Below.refl z1.heap.size z1).alloc (Nat.le_refl _) (.cells #[.int .i64 t.hd.kind, .int .u64 t.hd.s0, .int .u64 t.hd.s1, .int .u64 t.hd.s2, .int .u64 t.hd.s3, .slice B t.subs.length cc, .int .i64 t.hd.num, .int .i64 t.hd.min, .int .i64 t.hd.max, .bool t.hd.bare] 27)
    have HQ := hide (And.intro (HQ0.out.1.next hal) (And.intro (HQ0.out.2.1.next HBw.out hal) (And.intro (HQ0.out.2.2.1.next hal) (And.intro (HQ0.out.2.2.2.1.next hal) (HQ0.out.2.2.2.2.same (ok' := fun b => y.heap.size + 1 ≤ b ∧ b < (z1.alloc (.cells #[.int .i64 t.hd.kind, .int .u64 t.hd.s0, .int .u64 t.hd.s1, .int .u64 t.hd.s2, .int .u64 t.hd.s3, .slice B t.subs.length cc, .int .i64 t.hd.num, .int .i64 t.hd.min, .int .i64 t.hd.max, .bool t.hd.bare] 27)).heap.size ∧ some b ≠ u5.ownBlock ∧ ov2.ownBlock ≠ some b) ((same_of_below hal).mono fun b hb => hb.2.1) fun b hb => ⟨hb.1, Nat.lt_of_lt_of_le hb.2.1 hal.size, hb.2.2⟩)))))
    have HBz := hide (fun b (hb : ov2.ownBlock = some b) => (HQ.out.1.lt b hb).2)
    have HBs := hide (show y.heap.size + 1 ≤ (z1.alloc (.cells #[.int .i64 t.hd.kind, .int .u64 t.hd.s0, .int .u64 t.hd.s1, .int .u64 t.hd.s2, .int .u64 t.hd.s3, .slice B t.subs.length cc, .int .i64 t.hd.num, .int .i64 t.hd.min, .int .i64 t.hd.max, .bool t.hd.bare] 27)).heap.size from HQ.out.2.2.1.lt)
    have hll : acc.length < 1000000 := by omega
    clear hal
    go_wp2_with (at_builtin; refine wpList_append_nodeX rfl _ _ rfl (y.heap.size + 1) _ _ acc rfl HQ.out.2.2.2.1 HBz.out (t) B cc z1.heap.size 1 rfl (Blk.new _ _ _) HQ.out.2.2.2.2 hll HBs.out ?_)
    intro v5 w5 hgx5 hg5
    have hap := HQ.out.2.2.2.1.apart
    have hlt := HQ.out.2.2.2.1.lt
    have hgr := HGR.out
    have n1 : u5.ownBlock ≠ some gr := fun e => by have := (hlt gr e).1; omega
    have n2 : u5.ownBlock ≠ some y.heap.size := fun e => by have := (hlt _ e).1; omega
    have HF := hide (show LpS B0 gr p fl 0 ov y w5 v5 I G ((c2 + 1 : Nat) : Int) pl (acc ++ [t]) ov2 from ⟨HQ.out.1.grown hg5 n1 (by
      by_cases hov : ov2.ownBlock = none
      ·exact .inl hov
      ·refine .inr fun e => ?_
       cases hl : u5.ownBlock with
       | none => rw [hl] at e; exact hov e
       | some b => rw [hl] at e; exact hap b hl e), HQ.out.2.1.grown hg5 (fun b e => by have := (hlt b e).1; omega) HB.out, HQ.out.2.2.1.grown hg5 (fun e => n2 e.symm), hgx5⟩)
    clear hgx5 hg5 hap hlt hgr n1 n2
    clear c1
    go_wp2_with fail
    go_roundw
    case rel => exact .inr ⟨c2, I, G, pl, acc ++ [t], ov2, HF.out, by simp; omega, HE4.out.symm⟩
    case measure => rw [rsLeft_bad HF.out.rd, HMs.out]; omega
   | ok t k q =>
    have hfine := HPj.out.2
    rw [hq] at hz HE4 hfine
    simp only [PR.Fine] at hfine
    obtain ⟨B, cc, ov2, rfl, hin, hE, hF⟩ := hz
    have hal := (Below.refl z.heap.size z).alloc (Nat.le_refl _) (.cells #[.int .i64 t.hd.kind, .int .u64 t.hd.s0, .int .u64 t.hd.s1, .int .u64 t.hd.s2, .int .u64 t.hd.s3, .slice B t.subs.length cc, .int .i64 t.hd.num, .int .i64 t.hd.min, .int .i64 t.hd.max, .bool t.hd.bare] 27)
    have hF2 := hF.next (Nat.le_trans HBr.out hF.below.size) hal
    have HZz := hide (show wa.heap.size ≤ z.heap.size ∧ (z.alloc (.cells #[.int .i64 t.hd.kind, .int .u64 t.hd.s0, .int .u64 t.hd.s1, .int .u64 t.hd.s2, .int .u64 t.hd.s3, .slice B t.subs.length cc, .int .i64 t.hd.num, .int .i64 t.hd.min, .int .i64 t.hd.max, .bool t.hd.bare] 27)).heap.size = z.heap.size + 1 from ⟨hF.below.size, World.size_alloc _ _⟩)
    have hin2 : T.In (z.alloc (.cells #[.int .i64 t.hd.kind, .int .u64 t.hd.s0, .int .u64 t.hd.s1, .int .u64 t.hd.s2, .int .u64 t.hd.s3, .slice B t.subs.length cc, .int .i64 t.hd.num, .int .i64 t.hd.min, .int .i64 t.hd.max, .bool t.hd.bare] 27)) (fun b => (wa.heap.size ≤ b ∧ b ≠ z.heap.size) ∧ b < (z.alloc (.cells #[.int .i64 t.hd.kind, .int .u64 t.hd.s0, .int .u64 t.hd.s1, .int .u64 t.hd.s2, .int .u64 t.hd.s3, .slice B t.subs.length cc, .int .i64 t.hd.num, .int .i64 t.hd.min, .int .i64 t.hd.max, .bool t.hd.bare] 27)).heap.size ∧ ov2.ownBlock ≠ some b) t B := hin.same ((same_of_below hal).mono fun b hb => hb.2.1) fun b hb => ⟨⟨hb.1, by have := hb.2.1; omega⟩, Nat.lt_of_lt_of_le hb.2.1 hal.size, hb.2.2⟩
    have hbx := Blk.new z 27 #[.int .i64 t.hd.kind, .int .u64 t.hd.s0, .int .u64 t.hd.s1, .int .u64 t.hd.s2, .int .u64 t.hd.s3, .slice B t.subs.length cc, .int .i64 t.hd.num, .int .i64 t.hd.min, .int .i64 t.hd.max, .bool t.hd.bare]
    have HQ1 := hide (And.intro (hE.next hal) (And.intro hF2 (And.intro hbx hin2)))
    have HB1 := hide (Nat.le_trans HBr.out hF2.below.size)
    clear hal hin hE hF hF2 hbx hin2 hq HPj
    simp only [Hd.cells]
    go_upto_region 7 with fail
    generalize (z.alloc (.cells #[.int .i64 t.hd.kind, .int .u64 t.hd.s0, .int .u64 t.hd.s1, .int .u64 t.hd.s2, .int .u64 t.hd.s3, .slice B t.subs.length cc, .int .i64 t.hd.num, .int .i64 t.hd.min, .int .i64 t.hd.max, .bool t.hd.bare] 27)) = z1 at *
    have c0 := HQ1.out.1.box.cell
    go_upto_region 8 with fail
    clear c0
    have c1 := HQ1.out.2.2.1.cell
    have HGW := hide (show gr < wa.heap.size from HL.out.rd.box.lt)
    have HRp := hide (refRepB_any (q := fun b => wa.heap.size ≤ b ∧ b ≠ z.heap.size) (show RdS z1 gr B0 p (k : Int) fl (q : Int) ov2 0 0 0 from HQ1.out.1) hp (by omega) HB1.out (fun b hb => ⟨by have h1 := HZz.out.1; have h2 := HZz.out.2; omega, by have h2 := HZz.out.2; omega⟩) (fun hh => by have := HGW.out; omega) t B cc (by omega) HQ1.out.2.2.2)
    simp only [Hd.cells] at HRp
    go_wp2_with fail
    refine HRp.out.mono ?_
    rintro e z2 hz2
    clear HRp c1
    cases hq2 : withRep (repB p k) t k q with
    | bad c2 pl =>
     simp only [hq2] at hz2 HE4
     obtain ⟨t2, B2, cc2, ov3, I, G, rfl, hin, hE, hF⟩ := hz2
     have HQ2 := hide (And.intro hE (And.intro (HQ1.out.2.1.trans hF) (And.intro (hF.blk_ HQ1.out.2.2.1 (blk_ne6 HQ1.out.2.2.1 HQ1.out.1.box (by decide)) (HQ1.out.1.apart HQ1.out.2.2.1 (by decide))) hin)))
     have HB2 := hide (Nat.le_trans HB1.out hF.below.size)
     clear hE hF hin HQ1 hq2
     go_upto_region 9 with (refine wpList_store_node rfl _ _ rfl z.heap.size _ _ _ _ _ rfl rfl HQ2.out.2.2.1 rfl ?_; intro w6 hrow_w6 hg_w6 hz_w6)
     have hF3 := HQ2.out.2.1.grown hg_w6 (fun g0 hg0 => by rw [← Option.some.inj hg0]; exact HZz.out.1) HBr.out
     have hE3 := HQ2.out.1.grown hg_w6 (fun e => (blk_ne6 HQ2.out.2.2.1 HQ2.out.1.box (by decide)) (Option.some.inj e)) (.inr (HQ2.out.1.apart HQ2.out.2.2.1 (by decide)))
     have HQ0 := hide (And.intro hE3 (And.intro (HL.out.fr.trans hF3) (And.intro (hF3.blk_ HL.out.bx (blk_ne6 HL.out.bx HL.out.rd.box (by decide)) (HL.out.rd.apart HL.out.bx (by decide))) (And.intro (HL.out.gx.rdf (B0 := B0) (y := wa) HGR.out hF3) (show T.In w6 (fun b => y.heap.size + 1 ≤ b ∧ b < w6.heap.size ∧ some b ≠ u5.ownBlock ∧ ov3.ownBlock ≠ some b) t2 B2 from HQ2.out.2.2.2.same (fun b hb => hg_w6.block b hb.2.1 (fun e => hb.1.2 (Option.some.inj e))) fun b hb => ⟨by have h1 := HL.out.bx.lt; have h2 := hb.1.1; omega, Nat.lt_of_lt_of_le hb.2.1 hg_w6.size, fun e => by have h1 := (HL.out.gx.lt b e.symm).2; have h2 := hb.1.1; omega, hb.2.2⟩)))))
     have HBw := hide (Nat.le_trans HBr.out hF3.below.size)
     have HBX := hide hrow_w6
     clear hF3 hE3 hg_w6 hrow_w6 hz_w6 HQ2
     simp only [Hd.cells] at HBX
     have c1 := HBX.out.cell
     have hal := (Below.refl w6.heap.size w6).alloc (Nat.le_refl _) (.cells #[.int .i64 t2.hd.kind, .int .u64 t2.hd.s0, .int .u64 t2.hd.s1, .int .u64 t2.hd.s2, .int .u64 t2.hd.s3, .slice B2 t2.subs.length cc2, .int .i64 t2.hd.num, .int .i64 t2.hd.min, .int .i64 t2.hd.max, .bool t2.hd.bare] 27)
     have HQ := hide (And.intro (HQ0.out.1.next hal) (And.intro (HQ0.out.2.1.next HBw.out hal) (And.intro (HQ0.out.2.2.1.next hal) (And.intro (HQ0.out.2.2.2.1.next hal) (HQ0.out.2.2.2.2.same (ok' := fun b => y.heap.size + 1 ≤ b ∧ b < (w6.alloc (.cells #[.int .i64 t2.hd.kind, .int .u64 t2.hd.s0, .int .u64 t2.hd.s1, .int .u64 t2.hd.s2, .int .u64 t2.hd.s3, .slice B2 t2.subs.length cc2, .int .i64 t2.hd.num, .int .i64 t2.hd.min, .int .i64 t2.hd.max, .bool t2.hd.bare] 27)).heap.size ∧ some b ≠ u5.ownBlock ∧ ov3.ownBlock ≠ some b) ((same_of_below hal).mono fun b hb => hb.2.1) fun b hb => ⟨hb.1, Nat.lt_of_lt_of_le hb.2.1 hal.size, hb.2.2⟩)))))
     have HBz := hide (fun b (hb : ov3.ownBlock = some b) => (HQ.out.1.lt b hb).2)
     have HBs := hide (show y.heap.size + 1 ≤ (w6.alloc (.cells #[.int .i64 t2.hd.kind, .int .u64 t2.hd.s0, .int .u64 t2.hd.s1, .int .u64 t2.hd.s2, .int .u64 t2.hd.s3, .slice B2 t2.subs.length cc2, .int .i64 t2.hd.num, .int .i64 t2.hd.min, .int .i64 t2.hd.max, .bool t2.hd.bare] 27)).heap.size from HQ.out.2.2.1.lt)
     have hll : acc.length < 1000000 := by omega
     clear hal
     go_wp2_with (at_builtin; refine wpList_append_nodeX rfl _ _ rfl (y.heap.size + 1) _ _ acc rfl HQ.out.2.2.2.1 HBz.out (t2) B2 cc2 w6.heap.size 1 rfl (Blk.new _ _ _) HQ.out.2.2.2.2 hll HBs.out ?_)
     intro v5 w5 hgx5 hg5
     have hap := HQ.out.2.2.2.1.apart
     have hlt := HQ.out.2.2.2.1.lt
     have hgr := HGR.out
     have n1 : u5.ownBlock ≠ some gr := fun e => by have := (hlt gr e).1; omega
     have n2 : u5.ownBlock ≠ some y.heap.size := fun e => by have := (hlt _ e).1; omega
     have HF := hide (show LpS B0 gr p fl 0 ov y w5 v5 I G ((c2 + 1 : Nat) : Int) pl (acc ++ [t2]) ov3 from ⟨HQ.out.1.grown hg5 n1 (by
       by_cases hov : ov3.ownBlock = none
       ·exact .inl hov
       ·refine .inr fun e => ?_
        cases hl : u5.ownBlock with
        | none => rw [hl] at e; exact hov e
        | some b => rw [hl] at e; exact hap b hl e), HQ.out.2.1.grown hg5 (fun b e => by have := (hlt b e).1; omega) HB.out, HQ.out.2.2.1.grown hg5 (fun e => n2 e.symm), hgx5⟩)
     clear hgx5 hg5 hap hlt hgr n1 n2
     clear c1
     go_wp2_with fail
     go_roundw
     case rel => exact .inr ⟨c2, I, G, pl, acc ++ [t2], ov3, HF.out, by simp; omega, HE4.out.symm⟩
     case measure => rw [rsLeft_bad HF.out.rd, HMs.out]; omega
    | ok t2 k2 q2 =>
     have hf2 := withRepB_at hfine.2.1 hq2
     simp only [hq2] at hz2 HE4
     obtain ⟨B2, cc2, ov3, rfl, hin, hE, hF⟩ := hz2
     have HQ2 := hide (And.intro hE (And.intro (HQ1.out.2.1.trans hF) (And.intro (hF.blk_ HQ1.out.2.2.1 (blk_ne6 HQ1.out.2.2.1 HQ1.out.1.box (by decide)) (HQ1.out.1.apart HQ1.out.2.2.1 (by decide))) hin)))
     have HB2 := hide (Nat.le_trans HB1.out hF.below.size)
     clear hE hF hin HQ1 hq2
     go_upto_region 9 with (refine wpList_store_node rfl _ _ rfl z.heap.size _ _ _ _ _ rfl rfl HQ2.out.2.2.1 rfl ?_; intro w6 hrow_w6 hg_w6 hz_w6)
     have hF3 := HQ2.out.2.1.grown hg_w6 (fun g0 hg0 => by rw [← Option.some.inj hg0]; exact HZz.out.1) HBr.out
     have hE3 := HQ2.out.1.grown hg_w6 (fun e => (blk_ne6 HQ2.out.2.2.1 HQ2.out.1.box (by decide)) (Option.some.inj e)) (.inr (HQ2.out.1.apart HQ2.out.2.2.1 (by decide)))
     have HQ0 := hide (And.intro hE3 (And.intro (HL.out.fr.trans hF3) (And.intro (hF3.blk_ HL.out.bx (blk_ne6 HL.out.bx HL.out.rd.box (by decide)) (HL.out.rd.apart HL.out.bx (by decide))) (And.intro (HL.out.gx.rdf (B0 := B0) (y := wa) HGR.out hF3) (show T.In w6 (fun b => y.heap.size + 1 ≤ b ∧ b < w6.heap.size ∧ some b ≠ u5.ownBlock ∧ ov3.ownBlock ≠ some b) t2 B2 from HQ2.out.2.2.2.same (fun b hb => hg_w6.block b hb.2.1 (fun e => hb.1.2 (Option.some.inj e))) fun b hb => ⟨by have h1 := HL.out.bx.lt; have h2 := hb.1.1; omega, Nat.lt_of_lt_of_le hb.2.1 hg_w6.size, fun e => by have h1 := (HL.out.gx.lt b e.symm).2; have h2 := hb.1.1; omega, hb.2.2⟩)))))
     have HBw := hide (Nat.le_trans HBr.out hF3.below.size)
     have HBX := hide hrow_w6
     clear hF3 hE3 hg_w6 hrow_w6 hz_w6 HQ2
     simp only [Hd.cells] at HBX
     have c1 := HBX.out.cell
     have hal := (Below.refl w6.heap.size w6).alloc (Nat.le_refl _) (.cells #[.int .i64 t2.hd.kind, .int .u64 t2.hd.s0, .int .u64 t2.hd.s1, .int .u64 t2.hd.s2, .int .u64 t2.hd.s3, .slice B2 t2.subs.length cc2, .int .i64 t2.hd.num, .int .i64 t2.hd.min, .int .i64 t2.hd.max, .bool t2.hd.bare] 27)
     have HQ := hide (And.intro (HQ0.out.1.next hal) (And.intro (HQ0.out.2.1.next HBw.out hal) (And.intro (HQ0.out.2.2.1.next hal) (And.intro (HQ0.out.2.2.2.1.next hal) (HQ0.out.2.2.2.2.same (ok' := fun b => y.heap.size + 1 ≤ b ∧ b < (w6.alloc (.cells #[.int .i64 t2.hd.kind, .int .u64 t2.hd.s0, .int .u64 t2.hd.s1, .int .u64 t2.hd.s2, .int .u64 t2.hd.s3, .slice B2 t2.subs.length cc2, .int .i64 t2.hd.num, .int .i64 t2.hd.min, .int .i64 t2.hd.max, .bool t2.hd.bare] 27)).heap.size ∧ some b ≠ u5.ownBlock ∧ ov3.ownBlock ≠ some b) ((same_of_below hal).mono fun b hb => hb.2.1) fun b hb => ⟨hb.1, Nat.lt_of_lt_of_le hb.2.1 hal.size, hb.2.2⟩)))))
     have HBz := hide (fun b (hb : ov3.ownBlock = some b) => (HQ.out.1.lt b hb).2)
     have HBs := hide (show y.heap.size + 1 ≤ (w6.alloc (.cells #[.int .i64 t2.hd.kind, .int .u64 t2.hd.s0, .int .u64 t2.hd.s1, .int .u64 t2.hd.s2, .int .u64 t2.hd.s3, .slice B2 t2.subs.length cc2, .int .i64 t2.hd.num, .int .i64 t2.hd.min, .int .i64 t2.hd.max, .bool t2.hd.bare] 27)).heap.size from HQ.out.2.2.1.lt)
     have hll : acc.length < 1000000 := by omega
     clear hal
     go_wp2_with (at_builtin; refine wpList_append_nodeX rfl _ _ rfl (y.heap.size + 1) _ _ acc rfl HQ.out.2.2.2.1 HBz.out (t2) B2 cc2 w6.heap.size 1 rfl (Blk.new _ _ _) HQ.out.2.2.2.2 hll HBs.out ?_)
     intro v5 w5 hgx5 hg5
     have hap := HQ.out.2.2.2.1.apart
     have hlt := HQ.out.2.2.2.1.lt
     have hgr := HGR.out
     have n1 : u5.ownBlock ≠ some gr := fun e => by have := (hlt gr e).1; omega
     have n2 : u5.ownBlock ≠ some y.heap.size := fun e => by have := (hlt _ e).1; omega
     have HF := hide (show LpS B0 gr p fl 0 ov y w5 v5 (k2 : Int) (q2 : Int) 0 0 (acc ++ [t2]) ov3 from ⟨HQ.out.1.grown hg5 n1 (by
       by_cases hov : ov3.ownBlock = none
       ·exact .inl hov
       ·refine .inr fun e => ?_
        cases hl : u5.ownBlock with
        | none => rw [hl] at e; exact hov e
        | some b => rw [hl] at e; exact hap b hl e), HQ.out.2.1.grown hg5 (fun b e => by have := (hlt b e).1; omega) HB.out, HQ.out.2.2.1.grown hg5 (fun e => n2 e.symm), hgx5⟩)
     clear hgx5 hg5 hap hlt hgr n1 n2
     clear c1
     go_wp2_with fail
     go_roundw
     case rel => exact .inl ⟨k2, q2, n, acc ++ [t2], ov3, false, false, false, rfl, rfl, rfl, HF.out, by omega, by omega, by omega, by simp; omega, by omega, HE4.out⟩
     case measure => rw [rsLeft_ok HF.out.rd, HMs.out]; omega
end Go.Proofs.YtpkcklpjbeginaaGreatDoor

/-! ## RefBreD -/
namespace Go.Proofs.YtpkcklpjbeginaaGreatDoor
open Go.RowKit

/-- A pattern in which groups may stand: by how deep they already do. -/
theorem refPieces_all {B0 gr : Nat} {p : ByteArray} {fl : Int} (hp : p.size ≤ 1024) : ∀ (k d : Nat), d + k = 32 →
  PieR B0 gr p fl d (deepB p (!decide (bits .and .i64 fl 2 = 0)) (!decide (bits .and .i64 fl 4 = 0)) k (decide (0 < d)))
 | 0, d, hd => fun y ov i g h hi hgi hB => by
  rw [deepB]
  exact refPieces_any (by omega) (.inl ⟨rfl, by omega⟩) (fun f hf => by cases hf) h hp hi hgi hB
 | k + 1, d, hd => fun y ov i g h hi hgi hB => by
  have ih := refPieces_all hp (B0 := B0) (gr := gr) (fl := fl) k (d + 1) (by omega)
  rw [decide_eq_true (show 0 < d + 1 by omega)] at ih
  rw [deepB]
  exact refPieces_any (by omega) (.inr ⟨_, rfl, by omega, ih, fun i g hi => deepB_fine k true i g hi⟩) (deepB_dfine k) h hp hi hgi hB
set_option maxRecDepth 100000 in
set_option maxHeartbeats 4000000 in
theorem refParseB_any (p : ByteArray) (fl : Int) (w : World) :
  Calls Tryz.prog 18 #[.string p, .int .i64 fl] w fun e w' => AnsIs (parseB p (!decide (bits .and .i64 fl 2 = 0)) (!decide (bits .and .i64 fl 4 = 0))) w.heap.size e w' ∧ Below w.heap.size w w' := by
 have hz0 := Blk.new w 43 #[.int .i64 0, .int .u64 0, .int .u64 0, .int .u64 0, .int .u64 0, .slice none 0 0, .int .i64 0, .int .i64 0, .int .i64 0, .bool false, .int .i64 0, .int .i64 0, .int .i64 0]
 have hbel := (Below.refl w.heap.size w).alloc (Nat.le_refl _) (.cells #[.int .i64 0, .int .u64 0, .int .u64 0, .int .u64 0, .int .u64 0, .slice none 0 0, .int .i64 0, .int .i64 0, .int .i64 0, .bool false, .int .i64 0, .int .i64 0, .int .i64 0] 43)
 have H0 := hide (And.intro hbel hz0)
 clear hz0 hbel
 obtain ⟨res, hres⟩ : ∃ res, res = parseB p (!decide (bits .and .i64 fl 2 = 0)) (!decide (bits .and .i64 fl 4 = 0)) := ⟨_, rfl⟩
 rw [← hres]
 have HRS := hide hres
 clear hres
 go_enter Tryz.func18, Tryz.ntmps18
 go_upto_region 1 with fail
 generalize (w.alloc (.cells #[.int .i64 0, .int .u64 0, .int .u64 0, .int .u64 0, .int .u64 0, .slice none 0 0, .int .i64 0, .int .i64 0, .int .i64 0, .bool false, .int .i64 0, .int .i64 0, .int .i64 0] 43)) = W at *
 by_cases hp : 1024 < p.size
 ·have HE := hide (show res = .bad 11 1024 from by rw [HRS.out]; unfold parseB; rw [if_pos hp])
  have g1 : decide ((1024 : Int) < (p.size : Int)) = true := decide_eq_true (by omega)
  go_wp2_with (refine wpList_store_row rfl _ _ _ rfl w.heap.size 0 _ _ _ rfl rfl H0.out.2 Tryz.sizeAns6 (by simp) (by simp [Value.oneCell']) ?_)
  intro w9 hrow9 hg9 hz9
  have hrow := hrow9.out
  rw [splice_full (by rfl)] at hrow
  go_wp2_with fail
  refine bodyPost_ret (results_cell_row rfl _ _ w.heap.size _ _ (0, 0) _ rfl hrow Tryz.underlying43 rfl Tryz.sizeAns6) rfl ?_
  exact ⟨ans_bad (c := 11) HE.out, below_grew H0.out.1 hg9 (Nat.le_refl _) (fun q hq => by rw [← Option.some.inj hq]; exact Nat.le_refl _)⟩
 ·have g1 : decide ((1024 : Int) < (p.size : Int)) = false := decide_eq_false (by omega)
  have HRS2 := hide (show res = wholeP p (deepB p (!decide (bits .and .i64 fl 2 = 0)) (!decide (bits .and .i64 fl 4 = 0)) 32 false 0 0) from by rw [HRS.out]; unfold parseB; rw [if_neg hp])
  have hp2 : p.size ≤ 1024 := by omega
  clear HRS hp
  have hal := (Below.refl W.heap.size W).alloc (Nat.le_refl _) (.cells #[.string p, .int .i64 0, .int .i64 fl, .int .i64 0, .slice none 0 0, .int .i64 0, .int .i64 0] 80)
  have hE : RdS (W.alloc (.cells #[.string p, .int .i64 0, .int .i64 fl, .int .i64 0, .slice none 0 0, .int .i64 0, .int .i64 0] 80)) W.heap.size w.heap.size p ((0 : Nat) : Int) fl ((0 : Nat) : Int) (.slice none 0 0) 0 0 0 := ⟨Blk.new W 80 _, ⟨[], rfl, OwnInts.nil _ _⟩, H0.out.1.size, by decide, by decide⟩
  have HPt := hide (refPieces_all hp2 32 0 rfl _ _ 0 0 hE (Nat.zero_le _) (Nat.le_refl _) (Nat.le_trans H0.out.1.size hal.size))
  rw [show ((0 : Nat) : Int) = 0 from rfl] at HPt
  have H1 := hide (And.intro hE (And.intro (H0.out.1.trans (hal.mono H0.out.1.size)) (H0.out.2.next hal)))
  have HGR := hide (show w.heap.size < W.heap.size from H0.out.2.lt)
  clear hal hE
  go_upto_region 4 with fail
  have hsz : (W.alloc (.cells #[.string p, .int .i64 0, .int .i64 fl, .int .i64 0, .slice none 0 0, .int .i64 0, .int .i64 0] 80)).heap.size = W.heap.size + 1 := World.size_alloc _ _
  have HSZ := hide hsz
  clear hsz
  generalize (W.alloc (.cells #[.string p, .int .i64 0, .int .i64 fl, .int .i64 0, .slice none 0 0, .int .i64 0, .int .i64 0] 80)) = W1 at *
  generalize W.heap.size = gr at *
  obtain ⟨r, hr⟩ : ∃ r, r = deepB p (!decide (bits .and .i64 fl 2 = 0)) (!decide (bits .and .i64 fl 4 = 0)) 32 false 0 0 := ⟨_, rfl⟩
  have hFin := deepB_fine (p := p) (ic := !decide (bits .and .i64 fl 2 = 0)) (nl := !decide (bits .and .i64 fl 4 = 0)) 32 false 0 0 (Nat.zero_le _)
  rw [show decide (0 < 0) = false from rfl] at HPt
  rw [← hr] at HPt HRS2 hFin
  clear hr
  go_wp2_with fail
  refine HPt.out.mono ?_
  rintro e z hz
  clear HPt
  cases r with
  | bad c pl =>
   have HE2 := hide (show res = .bad c pl from HRS2.out)
   obtain ⟨t, B, cc, ov', I, G', rfl, hin, hE, hF⟩ := hz
   have hal := (Below.refl z.heap.size z).alloc (Nat.le_refl _) (.cells #[.int .i64 t.hd.kind, .int .u64 t.hd.s0, .int .u64 t.hd.s1, .int .u64 t.hd.s2, .int .u64 t.hd.s3, .slice B t.subs.length cc, .int .i64 t.hd.num, .int .i64 t.hd.min, .int .i64 t.hd.max, .bool t.hd.bare] 27)
   have HBz := hide (Nat.le_trans (Nat.le_trans H1.out.2.1.size hF.below.size) hal.size)
   have HS := hide (And.intro (hE.next hal) (And.intro ((hF.blk_ H1.out.2.2 (by have := HGR.out; omega) (by simp [Value.ownBlock])).next hal) (And.intro (H1.out.2.1.trans (hF.below.trans (hal.mono (Nat.le_trans H1.out.2.1.size hF.below.size)))) (Blk.new z 27 #[.int .i64 t.hd.kind, .int .u64 t.hd.s0, .int .u64 t.hd.s1, .int .u64 t.hd.s2, .int .u64 t.hd.s3, .slice B t.subs.length cc, .int .i64 t.hd.num, .int .i64 t.hd.min, .int .i64 t.hd.max, .bool t.hd.bare]))))
   clear hal hin hE hF HRS2 hFin
   simp only [Hd.cells]
   go_upto_region 5 with fail
   generalize (z.alloc (.cells #[.int .i64 t.hd.kind, .int .u64 t.hd.s0, .int .u64 t.hd.s1, .int .u64 t.hd.s2, .int .u64 t.hd.s3, .slice B t.subs.length cc, .int .i64 t.hd.num, .int .i64 t.hd.min, .int .i64 t.hd.max, .bool t.hd.bare] 27)) = z1 at *
   have ct := HS.out.2.2.2.cell
   have HDn := hide (refDone_bad (lo := w.heap.size + 1) HS.out.1 HBz.out t B cc)
   go_wp2_with fail
   refine HDn.out.mono ?_
   rintro e z2 ⟨rfl, hf2⟩
   clear HDn ct
   have HR2 := hide (show Blk z2 w.heap.size 43 #[.int .i64 0, .int .u64 0, .int .u64 0, .int .u64 0, .int .u64 0, .slice none 0 0, .int .i64 0, .int .i64 0, .int .i64 0, .bool false, .int .i64 0, .int .i64 0, .int .i64 0] ∧ Below w.heap.size w z2 from ⟨hf2.blk_ HS.out.2.1 (by have := HGR.out; omega) (HS.out.1.apart HS.out.2.1 (by decide)), HS.out.2.2.1.trans hf2.below⟩)
   go_wp2_with (refine wpList_store_row rfl _ _ _ rfl w.heap.size 0 _ _ _ rfl rfl HR2.out.1 Tryz.sizeAns6 (by simp) (by simp [Value.oneCell']) ?_)
   intro w9 hrow9 hg9 hz9
   have hrow := hrow9.out
   rw [splice_full (by rfl)] at hrow
   go_wp2_with fail
   refine bodyPost_ret (results_cell_row rfl _ _ w.heap.size _ _ (0, 0) _ rfl hrow Tryz.underlying43 rfl Tryz.sizeAns6) rfl ?_
   exact ⟨ans_bad HE2.out, below_grew HR2.out.2 hg9 (Nat.le_refl _) (fun q hq => by rw [← Option.some.inj hq]; exact Nat.le_refl _)⟩
  | ok t i g =>
   obtain ⟨B, cc, ov', rfl, hin, hE, hF⟩ := hz
   simp only [PR.Fine] at hFin
   have hal := (Below.refl z.heap.size z).alloc (Nat.le_refl _) (.cells #[.int .i64 t.hd.kind, .int .u64 t.hd.s0, .int .u64 t.hd.s1, .int .u64 t.hd.s2, .int .u64 t.hd.s3, .slice B t.subs.length cc, .int .i64 t.hd.num, .int .i64 t.hd.min, .int .i64 t.hd.max, .bool t.hd.bare] 27)
   have HBz := hide (Nat.le_trans (Nat.le_trans H1.out.2.1.size hF.below.size) hal.size)
   have HS := hide (And.intro (hE.next hal) (And.intro ((hF.blk_ H1.out.2.2 (by have := HGR.out; omega) (by simp [Value.ownBlock])).next hal) (And.intro (H1.out.2.1.trans (hF.below.trans (hal.mono (Nat.le_trans H1.out.2.1.size hF.below.size)))) (Blk.new z 27 #[.int .i64 t.hd.kind, .int .u64 t.hd.s0, .int .u64 t.hd.s1, .int .u64 t.hd.s2, .int .u64 t.hd.s3, .slice B t.subs.length cc, .int .i64 t.hd.num, .int .i64 t.hd.min, .int .i64 t.hd.max, .bool t.hd.bare]))))
   have HTn := hide (show T.In (z.alloc (.cells #[.int .i64 t.hd.kind, .int .u64 t.hd.s0, .int .u64 t.hd.s1, .int .u64 t.hd.s2, .int .u64 t.hd.s3, .slice B t.subs.length cc, .int .i64 t.hd.num, .int .i64 t.hd.min, .int .i64 t.hd.max, .bool t.hd.bare] 27)) (fun b => (w.heap.size + 1 ≤ b ∧ b ≠ gr) ∧ b < (z.alloc (.cells #[.int .i64 t.hd.kind, .int .u64 t.hd.s0, .int .u64 t.hd.s1, .int .u64 t.hd.s2, .int .u64 t.hd.s3, .slice B t.subs.length cc, .int .i64 t.hd.num, .int .i64 t.hd.min, .int .i64 t.hd.max, .bool t.hd.bare] 27)).heap.size ∧ ov'.ownBlock ≠ some b) t B from hin.same ((same_of_below hal).mono fun b hb => hb.2.1) fun b hb => ⟨by have h1 := hb.1; have h2 := HSZ.out; have h3 := HGR.out; omega, Nat.lt_of_lt_of_le hb.2.1 hal.size, hb.2.2⟩)
   clear hal hin hE hF
   simp only [Hd.cells]
   go_upto_region 5 with fail
   generalize (z.alloc (.cells #[.int .i64 t.hd.kind, .int .u64 t.hd.s0, .int .u64 t.hd.s1, .int .u64 t.hd.s2, .int .u64 t.hd.s3, .slice B t.subs.length cc, .int .i64 t.hd.num, .int .i64 t.hd.min, .int .i64 t.hd.max, .bool t.hd.bare] 27)) = z1 at *
   have ct := HS.out.2.2.2.cell
   have HDn := hide (refDone_ok (lo := w.heap.size + 1) (show RdS z1 gr w.heap.size p (i : Int) fl (g : Int) ov' 0 0 0 from HS.out.1) HBz.out hp2 t B cc (by omega) (HTn.out.same (Same.refl _ _) fun b hb => ⟨hb.1, hb.2.1⟩))
   rw [← HRS2.out] at HDn
   clear HRS2 hFin
   go_wp2_with fail
   refine HDn.out.mono ?_
   rintro e z2 ⟨ha2, hf2⟩
   clear HDn ct
   have HR2 := hide (show Blk z2 w.heap.size 43 #[.int .i64 0, .int .u64 0, .int .u64 0, .int .u64 0, .int .u64 0, .slice none 0 0, .int .i64 0, .int .i64 0, .int .i64 0, .bool false, .int .i64 0, .int .i64 0, .int .i64 0] ∧ Below w.heap.size w z2 from ⟨hf2.blk_ HS.out.2.1 (by have := HGR.out; omega) (HS.out.1.apart HS.out.2.1 (by decide)), HS.out.2.2.1.trans hf2.below⟩)
   cases res with
   | bad c pl =>
    obtain rfl := ha2
    go_wp2_with (refine wpList_store_row rfl _ _ _ rfl w.heap.size 0 _ _ _ rfl rfl HR2.out.1 Tryz.sizeAns6 (by simp) (by simp [Value.oneCell']) ?_)
    intro w9 hrow9 hg9 hz9
    have hrow := hrow9.out
    rw [splice_full (by rfl)] at hrow
    go_wp2_with fail
    refine bodyPost_ret (results_cell_row rfl _ _ w.heap.size _ _ (0, 0) _ rfl hrow Tryz.underlying43 rfl Tryz.sizeAns6) rfl ?_
    exact ⟨ans_bad rfl, below_grew HR2.out.2 hg9 (Nat.le_refl _) (fun q hq => by rw [← Option.some.inj hq]; exact Nat.le_refl _)⟩
   | ok t' i' g'' =>
    obtain ⟨B', cc', rfl, hin'⟩ := ha2
    have HI2 := hide hin'
    clear hin'
    go_wp2_with (refine wpList_store_row rfl _ _ _ rfl w.heap.size 0 _ _ _ rfl rfl HR2.out.1 Tryz.sizeAns6 (by simp) (by simp [Value.oneCell']) ?_)
    intro w9 hrow9 hg9 hz9
    have hrow := hrow9.out
    rw [splice_full (by rfl)] at hrow
    go_wp2_with fail
    refine bodyPost_ret (results_cell_row rfl _ _ w.heap.size _ _ (0, 0) _ rfl hrow Tryz.underlying43 rfl Tryz.sizeAns6) rfl ?_
    exact ⟨ans_ok rfl (HI2.out.same (fun b hb => hg9.block b hb.2 (fun e => by have e := Option.some.inj e; have h1 := hb.1; omega)) fun b hb => ⟨by have := hb.1; omega, Nat.lt_of_lt_of_le hb.2 hg9.size⟩), below_grew HR2.out.2 hg9 (Nat.le_refl _) (fun q hq => by rw [← Option.some.inj hq]; exact Nat.le_refl _)⟩
end Go.Proofs.YtpkcklpjbeginaaGreatDoor
