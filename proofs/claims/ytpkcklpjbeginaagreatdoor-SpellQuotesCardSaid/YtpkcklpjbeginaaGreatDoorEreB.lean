/- Ere6d: ere: group, piece. (Printed by gen_ere6d.py.)
Ere6e: ere: piece. (Printed by gen_ere6e.py.)
Ere6f: ere: branch, pattern. (Printed by gen_ere6f.py.)
Ere6g: ere.Parse. (Printed by gen_ere6g.py.)
Lives6: trawllaw06.lives: the fixed facts of chapter 6. -/
import Derived.Test.YtpkcklpjbeginaaGreatDoorEreA
set_option linter.unusedSimpArgs false
set_option linter.unusedVariables false
set_option linter.unnecessarySimpa false

/-! ## Ere6d -/
namespace Go.Proofs.YtpkcklpjbeginaaGreatDoor
open Go.RowKit

/-- The contract of pattern, d groups being open. -/
def PattC (w0 : World) (gr : Nat) (p : ByteArray) (fl : Int) (a : Nat → Addr) (d : Nat) (f : Nat → Nat → PR) : Prop :=
 ∀ (y : World) (ov : Value) (i g : Nat), RdE y gr w0.heap.size p i fl g ov d .nilIface → i ≤ p.size → g ≤ i → Below w0.heap.size w0 y → Calls Tryz.prog 49 #[.pointer (some ⟨gr, 0, none⟩)] y (EPost w0 gr p fl a d (10000 * (40 - d)) ov y (f i g))
theorem RdG.form {y : World} {ty : TypeId} {gr B0 d : Nat} {cs : Array Value} {ov : Value} (h : RdG y ty gr B0 cs ov d) : ∃ A c, ov = .slice A d c := by
 obtain ⟨l, rfl, ho⟩ := h.opn
 obtain ⟨A, c, h1, _⟩ := ho.form
 exact ⟨A, c, h1⟩
theorem RdG.cut {y : World} {ty : TypeId} {gr B0 n c : Nat} {cs : Array Value} {A : Option Addr} (h : RdG y ty gr B0 cs (.slice A (n + 1) c) (n + 1)) (k : Nat) : RdG (y.setCell ⟨gr, k, none⟩ (.slice A n c)) ty gr B0 (cs.setIfInBounds k (.slice A n c)) (.slice A n c) n ∧ (Value.slice A n c).ownBlock = (Value.slice A (n + 1) c).ownBlock ∧ A.isSome = true ∧ n ≤ c := by
 have hne := h.ne
 obtain ⟨l, hl, ho⟩ := h.opn
 obtain ⟨h1, h2, h3, h4⟩ := ho.cut hl
 refine ⟨⟨h.box.set_ k _, ⟨l.take n, by rw [List.length_take]; omega, ?_⟩, h.base, h.nty⟩, h2, h3, h4⟩
 exact h1.same (ok := fun b => b ≠ gr) ((Same.refl _ _).set (fun e => e rfl) _) (fun b hb => hne b (by rw [← h2]; exact hb))
set_option maxRecDepth 100000 in
set_option maxHeartbeats 2000000 in
theorem ereGroup_any {w0 : World} {gr : Nat} {p : ByteArray} {fl : Int} {d : Nat} {a : Nat → Addr} {m : Int} {deeper : Option (Nat → Nat → PR)} (hd : d ≤ 32) (hB5 : B5 w0 a m) (hp : p.size ≤ 1024)
  (hD : (deeper = none ∧ d = 32) ∨ ∃ f, deeper = some f ∧ d < 32 ∧ PattC w0 gr p fl a (d + 1) f ∧ ∀ i g, i ≤ p.size → (f i g).Fine p i g 0) : GroupC w0 gr p fl a d deeper := by
 intro y ov i g h hi hgi hw
 have hB0 := hw.size
 have hz0 := Blk.new y 27 zeroCells
 have hbel := (Below.refl y.heap.size y).alloc (Nat.le_refl _) (.cells zeroCells 27)
 have H0 := hide (And.intro (h.next hbel) (And.intro (RdF.of_below (gr := gr) (x := ov.ownBlock) (Nat.le_trans hB0 (Nat.le_refl _)) hbel) hz0))
 have HB := hide hB0
 have HM := hide (fun (y' : World) (hb : Below w0.heap.size y y') => hB5.below (hw.trans hb))
 have HW := hide hw
 clear hz0 hbel h hB0 hB5 hw
 unfold zeroCells at *
 have HZ := hide (World.size_alloc y (.cells #[.int .i64 0, .int .u64 0, .int .u64 0, .int .u64 0, .int .u64 0, .slice none 0 0, .int .i64 0, .int .i64 0, .int .i64 0, .bool false] 27))
 obtain ⟨res, hres⟩ : ∃ res, res = groupP p 1 deeper i g := ⟨_, rfl⟩
 rw [← hres]
 have HRS := hide hres
 clear hres
 obtain ⟨A0, cc0, hov⟩ := H0.out.1.form
 subst hov
 have c0 := H0.out.1.box.cell
 have f0 := H0.out.1.box.frozen
 have HD := hide hD
 clear hD
 go_enter Tryz.func159, Tryz.ntmps159
 go_upto_region 1 with fail
 generalize (y.alloc (.cells #[.int .i64 0, .int .u64 0, .int .u64 0, .int .u64 0, .int .u64 0, .slice none 0 0, .int .i64 0, .int .i64 0, .int .i64 0, .bool false] 27)) = W at *
 rcases HD.out with ⟨hdn, rfl⟩ | ⟨f, hdf, hd32, hpat, hfine⟩
 ·have HE2 := hide (show res = .bad 10 i from by rw [HRS.out, hdn]; rfl)
  have HB1 := hide (Nat.le_trans HB.out H0.out.2.1.below.size)
  have H1 := hide H0.out
  clear HRS HD hdn c0 f0
  have cq := H1.out.1.box.cell
  have ceq := (HM.out _ H1.out.2.1.below).errs.var 1 (by decide)
  go_wp2_with fail
  refine (ereFail_any H1.out.1 HB1.out a 10 (i : Int)).mono ?_
  rintro e wf ⟨gf, rfl, hE, hFI, hF⟩
  have HFl := hide (And.intro hE (And.intro hFI (H1.out.2.1.trans hF)))
  have HBF := hide (Nat.le_trans HB1.out hF.below.size)
  have HKF := hide hF
  clear hE hFI hF cq ceq
  have HR5 := hide (HKF.out.blk_ H1.out.2.2 (blk_ne6 H1.out.2.2 H1.out.1.box (by decide)) (H1.out.1.apart H1.out.2.2 (by decide)))
  go_wp2_with (refine wpList_store_node rfl _ _ rfl y.heap.size _ ⟨0, 0, 0, 0, 0, 0, 0, 0, false⟩ none 0 0 rfl rfl HR5.out rfl ?_; intro w9 hrow9 hg9 hz9)
  refine bodyPost_ret (node_result rfl _ _ y.heap.size _ _ rfl hrow9) rfl ?_
  exact ebad (t := nilT) HE2.out HFl.out.1 HFl.out.2.1 HFl.out.2.2 (T.In_iff.2 trivial) (by simp only [nilT, T.nodes, TL.nodes]; omega) hg9 HR5.out (Nat.le_refl _) HB.out
 ·have g32 : ((d : Int) == 32) = false := by rw [beq_eq_false_iff_ne]; omega
  have HP := hide (And.intro hpat hfine)
  have HRS2 := hide (show res = (match f (i + 1) (g + 1) with
   | .bad c pl => .bad c pl
   | .ok t j h => if j < p.size then .ok (grpT ((g + 1 : Nat) : Int) t) (j + 1) h else .bad 1 i) from by rw [HRS.out, hdf]; rfl)
  clear HRS HD hdf hpat hfine
  obtain ⟨l, hld, hown⟩ := H0.out.1.opn
  have hal := (Below.refl W.heap.size W).alloc (Nat.le_refl _) (.cells #[.int .i64 (i : Int)] 3)
  have hownA := hown.below hal (Nat.le_refl _)
  have HBa := hide (Nat.le_trans HB.out H0.out.2.1.below.size)
  have HZ1 := hide (Nat.lt_of_lt_of_le H0.out.2.2.lt (Nat.le_refl _))
  have hblkA := Blk.new W 3 #[.int .i64 (i : Int)]
  have H1 := hide (And.intro (H0.out.1.next hal) (And.intro (H0.out.2.1.next HBa.out hal) (H0.out.2.2.next hal)))
  have hll : l.length < 1000000 := by omega
  clear hown hal
  subst hld
  have hsz : w0.heap.size ≤ (W.alloc (.cells #[.int .i64 (i : Int)] 3)).heap.size := by rw [World.size_alloc]; have := HBa.out; omega
  go_upto_region 5 with (at_builtin; refine wpList_append_open rfl _ _ rfl w0.heap.size _ l rfl hownA (i : Int) _ _ rfl hblkA hll hsz ?_; intro v5 w5 hown5 hg5 hat5; obtain ⟨A5, c5, rfl, _⟩ := hown5.form; have hgo5 := H1.out.1.ne; have c5' := (H1.out.1.box.grown hg5 (fun e => hgo5 gr e.symm rfl)).cell; have f5' := (H1.out.1.box.grown hg5 (fun e => hgo5 gr e.symm rfl)).frozen)
  have hl1 : (l ++ [(i : Int)]).length = l.length + 1 := by simp
  have hE := RdG.opened H1.out.1 hg5 hown5 4
  have hF := (H1.out.2.1.opened hg5 (fun q hq => (H1.out.1.lt q hq).1) hat5 hsz).set H1.out.1.base 4 (.slice A5 (l ++ [(i : Int)]).length c5)
  have hR := (H1.out.2.2.grown hg5 (fun e => H1.out.1.apart H1.out.2.2 (by decide) e.symm)).far (blk_ne6 H1.out.2.2 H1.out.1.box (by decide)) (p := ⟨gr, 4, none⟩) (.slice A5 (l ++ [(i : Int)]).length c5)
  rw [hl1] at hE hF hR
  have H2 := hide (And.intro (show RdE (w5.setCell ⟨gr, 4, none⟩ (.slice A5 (l.length + 1) c5)) gr w0.heap.size p (i + 1) fl g (.slice A5 (l.length + 1) c5) (l.length + 1) .nilIface from hE) (And.intro hF hR))
  have HZ2 := hide (show y.heap.size < (w5.setCell ⟨gr, 4, none⟩ (.slice A5 (l.length + 1) c5)).heap.size from hR.lt)
  have HB2 := hide (Nat.le_trans HB.out (Nat.le_of_lt HZ2.out))
  generalize (w5.setCell ⟨gr, 4, none⟩ (.slice A5 (l.length + 1) c5)) = W2 at *
  clear hown5 hg5 hat5 c5' f5' hgo5 hE hF hR hl1 hsz hownA hblkA c0 f0
  have c2 := H2.out.1.box.cell
  have f2 := H2.out.1.box.frozen
  go_upto_region 6 with fail
  have e1 : ((g : Int) + 1) = ((g + 1 : Nat) : Int) := by omega
  rw [e1]
  have H3 := hide (And.intro (RdE.setG H2.out.1 (g + 1)) (And.intro (H2.out.2.1.set H2.out.1.base 3 (.int .i64 ((g + 1 : Nat) : Int))) (H2.out.2.2.far (blk_ne6 H2.out.2.2 H2.out.1.box (by decide)) (p := ⟨gr, 3, none⟩) (.int .i64 ((g + 1 : Nat) : Int)))))
  have HZ3 := hide (show y.heap.size < (W2.setCell ⟨gr, 3, none⟩ (.int .i64 ((g + 1 : Nat) : Int))).heap.size from H3.out.2.2.lt)
  have HB3 := hide (Nat.le_trans HB.out (Nat.le_of_lt HZ3.out))
  generalize (W2.setCell ⟨gr, 3, none⟩ (.int .i64 ((g + 1 : Nat) : Int))) = W3 at *
  clear c2 f2 e1
  have c3 := H3.out.1.box.cell
  have HPt := hide (HP.out.1 W3 (.slice A5 (l.length + 1) c5) (i + 1) (g + 1) H3.out.1 (by omega) (by omega) (HW.out.trans H3.out.2.1.below))
  have HFn := hide (HP.out.2 (i + 1) (g + 1) (by omega))
  clear HP
  go_upto_region 7 with fail
  clear c3
  go_wp2_with fail
  refine HPt.out.mono ?_
  rintro e z hz
  cases hq : f (i + 1) (g + 1) with
  | bad q pl =>
   rw [hq] at hz HRS2
   obtain ⟨t, B, cc, ov', i', g', d', gf, rfl, hin, hnod, hE, hFI, hF⟩ := hz
   have HE2 := hide (show res = .bad q pl from HRS2.out)
   have H4 := hide (And.intro hE (And.intro (H3.out.2.1.trans hF) (And.intro (hF.blk_ H3.out.2.2 (blk_ne6 H3.out.2.2 H3.out.1.box (by decide)) (H3.out.1.apart H3.out.2.2 (by decide))) hFI)))
   have HT := hide (show TB z W3.heap.size z.heap.size ov'.ownBlock t B from hin)
   have HND := hide (show t.nodes ≤ 10000 * (39 - l.length) from by omega)
   have HB4 := hide (Nat.le_trans HB3.out hF.below.size)
   have HZz := hide (Nat.lt_of_lt_of_le HZ3.out hF.below.size)
   have hn0 := fun w => run_neq_iface_nil (P := Tryz.prog) (w := w) 32 Tryz.isIfaceErr6 83 (.pointer (some ⟨gf, 0, none⟩))
   clear hin hnod hE hF hFI HRS2 hq HPt HFn
   have hal := (Below.refl z.heap.size z).alloc (Nat.le_refl _) (.cells #[.int .i64 0, .int .u64 0, .int .u64 0, .int .u64 0, .int .u64 0, .slice none 0 0, .int .i64 0, .int .i64 0, .int .i64 0, .bool false] 27)
   have HAL := hide (And.intro (H4.out.1.next hal) (And.intro (H4.out.2.1.next HB4.out hal) (And.intro (H4.out.2.2.1.next hal) (And.intro (H4.out.2.2.2.next hal) (Blk.new z 27 #[.int .i64 0, .int .u64 0, .int .u64 0, .int .u64 0, .int .u64 0, .slice none 0 0, .int .i64 0, .int .i64 0, .int .i64 0, .bool false])))))
   have HTA := hide (HT.out.next hal (Nat.le_refl _))
   have hsA : (z.alloc (.cells #[.int .i64 0, .int .u64 0, .int .u64 0, .int .u64 0, .int .u64 0, .slice none 0 0, .int .i64 0, .int .i64 0, .int .i64 0, .bool false] 27)).heap.size = z.heap.size + 1 := World.size_alloc _ _
   have HSA := hide hsA
   have hltz := HZz.out
   clear hal hsA
   go_upto_region 8 with (refine wpList_store_node rfl _ _ rfl z.heap.size _ _ _ _ _ rfl rfl HAL.out.2.2.2.2 rfl ?_; intro w6 hrow_w6 hg_w6 hz_w6)
   have H6 := hide (And.intro (HAL.out.1.grown hg_w6 (fun e => (blk_ne6 HAL.out.2.2.2.2 HAL.out.1.box (by decide)) (Option.some.inj e)) (.inr (HAL.out.1.apart HAL.out.2.2.2.2 (by decide)))) (And.intro (HAL.out.2.1.grown hg_w6 (fun q hq => by rw [← Option.some.inj hq]; omega) HB.out) (And.intro (HAL.out.2.2.1.grown hg_w6 (fun e => by have := Option.some.inj e; omega)) (And.intro (Blk.grown HAL.out.2.2.2.1 hg_w6 (fun e => (blk_ne6 HAL.out.2.2.2.1 HAL.out.2.2.2.2 (by decide)) (Option.some.inj e))) (hrow_w6)))))
   have HT2 := hide (HTA.out.grown hg_w6 (Nat.le_refl _) (by have := HSA.out; omega))
   have HS_w6 := hide (show w6.heap.size = z.heap.size + 1 from hz_w6.trans HSA.out)
   have HB_w6 := hide (show w0.heap.size ≤ w6.heap.size from by have h1 := HB4.out; have h2 := HS_w6.out; omega)
   clear hg_w6 hrow_w6 hz_w6 hltz HAL HTA HSA
   have c6 := H6.out.1.box.cell
   unfold faultV at c6
   go_upto_region 9 with fail
   go_wp2_with (first | (refine wpList_load_node rfl _ rfl z.heap.size _ _ rfl H6.out.2.2.2.2 ?_) | (refine wpList_store_node rfl _ _ rfl y.heap.size _ _ _ _ _ rfl rfl H6.out.2.2.1 rfl ?_; intro w9 hrow9 hg9 hz9))
   refine bodyPost_ret (node_result rfl _ _ y.heap.size _ _ rfl hrow9) rfl ?_
   exact ebad HE2.out H6.out.1 H6.out.2.2.2.1 H6.out.2.1 (HT2.out.in_ (by have := HZ3.out; omega) (by have := HS_w6.out; omega)) HND.out hg9 H6.out.2.2.1 (Nat.le_refl _) HB.out
  | ok t j q =>
   rw [hq] at hz HRS2 HFn
   obtain ⟨B, c', ov', rfl, hin, hE, hF⟩ := hz
   have H4 := hide (And.intro hE (And.intro (H3.out.2.1.trans hF) (hF.blk_ H3.out.2.2 (blk_ne6 H3.out.2.2 H3.out.1.box (by decide)) (H3.out.1.apart H3.out.2.2 (by decide)))))
   have HT := hide (show TB z W3.heap.size z.heap.size ov'.ownBlock t B from hin)
   have HB4 := hide (Nat.le_trans HB3.out hF.below.size)
   have HZz := hide (Nat.lt_of_lt_of_le HZ3.out hF.below.size)
   have hfn := HFn.out
   simp only [PR.Fine] at hfn
   have hn0 := fun w => run_neq_nil_nil_at (P := Tryz.prog) (w := w) 32 Tryz.isIfaceErr6
   clear hin hE hF hq HPt HFn
   have hal := (Below.refl z.heap.size z).alloc (Nat.le_refl _) (.cells #[.int .i64 0, .int .u64 0, .int .u64 0, .int .u64 0, .int .u64 0, .slice none 0 0, .int .i64 0, .int .i64 0, .int .i64 0, .bool false] 27)
   have HAL := hide (And.intro (H4.out.1.next hal) (And.intro (H4.out.2.1.next HB4.out hal) (And.intro (H4.out.2.2.next hal) (Blk.new z 27 #[.int .i64 0, .int .u64 0, .int .u64 0, .int .u64 0, .int .u64 0, .slice none 0 0, .int .i64 0, .int .i64 0, .int .i64 0, .bool false]))))
   have HTA := hide (HT.out.next hal (Nat.le_refl _))
   have hsA : (z.alloc (.cells #[.int .i64 0, .int .u64 0, .int .u64 0, .int .u64 0, .int .u64 0, .slice none 0 0, .int .i64 0, .int .i64 0, .int .i64 0, .bool false] 27)).heap.size = z.heap.size + 1 := World.size_alloc _ _
   have HSA := hide hsA
   have hltz := HZz.out
   clear hal hsA
   go_upto_region 8 with (refine wpList_store_node rfl _ _ rfl z.heap.size _ _ _ _ _ rfl rfl HAL.out.2.2.2 rfl ?_; intro w6 hrow_w6 hg_w6 hz_w6)
   have H6 := hide (And.intro (HAL.out.1.grown hg_w6 (fun e => (blk_ne6 HAL.out.2.2.2 HAL.out.1.box (by decide)) (Option.some.inj e)) (.inr (HAL.out.1.apart HAL.out.2.2.2 (by decide)))) (And.intro (HAL.out.2.1.grown hg_w6 (fun q hq => by rw [← Option.some.inj hq]; omega) HB.out) (And.intro (HAL.out.2.2.1.grown hg_w6 (fun e => by have := Option.some.inj e; omega)) (hrow_w6))))
   have HT2 := hide (HTA.out.grown hg_w6 (Nat.le_refl _) (by have := HSA.out; omega))
   have HS_w6 := hide (show w6.heap.size = z.heap.size + 1 from hz_w6.trans HSA.out)
   have HB_w6 := hide (show w0.heap.size ≤ w6.heap.size from by have h1 := HB4.out; have h2 := HS_w6.out; omega)
   clear hg_w6 hrow_w6 hz_w6 hltz HAL HTA HSA
   have c6 := H6.out.1.box.cell
   have HN := hide (ereNext_nil (show RdE w6 gr w0.heap.size p j fl q ov' (l.length + 1) .nilIface from H6.out.1) (by omega) (by omega))
   go_upto_region 10 with fail
   clear c6 hn0
   go_wp2_with fail
   refine HN.out.mono ?_
   rintro e w7 ⟨rfl, hb7⟩
   have H7 := hide (And.intro (H6.out.1.next hb7) (And.intro (H6.out.2.1.next HB_w6.out hb7) (And.intro (H6.out.2.2.1.next hb7) (H6.out.2.2.2.next hb7))))
   have HT7 := hide (HT2.out.next hb7 (by have := HS_w6.out; omega))
   have HB7 := hide (Nat.le_trans HB_w6.out hb7.size)
   have HS7 := hide (show z.heap.size < w7.heap.size from by have h1 := HS_w6.out; have h2 := hb7.size; omega)
   clear hb7 HN
   by_cases hj : j < p.size
   case neg =>
    rw [if_neg hj, decide_eq_false hj]
    have HE2 := hide (show res = .bad 1 i from by rw [HRS2.out]; exact if_neg hj)
    have HND := hide (show t.nodes ≤ 10000 * (39 - l.length) from by omega)
    have cq := H7.out.1.box.cell
    have ceq := (HM.out _ H7.out.2.1.below).errs.var 4 (by decide)
    go_wp2_with fail
    refine (ereFail_any H7.out.1 HB7.out a 1 (i : Int)).mono ?_
    rintro e wf ⟨gf, rfl, hE, hFI, hF⟩
    have HFl := hide (And.intro hE (And.intro hFI (H7.out.2.1.trans hF)))
    have HBF := hide (Nat.le_trans HB7.out hF.below.size)
    have HKF := hide hF
    clear hE hFI hF cq ceq
    have HR5 := hide (HKF.out.blk_ H7.out.2.2.1 (blk_ne6 H7.out.2.2.1 H7.out.1.box (by decide)) (H7.out.1.apart H7.out.2.2.1 (by decide)))
    have HX5 := hide (HKF.out.blk_ H7.out.2.2.2 (blk_ne6 H7.out.2.2.2 H7.out.1.box (by decide)) (H7.out.1.apart H7.out.2.2.2 (by decide)))
    have HT8 := hide (HT7.out.rdf HKF.out (Nat.lt_of_lt_of_le (Nat.lt_of_lt_of_le H3.out.1.box.lt (Nat.le_refl _)) (Nat.le_refl _)) (Nat.le_of_lt HS7.out))
    have HS8 := hide (Nat.lt_of_lt_of_le HS7.out HKF.out.below.size)
    go_wp2_with (first | (refine wpList_load_node rfl _ rfl z.heap.size _ _ rfl HX5.out ?_) | (refine wpList_store_node rfl _ _ rfl y.heap.size _ _ _ _ _ rfl rfl HR5.out rfl ?_; intro w9 hrow9 hg9 hz9))
    refine bodyPost_ret (node_result rfl _ _ y.heap.size _ _ rfl hrow9) rfl ?_
    exact ebad HE2.out HFl.out.1 HFl.out.2.1 HFl.out.2.2 (HT8.out.in_ (by have := HZ3.out; omega) (Nat.le_of_lt HS8.out)) HND.out hg9 HR5.out (Nat.le_refl _) HB.out
   case pos =>
    rw [if_pos hj, decide_eq_true hj]
    have HE2 := hide (show res = .ok (grpT ((g + 1 : Nat) : Int) t) (j + 1) q from by rw [HRS2.out]; exact if_pos hj)
    obtain ⟨A7, c7, hov7⟩ := H7.out.1.form
    subst hov7
    have c8 := H7.out.1.box.cell
    have f8 := H7.out.1.box.frozen
    go_upto_region 15 with fail
    have e1 : ((j : Int) + 1) = ((j + 1 : Nat) : Int) := by omega
    rw [e1]
    have H8 := hide (And.intro (RdE.setI (show RdE w7 gr w0.heap.size p j fl q (.slice A7 (l.length + 1) c7) (l.length + 1) .nilIface from H7.out.1) (j + 1)) (And.intro (H7.out.2.1.set H7.out.1.base 1 (.int .i64 ((j + 1 : Nat) : Int))) (And.intro (H7.out.2.2.1.far (blk_ne6 H7.out.2.2.1 H7.out.1.box (by decide)) (p := ⟨gr, 1, none⟩) (.int .i64 ((j + 1 : Nat) : Int))) (H7.out.2.2.2.far (blk_ne6 H7.out.2.2.2 H7.out.1.box (by decide)) (p := ⟨gr, 1, none⟩) (.int .i64 ((j + 1 : Nat) : Int))))))
    have HT8 := hide (HT7.out.set H3.out.1.box.lt 1 (.int .i64 ((j + 1 : Nat) : Int)))
    have HS8 := hide (show z.heap.size < (w7.setCell ⟨gr, 1, none⟩ (.int .i64 ((j + 1 : Nat) : Int))).heap.size from by rw [World.size_setCell]; exact HS7.out)
    have HB8 := hide (show w0.heap.size ≤ (w7.setCell ⟨gr, 1, none⟩ (.int .i64 ((j + 1 : Nat) : Int))).heap.size from by rw [World.size_setCell]; exact HB7.out)
    generalize (w7.setCell ⟨gr, 1, none⟩ (.int .i64 ((j + 1 : Nat) : Int))) = w8 at *
    clear c8 f8 e1
    obtain ⟨dn, hdn⟩ : ∃ dn, dn = l.length + 1 := ⟨_, rfl⟩
    have iw : IntKind.i64.wrap ((dn : Int) - 1) = ((l.length : Nat) : Int) := by rw [wrapI (by omega) (by omega)]; omega
    have hcut := (RdG.cut (show RdG w8 90 gr w0.heap.size #[.string p, .int .i64 ((j + 1 : Nat) : Int), .int .i64 fl, .int .i64 (q : Int), .slice A7 (l.length + 1) c7, .nilIface] (.slice A7 (l.length + 1) c7) (l.length + 1) from H8.out.1) 4)
    obtain ⟨qA, hqA⟩ := Option.isSome_iff_exists.1 hcut.2.2.1
    have hle7 := hcut.2.2.2
    have k1 : ((l.length : Nat) : Int) ≤ (c7 : Int) := by omega
    have k2 : (dn : Int) ≠ 0 := by omega
    have HC7 := hide (And.intro hcut.1 hcut.2.1)
    have c9 := H8.out.1.box.cell
    have f9 := H8.out.1.box.frozen
    rw [← hdn] at c9
    clear hcut hle7
    subst hqA
    have iw2 : IntKind.i64.wrap ((l.length : Nat) : Int) = ((l.length : Nat) : Int) := wrapI (by omega) (by omega)
    go_still_tail 14, (by kernel_rfl)
    change wpList _ _ _ _ _ w8.drew
    generalize hwd : w8.drew = wd
    have hbd : Below w8.heap.size w8 wd := by rw [← hwd]; exact (Below.refl _ _).drew
    clear hwd c9 f9 iw iw2 k1 k2 hdn HC7
    have H9 := hide (And.intro (H8.out.1.next hbd) (And.intro (H8.out.2.1.next HB8.out hbd) (And.intro (H8.out.2.2.1.next hbd) (H8.out.2.2.2.next hbd))))
    have HT9 := hide (HT8.out.next hbd (Nat.le_of_lt HS8.out))
    have HS9 := hide (Nat.lt_of_lt_of_le HS8.out hbd.size)
    have HB9 := hide (Nat.le_trans HB8.out hbd.size)
    clear hbd
    have c9 := H9.out.1.box.cell
    have f9 := H9.out.1.box.frozen
    go_upto_region 16 with fail
    have hcut := (RdG.cut (show RdG wd 90 gr w0.heap.size #[.string p, .int .i64 ((j + 1 : Nat) : Int), .int .i64 fl, .int .i64 (q : Int), .slice (some qA) (l.length + 1) c7, .nilIface] (.slice (some qA) (l.length + 1) c7) (l.length + 1) from H9.out.1) 4)
    have hF10 := H9.out.2.1.set H9.out.1.base 4 (.slice (some qA) l.length c7)
    rw [← hcut.2.1] at hF10
    have hT10 := HT9.out.set H3.out.1.box.lt 4 (.slice (some qA) l.length c7)
    rw [← hcut.2.1] at hT10
    have H10 := hide (And.intro (show RdE (wd.setCell ⟨gr, 4, none⟩ (.slice (some qA) l.length c7)) gr w0.heap.size p (j + 1) fl q (.slice (some qA) l.length c7) l.length .nilIface from hcut.1) (And.intro hF10 (And.intro (H9.out.2.2.1.far (blk_ne6 H9.out.2.2.1 H9.out.1.box (by decide)) (p := ⟨gr, 4, none⟩) (.slice (some qA) l.length c7)) (H9.out.2.2.2.far (blk_ne6 H9.out.2.2.2 H9.out.1.box (by decide)) (p := ⟨gr, 4, none⟩) (.slice (some qA) l.length c7)))))
    have HT10 := hide hT10
    have HS10 := hide (show z.heap.size < (wd.setCell ⟨gr, 4, none⟩ (.slice (some qA) l.length c7)).heap.size from by rw [World.size_setCell]; exact HS9.out)
    have HB10 := hide (show w0.heap.size ≤ (wd.setCell ⟨gr, 4, none⟩ (.slice (some qA) l.length c7)).heap.size from by rw [World.size_setCell]; exact HB9.out)
    clear hcut hF10 hT10 c9 f9
    generalize (wd.setCell ⟨gr, 4, none⟩ (.slice (some qA) l.length c7)) = w10 at *
    have HGr := hide (group_any t B c' ((g : Int) + 1) w10 (by omega) (HT10.out.all (Nat.le_of_lt HS10.out)))
    go_wp2_with (refine wpList_load_node rfl _ rfl z.heap.size _ _ rfl H10.out.2.2.2 ?_)
    refine HGr.out.mono ?_
    intro e w11 hfr
    obtain ⟨B2, c2, rfl, hin2, hb11⟩ := fresh_tb (x := (Value.slice (some qA) l.length c7).ownBlock) hfr (fun b hb => (H10.out.1.lt b hb).2)
    have H11 := hide (And.intro (H10.out.1.next hb11) (And.intro (H10.out.2.1.next HB10.out hb11) (And.intro (H10.out.2.2.1.next hb11) (H10.out.2.2.2.next hb11))))
    have HT11 := hide hin2
    have HS11 := hide (show y.heap.size + 1 ≤ w10.heap.size from by have := HS10.out; have := HZz.out; omega)
    clear hin2 hb11 HGr hfr
    go_wp2_with (refine wpList_store_node rfl _ _ rfl y.heap.size _ _ _ _ _ rfl rfl H11.out.2.2.1 rfl ?_; intro w9 hrow9 hg9 hz9)
    refine bodyPost_ret (node_result rfl _ _ y.heap.size _ _ rfl hrow9) rfl ?_
    exact eok HE2.out H11.out.1 H11.out.2.1 (HT11.out.in_ HS11.out (Nat.le_refl _)) hg9 H11.out.2.2.1 (Nat.le_refl _) HB.out
end Go.Proofs.YtpkcklpjbeginaaGreatDoor

/-! ## Ere6e -/
namespace Go.Proofs.YtpkcklpjbeginaaGreatDoor
open Go.RowKit
set_option maxRecDepth 100000 in
set_option maxHeartbeats 1000000 in
theorem ereRepeat_bad {y : World} {gr B0 : Nat} {p : ByteArray} {i : Nat} {fl : Int} {g : Nat} {ov : Value} {d gf : Nat} (h : RdE y gr B0 p i fl g ov d (faultV gf)) :
  Calls Tryz.prog 143 #[.pointer (some ⟨gr, 0, none⟩)] y fun e y' => e = .returned (.tuple #[.int .i64 0, .int .i64 0, .bool false]) ∧ Below y.heap.size y y' := by
 have HN := hide (ereNext_bad h)
 clear h
 go_enter Tryz.func143, Tryz.ntmps143
 go_wp2_with fail
 refine HN.out.mono ?_
 rintro e w1 ⟨rfl, hb1⟩
 have H1 := hide hb1
 clear hb1
 go_wp2_with fail
 go_ret3
 exact ⟨rfl, H1.out⟩
set_option maxRecDepth 100000 in
set_option maxHeartbeats 4000000 in
theorem erePiece_any {w0 y : World} {gr : Nat} {p : ByteArray} {i : Nat} {fl : Int} {g : Nat} {ov : Value} {d : Nat} {a : Nat → Addr} {m : Int} {deeper : Option (Nat → Nat → PR)} (hd : d ≤ 32) (hB5 : B5 w0 a m) (hG : GroupC w0 gr p fl a d deeper) (hdf : ∀ f, deeper = some f → ∀ i g, i ≤ p.size → (f i g).Fine p i g 0) (h : RdE y gr w0.heap.size p i fl g ov d .nilIface) (hp : p.size ≤ 1024) (hi : i < p.size) (hgi : g ≤ i) (hw : Below w0.heap.size w0 y) :
  Calls Tryz.prog 117 #[.pointer (some ⟨gr, 0, none⟩), .int .u8 ((pb p i : Nat) : Int)] y (EPost w0 gr p fl a d (10000 * (39 - d)) ov y (pieceE p (!decide (bits .and .i64 fl 2 = 0)) (!decide (bits .and .i64 fl 4 = 0)) deeper i g)) := by
 have hB0 := hw.size
 have hFn := atomE_fine (ic := !decide (bits .and .i64 fl 2 = 0)) (nl := !decide (bits .and .i64 fl 4 = 0)) hdf (g := g) hi
 have HG := hide (fun (y' : World) (h' : RdE y' gr w0.heap.size p i fl g ov d .nilIface) (hw' : Below w0.heap.size w0 y') => ereAtom_any hd hB5 hG h' hp hi hgi hw')
 clear hG hdf
 obtain ⟨ic, hic⟩ : ∃ ic, ic = !decide (bits .and .i64 fl 2 = 0) := ⟨_, rfl⟩
 obtain ⟨nl, hnl⟩ : ∃ nl, nl = !decide (bits .and .i64 fl 4 = 0) := ⟨_, rfl⟩
 rw [← hic, ← hnl] at HG hFn ⊢
 have HFn := hide hFn
 clear hic hnl hFn
 have hz0 := Blk.new y 27 zeroCells
 have hbel := (Below.refl y.heap.size y).alloc (Nat.le_refl _) (.cells zeroCells 27)
 have H0 := hide (And.intro (h.next hbel) (And.intro (RdF.of_below (gr := gr) (x := ov.ownBlock) (Nat.le_trans hB0 (Nat.le_refl _)) hbel) hz0))
 have HB := hide hB0
 have HM := hide (fun (y' : World) (hb : Below w0.heap.size y y') => hB5.below (hw.trans hb))
 have HW := hide hw
 clear hz0 hbel h hB0 hB5 hw
 unfold zeroCells at *
 have HZ := hide (World.size_alloc y (.cells #[.int .i64 0, .int .u64 0, .int .u64 0, .int .u64 0, .int .u64 0, .slice none 0 0, .int .i64 0, .int .i64 0, .int .i64 0, .bool false] 27))
 have hpl := pb_lt hi
 have HB1 := hide (Nat.le_trans HB.out H0.out.2.1.below.size)
 have HZ1 := hide (show y.heap.size < (y.alloc (.cells #[.int .i64 0, .int .u64 0, .int .u64 0, .int .u64 0, .int .u64 0, .slice none 0 0, .int .i64 0, .int .i64 0, .int .i64 0, .bool false] 27)).heap.size from by rw [World.size_alloc]; omega)
 have c0 := H0.out.1.box.cell
 have f0 := H0.out.1.box.frozen
 obtain ⟨res, hres⟩ : ∃ res, res = pieceE p ic nl deeper i g := ⟨_, rfl⟩
 rw [← hres]
 have HRS := hide hres
 clear hres
 have e1 : Hid (((i : Int) + 1) = ((i + 1 : Nat) : Int)) := hide (by omega)
 obtain ⟨c, hc⟩ : ∃ c, c = pb p i := ⟨_, rfl⟩
 rw [← hc] at hpl HG ⊢
 have HC := hide hc
 clear hc
 go_enter Tryz.func117, Tryz.ntmps117
 go_upto_region 1 with fail
 generalize (y.alloc (.cells #[.int .i64 0, .int .u64 0, .int .u64 0, .int .u64 0, .int .u64 0, .slice none 0 0, .int .i64 0, .int .i64 0, .int .i64 0, .bool false] 27)) = W at *
 go_upto_region 2 with fail
 by_cases h94 : c = 94
 ·have HE := hide (show res = .ok begT (i + 1) g from by rw [HRS.out]; unfold pieceE; rw [← HC.out]; rw [if_pos h94])
  subst h94
  clear HG HRS hpl
  go_upto_region 4 with fail
  rw [e1.out]
  have H1 := hide (And.intro (RdE.setI H0.out.1 (i + 1)) (And.intro (H0.out.2.1.set H0.out.1.base 1 (.int .i64 ((i + 1 : Nat) : Int))) (H0.out.2.2.far (blk_ne6 H0.out.2.2 H0.out.1.box (by decide)) (p := ⟨gr, 1, none⟩) (.int .i64 ((i + 1 : Nat) : Int)))))
  generalize (W.setCell ⟨gr, 1, none⟩ (.int .i64 ((i + 1 : Nat) : Int))) = W1 at *
  clear c0 f0
  go_wp2_with (refine wpList_store_node rfl _ _ rfl y.heap.size _ ⟨3, 0, 0, 0, 0, 0, 0, 0, false⟩ none 0 0 rfl rfl H1.out.2.2 rfl ?_; intro w9 hrow9 hg9 hz9)
  refine bodyPost_ret (node_result rfl _ _ y.heap.size _ _ rfl hrow9) rfl ?_
  exact eok (t := begT) HE.out H1.out.1 H1.out.2.1 (T.In_iff.2 trivial) hg9 H1.out.2.2 (Nat.le_refl _) HB.out
 by_cases h36 : c = 36
 ·have HE := hide (show res = .ok endT (i + 1) g from by rw [HRS.out]; unfold pieceE; rw [← HC.out]; rw [if_neg h94]; rw [if_pos h36])
  subst h36
  clear HG HRS hpl
  go_upto_region 7 with fail
  rw [e1.out]
  have H1 := hide (And.intro (RdE.setI H0.out.1 (i + 1)) (And.intro (H0.out.2.1.set H0.out.1.base 1 (.int .i64 ((i + 1 : Nat) : Int))) (H0.out.2.2.far (blk_ne6 H0.out.2.2 H0.out.1.box (by decide)) (p := ⟨gr, 1, none⟩) (.int .i64 ((i + 1 : Nat) : Int)))))
  generalize (W.setCell ⟨gr, 1, none⟩ (.int .i64 ((i + 1 : Nat) : Int))) = W1 at *
  clear c0 f0
  go_wp2_with (refine wpList_store_node rfl _ _ rfl y.heap.size _ ⟨4, 0, 0, 0, 0, 0, 0, 0, false⟩ none 0 0 rfl rfl H1.out.2.2 rfl ?_; intro w9 hrow9 hg9 hz9)
  refine bodyPost_ret (node_result rfl _ _ y.heap.size _ _ rfl hrow9) rfl ?_
  exact eok (t := endT) HE.out H1.out.1 H1.out.2.1 (T.In_iff.2 trivial) hg9 H1.out.2.2 (Nat.le_refl _) HB.out
 by_cases h42 : c = 42
 ·have HE2 := hide (show res = .bad 8 i from by rw [HRS.out]; unfold pieceE; rw [← HC.out]; rw [if_neg h94]; rw [if_neg h36]; rw [if_pos (by omega)])
  subst h42
  have H0a := hide (And.intro H0.out.1 H0.out.2.1)
  clear HG HRS hpl c0 f0
  have cq := H0a.out.1.box.cell
  have ceq := (HM.out _ H0a.out.2.below).errs.var 11 (by decide)
  go_wp2_with fail
  go_still_tail 6, (by kernel_rfl)
  change wpList _ _ _ _ _ W.drew
  generalize hwd : W.drew = wd
  have hbd : Below W.heap.size W wd := by rw [← hwd]; exact (Below.refl _ _).drew
  have HD := hide (And.intro (H0a.out.1.next hbd) (H0a.out.2.next HB1.out hbd))
  have HBD := hide (Nat.le_trans HB1.out hbd.size)
  have hdraw := hide (RdF.of_below (gr := gr) (x := ov.ownBlock) HB1.out hbd)
  clear hbd hwd cq ceq
  go_wp2_with fail
  refine (ereFail_any HD.out.1 HBD.out a 8 (i : Int)).mono ?_
  rintro e wf ⟨gf, rfl, hE, hFI, hF⟩
  have HFl := hide (And.intro hE (And.intro hFI (HD.out.2.trans hF)))
  have HBF := hide (Nat.le_trans HBD.out hF.below.size)
  have HKF := hide hF
  clear hE hFI hF
  have HR5 := hide ((hdraw.out.trans HKF.out).blk_ H0.out.2.2 (blk_ne6 H0.out.2.2 H0.out.1.box (by decide)) (H0.out.1.apart H0.out.2.2 (by decide)))
  go_wp2_with (refine wpList_store_node rfl _ _ rfl y.heap.size _ ⟨0, 0, 0, 0, 0, 0, 0, 0, false⟩ none 0 0 rfl rfl HR5.out rfl ?_; intro w9 hrow9 hg9 hz9)
  refine bodyPost_ret (node_result rfl _ _ y.heap.size _ _ rfl hrow9) rfl ?_
  exact ebad (t := nilT) HE2.out HFl.out.1 HFl.out.2.1 HFl.out.2.2 (T.In_iff.2 trivial) (by simp only [nilT, T.nodes, TL.nodes]; omega) hg9 HR5.out (Nat.le_refl _) HB.out
 by_cases h43 : c = 43
 ·have HE2 := hide (show res = .bad 8 i from by rw [HRS.out]; unfold pieceE; rw [← HC.out]; rw [if_neg h94]; rw [if_neg h36]; rw [if_pos (by omega)])
  subst h43
  have H0a := hide (And.intro H0.out.1 H0.out.2.1)
  clear HG HRS hpl c0 f0
  have cq := H0a.out.1.box.cell
  have ceq := (HM.out _ H0a.out.2.below).errs.var 11 (by decide)
  go_wp2_with fail
  go_still_tail 6, (by kernel_rfl)
  change wpList _ _ _ _ _ W.drew
  generalize hwd : W.drew = wd
  have hbd : Below W.heap.size W wd := by rw [← hwd]; exact (Below.refl _ _).drew
  have HD := hide (And.intro (H0a.out.1.next hbd) (H0a.out.2.next HB1.out hbd))
  have HBD := hide (Nat.le_trans HB1.out hbd.size)
  have hdraw := hide (RdF.of_below (gr := gr) (x := ov.ownBlock) HB1.out hbd)
  clear hbd hwd cq ceq
  go_wp2_with fail
  refine (ereFail_any HD.out.1 HBD.out a 8 (i : Int)).mono ?_
  rintro e wf ⟨gf, rfl, hE, hFI, hF⟩
  have HFl := hide (And.intro hE (And.intro hFI (HD.out.2.trans hF)))
  have HBF := hide (Nat.le_trans HBD.out hF.below.size)
  have HKF := hide hF
  clear hE hFI hF
  have HR5 := hide ((hdraw.out.trans HKF.out).blk_ H0.out.2.2 (blk_ne6 H0.out.2.2 H0.out.1.box (by decide)) (H0.out.1.apart H0.out.2.2 (by decide)))
  go_wp2_with (refine wpList_store_node rfl _ _ rfl y.heap.size _ ⟨0, 0, 0, 0, 0, 0, 0, 0, false⟩ none 0 0 rfl rfl HR5.out rfl ?_; intro w9 hrow9 hg9 hz9)
  refine bodyPost_ret (node_result rfl _ _ y.heap.size _ _ rfl hrow9) rfl ?_
  exact ebad (t := nilT) HE2.out HFl.out.1 HFl.out.2.1 HFl.out.2.2 (T.In_iff.2 trivial) (by simp only [nilT, T.nodes, TL.nodes]; omega) hg9 HR5.out (Nat.le_refl _) HB.out
 by_cases h63 : c = 63
 ·have HE2 := hide (show res = .bad 8 i from by rw [HRS.out]; unfold pieceE; rw [← HC.out]; rw [if_neg h94]; rw [if_neg h36]; rw [if_pos (by omega)])
  subst h63
  have H0a := hide (And.intro H0.out.1 H0.out.2.1)
  clear HG HRS hpl c0 f0
  have cq := H0a.out.1.box.cell
  have ceq := (HM.out _ H0a.out.2.below).errs.var 11 (by decide)
  go_wp2_with fail
  go_still_tail 6, (by kernel_rfl)
  change wpList _ _ _ _ _ W.drew
  generalize hwd : W.drew = wd
  have hbd : Below W.heap.size W wd := by rw [← hwd]; exact (Below.refl _ _).drew
  have HD := hide (And.intro (H0a.out.1.next hbd) (H0a.out.2.next HB1.out hbd))
  have HBD := hide (Nat.le_trans HB1.out hbd.size)
  have hdraw := hide (RdF.of_below (gr := gr) (x := ov.ownBlock) HB1.out hbd)
  clear hbd hwd cq ceq
  go_wp2_with fail
  refine (ereFail_any HD.out.1 HBD.out a 8 (i : Int)).mono ?_
  rintro e wf ⟨gf, rfl, hE, hFI, hF⟩
  have HFl := hide (And.intro hE (And.intro hFI (HD.out.2.trans hF)))
  have HBF := hide (Nat.le_trans HBD.out hF.below.size)
  have HKF := hide hF
  clear hE hFI hF
  have HR5 := hide ((hdraw.out.trans HKF.out).blk_ H0.out.2.2 (blk_ne6 H0.out.2.2 H0.out.1.box (by decide)) (H0.out.1.apart H0.out.2.2 (by decide)))
  go_wp2_with (refine wpList_store_node rfl _ _ rfl y.heap.size _ ⟨0, 0, 0, 0, 0, 0, 0, 0, false⟩ none 0 0 rfl rfl HR5.out rfl ?_; intro w9 hrow9 hg9 hz9)
  refine bodyPost_ret (node_result rfl _ _ y.heap.size _ _ rfl hrow9) rfl ?_
  exact ebad (t := nilT) HE2.out HFl.out.1 HFl.out.2.1 HFl.out.2.2 (T.In_iff.2 trivial) (by simp only [nilT, T.nodes, TL.nodes]; omega) hg9 HR5.out (Nat.le_refl _) HB.out
 by_cases h123 : c = 123
 ·have HE2 := hide (show res = .bad 8 i from by rw [HRS.out]; unfold pieceE; rw [← HC.out]; rw [if_neg h94]; rw [if_neg h36]; rw [if_pos (by omega)])
  subst h123
  have H0a := hide (And.intro H0.out.1 H0.out.2.1)
  clear HG HRS hpl c0 f0
  have cq := H0a.out.1.box.cell
  have ceq := (HM.out _ H0a.out.2.below).errs.var 11 (by decide)
  go_wp2_with fail
  go_still_tail 6, (by kernel_rfl)
  change wpList _ _ _ _ _ W.drew
  generalize hwd : W.drew = wd
  have hbd : Below W.heap.size W wd := by rw [← hwd]; exact (Below.refl _ _).drew
  have HD := hide (And.intro (H0a.out.1.next hbd) (H0a.out.2.next HB1.out hbd))
  have HBD := hide (Nat.le_trans HB1.out hbd.size)
  have hdraw := hide (RdF.of_below (gr := gr) (x := ov.ownBlock) HB1.out hbd)
  clear hbd hwd cq ceq
  go_wp2_with fail
  refine (ereFail_any HD.out.1 HBD.out a 8 (i : Int)).mono ?_
  rintro e wf ⟨gf, rfl, hE, hFI, hF⟩
  have HFl := hide (And.intro hE (And.intro hFI (HD.out.2.trans hF)))
  have HBF := hide (Nat.le_trans HBD.out hF.below.size)
  have HKF := hide hF
  clear hE hFI hF
  have HR5 := hide ((hdraw.out.trans HKF.out).blk_ H0.out.2.2 (blk_ne6 H0.out.2.2 H0.out.1.box (by decide)) (H0.out.1.apart H0.out.2.2 (by decide)))
  go_wp2_with (refine wpList_store_node rfl _ _ rfl y.heap.size _ ⟨0, 0, 0, 0, 0, 0, 0, 0, false⟩ none 0 0 rfl rfl HR5.out rfl ?_; intro w9 hrow9 hg9 hz9)
  refine bodyPost_ret (node_result rfl _ _ y.heap.size _ _ rfl hrow9) rfl ?_
  exact ebad (t := nilT) HE2.out HFl.out.1 HFl.out.2.1 HFl.out.2.2 (T.In_iff.2 trivial) (by simp only [nilT, T.nodes, TL.nodes]; omega) hg9 HR5.out (Nat.le_refl _) HB.out
 have HE0 := hide (show res = (match atomE p ic nl deeper i g with
   | .bad c pl => .bad c pl
   | .ok t j h => withRep (repE p j) t j h) from by rw [HRS.out]; unfold pieceE; rw [← HC.out, if_neg h94, if_neg h36, if_neg (by omega)]; rfl)
 have g94 : ((c : Int) == 94) = false := by rw [beq_eq_false_iff_ne]; omega
 have g36 : ((c : Int) == 36) = false := by rw [beq_eq_false_iff_ne]; omega
 have g42 : ((c : Int) == 42) = false := by rw [beq_eq_false_iff_ne]; omega
 have g43 : ((c : Int) == 43) = false := by rw [beq_eq_false_iff_ne]; omega
 have g63 : ((c : Int) == 63) = false := by rw [beq_eq_false_iff_ne]; omega
 have g123 : ((c : Int) == 123) = false := by rw [beq_eq_false_iff_ne]; omega
 have HA := hide (HG.out W (show RdE W gr w0.heap.size p i fl g ov d .nilIface from H0.out.1) (HW.out.trans H0.out.2.1.below))
 clear HG HRS HC h94 h36 h42 h43 h63 h123 c0 f0 e1
 go_upto_region 14 with fail
 clear g94 g36 g42 g43 g63 g123
 go_wp2_with fail
 refine HA.out.mono ?_
 rintro e z hz
 cases hq : atomE p ic nl deeper i g with
 | bad q pl =>
  rw [hq] at hz HE0
  obtain ⟨t, B, cc, ov', i', g', d', gf, rfl, hin, hnod, hE, hFI, hF⟩ := hz
  have HE2 := hide (show res = .bad q pl from HE0.out)
  have H4 := hide (And.intro hE (And.intro (H0.out.2.1.trans hF) (And.intro (hF.blk_ H0.out.2.2 (blk_ne6 H0.out.2.2 H0.out.1.box (by decide)) (H0.out.1.apart H0.out.2.2 (by decide))) hFI)))
  have HT := hide (show TB z W.heap.size z.heap.size ov'.ownBlock t B from hin)
  have HND := hide hnod
  have HB4 := hide (Nat.le_trans HB1.out hF.below.size)
  have HZz := hide (Nat.lt_of_lt_of_le HZ1.out hF.below.size)
  have hn0 := fun w => run_neq_iface_nil (P := Tryz.prog) (w := w) 32 Tryz.isIfaceErr6 83 (.pointer (some ⟨gf, 0, none⟩))
  clear hin hnod hE hF hFI hq HA HE0
  have hal := (Below.refl z.heap.size z).alloc (Nat.le_refl _) (.cells #[.int .i64 0, .int .u64 0, .int .u64 0, .int .u64 0, .int .u64 0, .slice none 0 0, .int .i64 0, .int .i64 0, .int .i64 0, .bool false] 27)
  have HAL := hide (And.intro (H4.out.1.next hal) (And.intro (H4.out.2.1.next HB4.out hal) (And.intro (H4.out.2.2.1.next hal) (And.intro (H4.out.2.2.2.next hal) (Blk.new z 27 #[.int .i64 0, .int .u64 0, .int .u64 0, .int .u64 0, .int .u64 0, .slice none 0 0, .int .i64 0, .int .i64 0, .int .i64 0, .bool false])))))
  have HTA := hide (HT.out.next hal (Nat.le_refl _))
  have hsA : (z.alloc (.cells #[.int .i64 0, .int .u64 0, .int .u64 0, .int .u64 0, .int .u64 0, .slice none 0 0, .int .i64 0, .int .i64 0, .int .i64 0, .bool false] 27)).heap.size = z.heap.size + 1 := World.size_alloc _ _
  have HSA := hide hsA
  have hltz := HZz.out
  clear hal hsA
  go_upto_region 15 with (refine wpList_store_node rfl _ _ rfl z.heap.size _ _ _ _ _ rfl rfl HAL.out.2.2.2.2 rfl ?_; intro w6 hrow_w6 hg_w6 hz_w6)
  have H6 := hide (And.intro (HAL.out.1.grown hg_w6 (fun e => (blk_ne6 HAL.out.2.2.2.2 HAL.out.1.box (by decide)) (Option.some.inj e)) (.inr (HAL.out.1.apart HAL.out.2.2.2.2 (by decide)))) (And.intro (HAL.out.2.1.grown hg_w6 (fun q hq => by rw [← Option.some.inj hq]; omega) HB.out) (And.intro (HAL.out.2.2.1.grown hg_w6 (fun e => by have := Option.some.inj e; omega)) (And.intro (Blk.grown HAL.out.2.2.2.1 hg_w6 (fun e => (blk_ne6 HAL.out.2.2.2.1 HAL.out.2.2.2.2 (by decide)) (Option.some.inj e))) (hrow_w6)))))
  have HT2 := hide (HTA.out.grown hg_w6 (Nat.le_refl _) (by have := HSA.out; omega))
  have HS_w6 := hide (show w6.heap.size = z.heap.size + 1 from hz_w6.trans HSA.out)
  have HB_w6 := hide (show w0.heap.size ≤ w6.heap.size from by have h1 := HB4.out; have h2 := HS_w6.out; omega)
  clear hg_w6 hrow_w6 hz_w6 hltz HAL HTA HSA
  have HRp := hide (ereRepeat_bad (show RdE w6 gr w0.heap.size p i' fl g' ov' d' (faultV gf) from H6.out.1))
  have c6 := H6.out.1.box.cell
  go_upto_region 16 with fail
  clear c6
  go_wp2_with fail
  refine HRp.out.mono ?_
  rintro e w7 ⟨rfl, hb7⟩
  have H7 := hide (And.intro (H6.out.1.next hb7) (And.intro (H6.out.2.1.next HB_w6.out hb7) (And.intro (H6.out.2.2.1.next hb7) (And.intro (H6.out.2.2.2.1.next hb7) (H6.out.2.2.2.2.next hb7)))))
  have HT7 := hide (HT2.out.next hb7 (by have := HS_w6.out; omega))
  have hs7 : z.heap.size ≤ w7.heap.size := by have h1 := HS_w6.out; have h2 := hb7.size; omega
  have HS7 := hide hs7
  clear hb7 HRp hs7
  have c7 := H7.out.1.box.cell
  unfold faultV at c7
  go_upto_region 18 with fail
  clear c7
  go_wp2_with (first | (refine wpList_load_node rfl _ rfl z.heap.size _ _ rfl H7.out.2.2.2.2 ?_) | (refine wpList_store_node rfl _ _ rfl y.heap.size _ _ _ _ _ rfl rfl H7.out.2.2.1 rfl ?_; intro w9 hrow9 hg9 hz9))
  refine bodyPost_ret (node_result rfl _ _ y.heap.size _ _ rfl hrow9) rfl ?_
  exact ebad HE2.out H7.out.1 H7.out.2.2.2.1 H7.out.2.1 (HT7.out.in_ HZ1.out HS7.out) HND.out hg9 H7.out.2.2.1 (Nat.le_refl _) HB.out
 | ok t j q =>
  rw [hq] at hz HE0 HFn
  obtain ⟨B, c', ov', rfl, hin, hE, hF⟩ := hz
  have H4 := hide (And.intro hE (And.intro (H0.out.2.1.trans hF) (hF.blk_ H0.out.2.2 (blk_ne6 H0.out.2.2 H0.out.1.box (by decide)) (H0.out.1.apart H0.out.2.2 (by decide)))))
  have HT := hide (show TB z W.heap.size z.heap.size ov'.ownBlock t B from hin)
  have HB4 := hide (Nat.le_trans HB1.out hF.below.size)
  have HZz := hide (Nat.lt_of_lt_of_le HZ1.out hF.below.size)
  have HWz := hide hF.below.size
  have hfn := HFn.out
  simp only [PR.Fine] at hfn
  have HND := hide (show t.nodes ≤ 10000 * (39 - d) from by omega)
  have hnd5 : t.nodes ≤ 5000 := by omega
  have hjp : j ≤ p.size := by omega
  have HE3 := hide (show res = withRep (repE p j) t j q from HE0.out)
  clear hin hE hF hq HA HE0 HFn
  have hal := (Below.refl z.heap.size z).alloc (Nat.le_refl _) (.cells #[.int .i64 0, .int .u64 0, .int .u64 0, .int .u64 0, .int .u64 0, .slice none 0 0, .int .i64 0, .int .i64 0, .int .i64 0, .bool false] 27)
  have HAL := hide (And.intro (H4.out.1.next hal) (And.intro (H4.out.2.1.next HB4.out hal) (And.intro (H4.out.2.2.next hal) (Blk.new z 27 #[.int .i64 0, .int .u64 0, .int .u64 0, .int .u64 0, .int .u64 0, .slice none 0 0, .int .i64 0, .int .i64 0, .int .i64 0, .bool false]))))
  have HTA := hide (HT.out.next hal (Nat.le_refl _))
  have hsA : (z.alloc (.cells #[.int .i64 0, .int .u64 0, .int .u64 0, .int .u64 0, .int .u64 0, .slice none 0 0, .int .i64 0, .int .i64 0, .int .i64 0, .bool false] 27)).heap.size = z.heap.size + 1 := World.size_alloc _ _
  have HSA := hide hsA
  have hltz := HZz.out
  clear hal hsA
  go_upto_region 15 with (refine wpList_store_node rfl _ _ rfl z.heap.size _ _ _ _ _ rfl rfl HAL.out.2.2.2 rfl ?_; intro w6 hrow_w6 hg_w6 hz_w6)
  have H6 := hide (And.intro (HAL.out.1.grown hg_w6 (fun e => (blk_ne6 HAL.out.2.2.2 HAL.out.1.box (by decide)) (Option.some.inj e)) (.inr (HAL.out.1.apart HAL.out.2.2.2 (by decide)))) (And.intro (HAL.out.2.1.grown hg_w6 (fun q hq => by rw [← Option.some.inj hq]; omega) HB.out) (And.intro (HAL.out.2.2.1.grown hg_w6 (fun e => by have := Option.some.inj e; omega)) (hrow_w6))))
  have HT2 := hide (HTA.out.grown hg_w6 (Nat.le_refl _) (by have := HSA.out; omega))
  have HS_w6 := hide (show w6.heap.size = z.heap.size + 1 from hz_w6.trans HSA.out)
  have HB_w6 := hide (show w0.heap.size ≤ w6.heap.size from by have h1 := HB4.out; have h2 := HS_w6.out; omega)
  clear hg_w6 hrow_w6 hz_w6 hltz HAL HTA HSA
  have HRp := hide (ereRepeat_any (show RdE w6 gr w0.heap.size p j fl q ov' d .nilIface from H6.out.1) hp hjp HB_w6.out a m (fun y' hb => HM.out y' (H6.out.2.1.below.trans hb)))
  have c6 := H6.out.1.box.cell
  go_upto_region 16 with fail
  clear c6
  go_wp2_with fail
  refine HRp.out.mono ?_
  rintro e w7 hz7
  cases hr : repE p j with
  | no =>
   rw [hr] at hz7 HE3
   obtain ⟨rfl, hE7, hF7⟩ := hz7
   have HE2 := hide (show res = .ok t j q from HE3.out)
   have H7 := hide (And.intro hE7 (And.intro (H6.out.2.1.trans hF7) (And.intro (hF7.blk_ H6.out.2.2.1 (blk_ne6 H6.out.2.2.1 H6.out.1.box (by decide)) (H6.out.1.apart H6.out.2.2.1 (by decide))) (hF7.blk_ H6.out.2.2.2 (blk_ne6 H6.out.2.2.2 H6.out.1.box (by decide)) (H6.out.1.apart H6.out.2.2.2 (by decide))))))
   have HGR := hide (show gr < W.heap.size from H0.out.1.box.lt)
   have HT7 := hide (HT2.out.rdf hF7 HGR.out (by have := HS_w6.out; omega))
   have HS7 := hide (show z.heap.size ≤ w7.heap.size from by have h1 := HS_w6.out; have h2 := hF7.below.size; omega)
   have HSx := hide (show z.heap.size < w7.heap.size from by have h1 := HS_w6.out; have h2 := hF7.below.size; omega)
   have HS70 := hide (show W.heap.size ≤ w7.heap.size from Nat.le_trans HWz.out HS7.out)
   have HB7 := hide (Nat.le_trans HB_w6.out hF7.below.size)
   clear hE7 hF7 HRp hr
   have hn0 := fun w => run_neq_nil_nil_at (P := Tryz.prog) (w := w) 32 Tryz.isIfaceErr6
   have c7 := H7.out.1.box.cell
   go_upto_region 18 with fail
   clear c7
   go_wp2_with (first | (refine wpList_load_node rfl _ rfl z.heap.size _ _ rfl H7.out.2.2.2 ?_) | (refine wpList_store_node rfl _ _ rfl y.heap.size _ _ _ _ _ rfl rfl H7.out.2.2.1 rfl ?_; intro w9 hrow9 hg9 hz9))
   refine bodyPost_ret (node_result rfl _ _ y.heap.size _ _ rfl hrow9) rfl ?_
   exact eok HE2.out H7.out.1 H7.out.2.1 (HT7.out.in_ HZ1.out HS7.out) hg9 H7.out.2.2.1 (Nat.le_refl _) HB.out
  | bad k =>
   rw [hr] at hz7 HE3
   obtain ⟨gf, rfl, hE7, hFI7, hF7⟩ := hz7
   have HE2 := hide (show res = .bad k j from HE3.out)
   have HFI7 := hide hFI7
   clear hFI7
   have H7 := hide (And.intro hE7 (And.intro (H6.out.2.1.trans hF7) (And.intro (hF7.blk_ H6.out.2.2.1 (blk_ne6 H6.out.2.2.1 H6.out.1.box (by decide)) (H6.out.1.apart H6.out.2.2.1 (by decide))) (hF7.blk_ H6.out.2.2.2 (blk_ne6 H6.out.2.2.2 H6.out.1.box (by decide)) (H6.out.1.apart H6.out.2.2.2 (by decide))))))
   have HGR := hide (show gr < W.heap.size from H0.out.1.box.lt)
   have HT7 := hide (HT2.out.rdf hF7 HGR.out (by have := HS_w6.out; omega))
   have HS7 := hide (show z.heap.size ≤ w7.heap.size from by have h1 := HS_w6.out; have h2 := hF7.below.size; omega)
   have HSx := hide (show z.heap.size < w7.heap.size from by have h1 := HS_w6.out; have h2 := hF7.below.size; omega)
   have HS70 := hide (show W.heap.size ≤ w7.heap.size from Nat.le_trans HWz.out HS7.out)
   have HB7 := hide (Nat.le_trans HB_w6.out hF7.below.size)
   clear hE7 hF7 HRp hr
   have hn0 := fun w => run_neq_iface_nil (P := Tryz.prog) (w := w) 32 Tryz.isIfaceErr6 83 (.pointer (some ⟨gf, 0, none⟩))
   have c7 := H7.out.1.box.cell
   unfold faultV at c7
   go_upto_region 18 with fail
   clear c7
   go_wp2_with (first | (refine wpList_load_node rfl _ rfl z.heap.size _ _ rfl H7.out.2.2.2 ?_) | (refine wpList_store_node rfl _ _ rfl y.heap.size _ _ _ _ _ rfl rfl H7.out.2.2.1 rfl ?_; intro w9 hrow9 hg9 hz9))
   refine bodyPost_ret (node_result rfl _ _ y.heap.size _ _ rfl hrow9) rfl ?_
   exact ebad HE2.out H7.out.1 HFI7.out H7.out.2.1 (HT7.out.in_ HZ1.out HS7.out) HND.out hg9 H7.out.2.2.1 (Nat.le_refl _) HB.out
  | yes u v n =>
   rw [hr] at hz7 HE3
   obtain ⟨rfl, hE7, hF7⟩ := hz7
   have HE2 := hide (show res = (if 2000 < (repT u v t).fullSize then .bad 9 j else .ok (repT u v t) n q) from HE3.out)
   have H7 := hide (And.intro hE7 (And.intro (H6.out.2.1.trans hF7) (And.intro (hF7.blk_ H6.out.2.2.1 (blk_ne6 H6.out.2.2.1 H6.out.1.box (by decide)) (H6.out.1.apart H6.out.2.2.1 (by decide))) (hF7.blk_ H6.out.2.2.2 (blk_ne6 H6.out.2.2.2 H6.out.1.box (by decide)) (H6.out.1.apart H6.out.2.2.2 (by decide))))))
   have HGR := hide (show gr < W.heap.size from H0.out.1.box.lt)
   have HT7 := hide (HT2.out.rdf hF7 HGR.out (by have := HS_w6.out; omega))
   have HS7 := hide (show z.heap.size ≤ w7.heap.size from by have h1 := HS_w6.out; have h2 := hF7.below.size; omega)
   have HSx := hide (show z.heap.size < w7.heap.size from by have h1 := HS_w6.out; have h2 := hF7.below.size; omega)
   have HS70 := hide (show W.heap.size ≤ w7.heap.size from Nat.le_trans HWz.out HS7.out)
   have HB7 := hide (Nat.le_trans HB_w6.out hF7.below.size)
   clear hE7 hF7 HRp hr
   have hn0 := fun w => run_neq_nil_nil_at (P := Tryz.prog) (w := w) 32 Tryz.isIfaceErr6
   have c7 := H7.out.1.box.cell
   go_upto_region 19 with fail
   clear c7 hn0
   have HRe := hide (rep_any t B c' (u : Int) v w7 (by omega) (HT7.out.all HS7.out))
   have hlt7 := HSx.out
   go_wp2_with (refine wpList_load_node rfl _ rfl z.heap.size _ _ rfl H7.out.2.2.2 ?_)
   refine HRe.out.mono ?_
   intro e w8 hfr
   obtain ⟨B2, c2, rfl, hin2, hb8⟩ := fresh_tb (x := ov'.ownBlock) hfr (fun b hb => (H7.out.1.lt b hb).2)
   have H8 := hide (And.intro (H7.out.1.next hb8) (And.intro (H7.out.2.1.next HB7.out hb8) (And.intro (H7.out.2.2.1.next hb8) (H7.out.2.2.2.next hb8))))
   have HT8 := hide hin2
   have HZ8 := hide hb8.size
   have HB8 := hide (Nat.le_trans HB7.out hb8.size)
   clear hin2 hb8 hfr HRe HT7 HT2
   have hltz := HZz.out
   go_upto_region 20 with (refine wpList_store_node rfl _ _ rfl z.heap.size _ _ _ _ _ rfl rfl H8.out.2.2.2 rfl ?_; intro w9 hrow_w9 hg_w9 hz_w9)
   have H9 := hide (And.intro (H8.out.1.grown hg_w9 (fun e => (blk_ne6 H8.out.2.2.2 H8.out.1.box (by decide)) (Option.some.inj e)) (.inr (H8.out.1.apart H8.out.2.2.2 (by decide)))) (And.intro (H8.out.2.1.grown hg_w9 (fun q hq => by rw [← Option.some.inj hq]; omega) HB.out) (And.intro (H8.out.2.2.1.grown hg_w9 (fun e => by have := Option.some.inj e; omega)) (hrow_w9))))
   have HT9 := hide (HT8.out.grown2 hg_w9 hlt7 (Nat.le_refl _))
   have hs9 : w8.heap.size ≤ w9.heap.size := Nat.le_of_eq hz_w9.symm
   have HS9 := hide hs9
   have HB9 := hide (Nat.le_trans HB8.out hs9)
   clear hg_w9 hrow_w9 hz_w9 hltz hlt7 hs9
   obtain ⟨tr, htr⟩ : ∃ tr, tr = repT (u : Int) v t := ⟨_, rfl⟩
   have hntr : tr.nodes ≤ 6000 := by rw [htr]; simp only [repT, T.nodes, TL.nodes]; omega
   rw [show (T.mk ⟨8, 0, 0, 0, 0, 0, (u : Int), v, false⟩ [t]) = tr from htr.symm] at H9 HT9
   rw [← htr] at HE2
   have HSz := hide (Size_any tr B2 c2 w9 (by omega) (HT9.out.all HS9.out))
   have HND2 := hide (show tr.nodes ≤ 10000 * (39 - d) from by omega)
   clear htr HT8 H8
   go_wp2_with (refine wpList_load_node rfl _ rfl z.heap.size _ _ rfl H9.out.2.2.2 ?_)
   refine HSz.out.mono ?_
   rintro e w10 ⟨rfl, hb10⟩
   have H10 := hide (And.intro (H9.out.1.next hb10) (And.intro (H9.out.2.1.next HB9.out hb10) (And.intro (H9.out.2.2.1.next hb10) (H9.out.2.2.2.next hb10))))
   have HT10 := hide (HT9.out.next hb10 HS9.out)
   have hs10 : w8.heap.size ≤ w10.heap.size := Nat.le_trans HS9.out hb10.size
   have HS10 := hide hs10
   have HB10 := hide (Nat.le_trans HB9.out hb10.size)
   have HZ10 := hide (show y.heap.size + 1 ≤ w7.heap.size from by have h1 := HSx.out; have h2 := HZz.out; omega)
   clear hb10 HSz hs10
   by_cases hbig : 2000 < tr.fullSize
   ·have HE4 := hide (HE2.out.trans (if_pos hbig))
    have g1 : decide (2000 < tr.fullSize) = true := decide_eq_true hbig
    have cq := H10.out.1.box.cell
    have ceq := (HM.out _ H10.out.2.1.below).errs.var 12 (by decide)
    go_wp2_with fail
    refine (ereFail_any H10.out.1 HB10.out a 9 (j : Int)).mono ?_
    rintro e wf ⟨gf, rfl, hE, hFI, hF⟩
    have HFl := hide (And.intro hE (And.intro hFI (H10.out.2.1.trans hF)))
    have HBF := hide (Nat.le_trans HB10.out hF.below.size)
    have HKF := hide hF
    clear hE hFI hF cq ceq
    have HR5 := hide (HKF.out.blk_ H10.out.2.2.1 (blk_ne6 H10.out.2.2.1 H10.out.1.box (by decide)) (H10.out.1.apart H10.out.2.2.1 (by decide)))
    have HX5 := hide (HKF.out.blk_ H10.out.2.2.2 (blk_ne6 H10.out.2.2.2 H10.out.1.box (by decide)) (H10.out.1.apart H10.out.2.2.2 (by decide)))
    have HT11 := hide (HT10.out.rdf HKF.out (Nat.lt_of_lt_of_le HGR.out HS70.out) HS10.out)
    have HS11 := hide (Nat.le_trans HS10.out HKF.out.below.size)
    go_wp2_with (first | (refine wpList_load_node rfl _ rfl z.heap.size _ _ rfl HX5.out ?_) | (refine wpList_store_node rfl _ _ rfl y.heap.size _ _ _ _ _ rfl rfl HR5.out rfl ?_; intro w9 hrow9 hg9 hz9))
    refine bodyPost_ret (node_result rfl _ _ y.heap.size _ _ rfl hrow9) rfl ?_
    exact ebad HE4.out HFl.out.1 HFl.out.2.1 HFl.out.2.2 (HT11.out.in_ HZ10.out HS11.out) HND2.out hg9 HR5.out (Nat.le_refl _) HB.out
   ·have HE4 := hide (HE2.out.trans (if_neg hbig))
    have g1 : decide (2000 < tr.fullSize) = false := decide_eq_false hbig
    go_wp2_with (first | (refine wpList_load_node rfl _ rfl z.heap.size _ _ rfl H10.out.2.2.2 ?_) | (refine wpList_store_node rfl _ _ rfl y.heap.size _ _ _ _ _ rfl rfl H10.out.2.2.1 rfl ?_; intro w9 hrow9 hg9 hz9))
    refine bodyPost_ret (node_result rfl _ _ y.heap.size _ _ rfl hrow9) rfl ?_
    exact eok HE4.out H10.out.1 H10.out.2.1 (HT10.out.in_ HZ10.out HS10.out) hg9 H10.out.2.2.1 (Nat.le_refl _) HB.out
end Go.Proofs.YtpkcklpjbeginaaGreatDoor

/-! ## Ere6f -/
namespace Go.Proofs.YtpkcklpjbeginaaGreatDoor
open Go.RowKit

/-- How much is still to be read: none behind a fault. -/
def rdLeft (gr : Nat) (p : ByteArray) (w : World) : Nat := match w.cell? ⟨gr, 1, none⟩, w.cell? ⟨gr, 5, none⟩ with
 | some (.int _ i), some .nilIface => p.size + 1 - i.toNat
 | _, _ => 0
theorem rdLeft_ok {w : World} {gr B0 : Nat} {p : ByteArray} {i : Nat} {fl : Int} {g : Nat} {ov : Value} {d : Nat} (h : RdE w gr B0 p i fl g ov d .nilIface) : rdLeft gr p w = p.size + 1 - i := by
 unfold rdLeft
 rw [h.box.cell 1, h.box.cell 5]
 simp
theorem rdLeft_bad {w : World} {gr B0 : Nat} {p : ByteArray} {i : Nat} {fl : Int} {g : Nat} {ov : Value} {d gf : Nat} (h : RdE w gr B0 p i fl g ov d (faultV gf)) : rdLeft gr p w = 0 := by
 unfold rdLeft
 rw [h.box.cell 1, h.box.cell 5]
 simp [faultV]
/-- A loop that builds a list of trees beside the reader, no fault so far. -/
structure LpOk (w0 : World) (gr : Nat) (p : ByteArray) (fl : Int) (d : Nat) (ov : Value) (y : World) (base : Nat) (wr : World) (lv : Value) (i g : Nat) (acc : List T) (ov' : Value) : Prop where
 rd : RdE wr gr w0.heap.size p i fl g ov' d .nilIface
 fr : RdF gr w0.heap.size ov.ownBlock ov'.ownBlock y wr
 bx : Blk wr y.heap.size 27 zeroCells
 gx : GrowX base ov'.ownBlock wr lv acc
structure LpBad (w0 : World) (gr : Nat) (p : ByteArray) (fl : Int) (a : Nat → Addr) (ov : Value) (y : World) (base : Nat) (wr : World) (lv : Value) (i g d' gf c : Nat) (pl : Int) (acc : List T) (ov' : Value) : Prop where
 rd : RdE wr gr w0.heap.size p i fl g ov' d' (faultV gf)
 fi : FaultIs a wr gf c pl
 fr : RdF gr w0.heap.size ov.ownBlock ov'.ownBlock y wr
 bx : Blk wr y.heap.size 27 zeroCells
 gx : GrowX base ov'.ownBlock wr lv acc
section
variable {w0 y wr wr' : World} {gr : Nat} {p : ByteArray} {fl : Int} {a : Nat → Addr} {d d' base i g gf c : Nat} {pl : Int} {ov ov' lv : Value} {acc : List T}
theorem LpOk.next (h : LpOk w0 gr p fl d ov y base wr lv i g acc ov') (hB : w0.heap.size ≤ wr.heap.size) (hb : Below wr.heap.size wr wr') : LpOk w0 gr p fl d ov y base wr' lv i g acc ov' := ⟨h.rd.next hb, h.fr.next hB hb, h.bx.next hb, h.gx.next hb⟩
theorem LpBad.next (h : LpBad w0 gr p fl a ov y base wr lv i g d' gf c pl acc ov') (hB : w0.heap.size ≤ wr.heap.size) (hb : Below wr.heap.size wr wr') : LpBad w0 gr p fl a ov y base wr' lv i g d' gf c pl acc ov' := ⟨h.rd.next hb, Blk.next h.fi hb, h.fr.next hB hb, h.bx.next hb, h.gx.next hb⟩
end
set_option maxRecDepth 100000 in
set_option maxHeartbeats 4000000 in
theorem ereBranch_any {w0 y : World} {gr : Nat} {p : ByteArray} {i : Nat} {fl : Int} {g : Nat} {ov : Value} {d : Nat} {a : Nat → Addr} {m : Int} {deeper : Option (Nat → Nat → PR)} (hd : d ≤ 32) (hB5 : B5 w0 a m) (hG : GroupC w0 gr p fl a d deeper) (hdf : ∀ f, deeper = some f → ∀ i g, i ≤ p.size → (f i g).Fine p i g 0) (h : RdE y gr w0.heap.size p i fl g ov d .nilIface) (hp : p.size ≤ 1024) (hi : i ≤ p.size) (hgi : g ≤ i) (hw : Below w0.heap.size w0 y) :
  Calls Tryz.prog 83 #[.pointer (some ⟨gr, 0, none⟩)] y (EPost w0 gr p fl a d (10000 * (39 - d) + 5000) ov y (branchE p (!decide (bits .and .i64 fl 2 = 0)) (!decide (bits .and .i64 fl 4 = 0)) deeper (decide (0 < d)) (p.size + 1) i g [])) := by
 have hB0 := hw.size
 have HPc := hide (fun (y' : World) (ov' : Value) (j g' : Nat) (h' : RdE y' gr w0.heap.size p j fl g' ov' d .nilIface) (hj : j < p.size) (hgj : g' ≤ j) (hw' : Below w0.heap.size w0 y') => And.intro (erePiece_any hd hB5 hG hdf h' hp hj hgj hw') (pieceE_fine (ic := !decide (bits .and .i64 fl 2 = 0)) (nl := !decide (bits .and .i64 fl 4 = 0)) hdf (i := j) (g := g') hj))
 clear hG hdf
 obtain ⟨ic, hic⟩ : ∃ ic, ic = !decide (bits .and .i64 fl 2 = 0) := ⟨_, rfl⟩
 obtain ⟨nl, hnl⟩ : ∃ nl, nl = !decide (bits .and .i64 fl 4 = 0) := ⟨_, rfl⟩
 rw [← hic, ← hnl] at HPc ⊢
 clear hic hnl
 have hz0 := Blk.new y 27 zeroCells
 have hbel := (Below.refl y.heap.size y).alloc (Nat.le_refl _) (.cells zeroCells 27)
 have H0 := hide (And.intro (h.next hbel) (And.intro (RdF.of_below (gr := gr) (x := ov.ownBlock) (Nat.le_trans hB0 (Nat.le_refl _)) hbel) hz0))
 have HB := hide hB0
 have HM := hide (fun (y' : World) (hb : Below w0.heap.size y y') => hB5.below (hw.trans hb))
 have HW := hide hw
 clear hz0 hbel h hB0 hB5 hw
 unfold zeroCells at *
 have HZ := hide (World.size_alloc y (.cells #[.int .i64 0, .int .u64 0, .int .u64 0, .int .u64 0, .int .u64 0, .slice none 0 0, .int .i64 0, .int .i64 0, .int .i64 0, .bool false] 27))
 obtain ⟨res, hres⟩ : ∃ res, res = branchE p ic nl deeper (decide (0 < d)) (p.size + 1) i g [] := ⟨_, rfl⟩
 rw [← hres]
 have HRS := hide hres
 clear hres
 go_enter Tryz.func83, Tryz.ntmps83
 go_upto_region 1 with fail
 generalize (y.alloc (.cells #[.int .i64 0, .int .u64 0, .int .u64 0, .int .u64 0, .int .u64 0, .slice none 0 0, .int .i64 0, .int .i64 0, .int .i64 0, .bool false] 27)) = W at *
 go_wp2_with fail
 have HGR := hide (show gr < y.heap.size + 1 from by have h1 := H0.out.1.box.lt; have h2 := HZ.out; omega)
 go_loopw [3] (fun lv wr => (∃ (j g' n : Nat) (acc : List T) (ov' : Value), LpOk w0 gr p fl d ov y (y.heap.size + 1) wr lv j g' acc ov' ∧ i ≤ j ∧ j ≤ p.size ∧ g' ≤ j ∧ TL.nodes acc ≤ 4 * (j - i) ∧ p.size + 1 ≤ n + j ∧ branchE p ic nl deeper (decide (0 < d)) n j g' acc = res) ∨ (∃ (j g' d' gf c : Nat) (pl : Int) (acc : List T) (ov' : Value), LpBad w0 gr p fl a ov y (y.heap.size + 1) wr lv j g' d' gf c pl acc ov' ∧ TL.nodes acc ≤ 10000 * (39 - d) + 4200 ∧ res = .bad c pl)) (fun _ wr => rdLeft gr p wr)
 case atStart => exact .inl ⟨i, g, p.size + 1, [], ov, ⟨H0.out.1, H0.out.2.1, H0.out.2.2, GrowX.nil _ _ _⟩, Nat.le_refl _, hi, hgi, by simp [TL.nodes], by omega, HRS.out.symm⟩
 case round =>
  rcases hrel with ⟨j, g', n, acc, ov', hlp, hij, hjp, hgj, hac, hn, hbr⟩ | ⟨j, g', d', gf, c, pl, acc, ov', hlp, hac, hbr⟩
  case inr =>
   have HL := hide hlp
   have HE := hide hbr
   have HBr := hide (Nat.le_trans HB.out hlp.fr.below.size)
   clear hlp hbr
   have HN := hide (ereNext_bad HL.out.rd)
   go_wp2_with fail
   refine HN.out.mono ?_
   rintro e w1 ⟨rfl, hb1⟩
   have HL1 := hide (HL.out.next HBr.out hb1)
   have HB1 := hide (Nat.le_trans HBr.out hb1.size)
   clear hb1 HN
   obtain ⟨Al, cl, hlv, hinl⟩ := HL1.out.gx.in_
   subst hlv
   have HSq := hide (seq_any acc Al cl w1 (by omega) (TL.In.same (Same.refl _ _) (fun b hb => hb.2.1) hinl))
   clear hinl
   go_wp2_with fail
   refine HSq.out.mono ?_
   intro e wq hfr
   obtain ⟨B2, c2, rfl, hin2, hbf⟩ := fresh_tb (x := ov'.ownBlock) hfr (fun b hb => (HL1.out.rd.lt b hb).2)
   have HL2 := hide (HL1.out.next HB1.out hbf)
   skip
   skip
   have HT2 := hide hin2
   have HZ2 := hide (show y.heap.size + 1 ≤ w1.heap.size from HL1.out.bx.lt)
   clear hin2 hbf hfr HSq
   go_wp2_with (refine wpList_store_node rfl _ _ rfl y.heap.size _ _ _ _ _ rfl rfl HL2.out.bx rfl ?_; intro w9 hrow9 hg9 hz9)
   refine bodyPost_ret (node_result rfl _ _ y.heap.size _ _ rfl hrow9) rfl ?_
   exact ebad HE.out HL2.out.rd HL2.out.fi HL2.out.fr (HT2.out.in_ HZ2.out (Nat.le_refl _)) (by have := seq_nodes acc; omega) hg9 HL2.out.bx (Nat.le_refl _) HB.out
  case inl =>
   have HL := hide hlp
   have HE := hide hbr
   have HBr := hide (Nat.le_trans HB.out hlp.fr.below.size)
   have HMs := hide (rdLeft_ok hlp.rd)
   clear hlp hbr
   cases n with
   | zero => omega
   | succ n =>
   have HN := hide (ereNext_nil HL.out.rd (by omega) (by omega))
   go_wp2_with fail
   refine HN.out.mono ?_
   rintro e w1 ⟨rfl, hb1⟩
   have HL1 := hide (HL.out.next HBr.out hb1)
   have HB1 := hide (Nat.le_trans HBr.out hb1.size)
   have HBY := hide (HL.out.fr.below.trans (hb1.mono HBr.out))
   clear hb1 HN
   rw [branchE] at HE
   by_cases hj : j < p.size
   case neg =>
    rw [if_neg hj, decide_eq_false hj]
    have HE2 := hide (show res = .ok (T.seq acc) j g' from by rw [← HE.out, if_pos (.inl hj)])
    obtain ⟨Al, cl, hlv, hinl⟩ := HL1.out.gx.in_
    subst hlv
    have HSq := hide (seq_any acc Al cl w1 (by omega) (TL.In.same (Same.refl _ _) (fun b hb => hb.2.1) hinl))
    clear hinl
    go_wp2_with fail
    refine HSq.out.mono ?_
    intro e wq hfr
    obtain ⟨B2, c2, rfl, hin2, hbf⟩ := fresh_tb (x := ov'.ownBlock) hfr (fun b hb => (HL1.out.rd.lt b hb).2)
    have HL2 := hide (HL1.out.next HB1.out hbf)
    skip
    skip
    have HT2 := hide hin2
    have HZ2 := hide (show y.heap.size + 1 ≤ w1.heap.size from HL1.out.bx.lt)
    clear hin2 hbf hfr HSq
    go_wp2_with (refine wpList_store_node rfl _ _ rfl y.heap.size _ _ _ _ _ rfl rfl HL2.out.bx rfl ?_; intro w9 hrow9 hg9 hz9)
    refine bodyPost_ret (node_result rfl _ _ y.heap.size _ _ rfl hrow9) rfl ?_
    exact eok HE2.out HL2.out.rd HL2.out.fr (HT2.out.in_ HZ2.out (Nat.le_refl _)) hg9 HL2.out.bx (Nat.le_refl _) HB.out
   case pos =>
    rw [if_pos hj, decide_eq_true hj]
    have hpl := pb_lt hj
    by_cases h124 : pb p j = 124
    ·have HE2 := hide (show res = .ok (T.seq acc) j g' from by rw [← HE.out, if_pos (.inr h124)])
     rw [h124]
     obtain ⟨Al, cl, hlv, hinl⟩ := HL1.out.gx.in_
     subst hlv
     have HSq := hide (seq_any acc Al cl w1 (by omega) (TL.In.same (Same.refl _ _) (fun b hb => hb.2.1) hinl))
     clear hinl
     go_wp2_with fail
     refine HSq.out.mono ?_
     intro e wq hfr
     obtain ⟨B2, c2, rfl, hin2, hbf⟩ := fresh_tb (x := ov'.ownBlock) hfr (fun b hb => (HL1.out.rd.lt b hb).2)
     have HL2 := hide (HL1.out.next HB1.out hbf)
     skip
     skip
     have HT2 := hide hin2
     have HZ2 := hide (show y.heap.size + 1 ≤ w1.heap.size from HL1.out.bx.lt)
     clear hin2 hbf hfr HSq
     go_wp2_with (refine wpList_store_node rfl _ _ rfl y.heap.size _ _ _ _ _ rfl rfl HL2.out.bx rfl ?_; intro w9 hrow9 hg9 hz9)
     refine bodyPost_ret (node_result rfl _ _ y.heap.size _ _ rfl hrow9) rfl ?_
     exact eok HE2.out HL2.out.rd HL2.out.fr (HT2.out.in_ HZ2.out (Nat.le_refl _)) hg9 HL2.out.bx (Nat.le_refl _) HB.out
    ·have HE2 := hide (show (if pb p j = 41 then (if decide (0 < d) = true then PR.ok (T.seq acc) j g' else .bad 1 j) else match pieceE p ic nl deeper j g' with
      | .bad c pl => .bad c pl
      | .ok t k q => branchE p ic nl deeper (decide (0 < d)) n k q (acc ++ [t])) = res from (if_neg (fun hh => hh.elim (fun h1 => h1 hj) h124)).symm.trans HE.out)
     clear HE
     by_cases h41 : pb p j = 41
     ·have HE3 := hide (show res = (if decide (0 < d) = true then PR.ok (T.seq acc) j g' else .bad 1 j) from by rw [← HE2.out, if_pos h41])
      rw [h41]
      obtain ⟨Ao, co, hov⟩ := HL1.out.rd.form
      subst hov
      have c1 := HL1.out.rd.box.cell
      by_cases hd0 : 0 < d
      ·have HE4 := hide (show res = .ok (T.seq acc) j g' from by rw [HE3.out, if_pos (decide_eq_true hd0)])
       have gd : ((d : Int) == 0) = false := by rw [beq_eq_false_iff_ne]; omega
       go_upto_region 8 with fail
       clear c1
       obtain ⟨Al, cl, hlv, hinl⟩ := HL1.out.gx.in_
       subst hlv
       have HSq := hide (seq_any acc Al cl w1 (by omega) (TL.In.same (Same.refl _ _) (fun b hb => hb.2.1) hinl))
       clear hinl
       go_wp2_with fail
       refine HSq.out.mono ?_
       intro e wq hfr
       obtain ⟨B2, c2, rfl, hin2, hbf⟩ := fresh_tb (x := (Value.slice Ao d co).ownBlock) hfr (fun b hb => (HL1.out.rd.lt b hb).2)
       have HL2 := hide (HL1.out.next HB1.out hbf)
       skip
       skip
       have HT2 := hide hin2
       have HZ2 := hide (show y.heap.size + 1 ≤ w1.heap.size from HL1.out.bx.lt)
       clear hin2 hbf hfr HSq
       go_wp2_with (refine wpList_store_node rfl _ _ rfl y.heap.size _ _ _ _ _ rfl rfl HL2.out.bx rfl ?_; intro w9 hrow9 hg9 hz9)
       refine bodyPost_ret (node_result rfl _ _ y.heap.size _ _ rfl hrow9) rfl ?_
       exact eok HE4.out HL2.out.rd HL2.out.fr (HT2.out.in_ HZ2.out (Nat.le_refl _)) hg9 HL2.out.bx (Nat.le_refl _) HB.out
      ·have HE4 := hide (show res = .bad 1 j from by rw [HE3.out, if_neg (by simp [hd0])])
       have gd : ((d : Int) == 0) = true := by rw [beq_iff_eq]; omega
       have HX := hide (And.intro HL1.out.rd HL1.out.fr)
       have HMq := hide (fun (y' : World) (hb : Below w0.heap.size y y') => HM.out y' hb)
       clear HM
       have HM := HMq
       clear HMq
       go_upto_region 7 with fail
       clear c1
       have cq := HX.out.1.box.cell
       have ceq := (HM.out _ HX.out.2.below).errs.var 4 (by decide)
       go_wp2_with fail
       go_still_tail 6, (by kernel_rfl)
       change wpList _ _ _ _ _ w1.drew
       generalize hwd : w1.drew = wd
       have hbd : Below w1.heap.size w1 wd := by rw [← hwd]; exact (Below.refl _ _).drew
       have HD := hide (And.intro (HX.out.1.next hbd) (HX.out.2.next HB1.out hbd))
       have HBD := hide (Nat.le_trans HB1.out hbd.size)
       have hdraw := hide (RdF.of_below (gr := gr) (x := (Value.slice Ao d co).ownBlock) HB1.out hbd)
       clear hbd hwd cq ceq
       go_wp2_with fail
       refine (ereFail_any HD.out.1 HBD.out a 1 (j : Int)).mono ?_
       rintro e wf ⟨gf, rfl, hE, hFI, hF⟩
       have HFl := hide (And.intro hE (And.intro hFI (HD.out.2.trans hF)))
       have HBF := hide (Nat.le_trans HBD.out hF.below.size)
       have HKF := hide hF
       clear hE hFI hF
       have hk1 := hdraw.out.trans HKF.out
       have HLb := hide (show LpBad w0 gr p fl a ov y (y.heap.size + 1) wf u3 j g' d gf 1 (j : Int) acc (.slice Ao d co) from ⟨HFl.out.1, HFl.out.2.1, HFl.out.2.2, hk1.blk_ HL1.out.bx (blk_ne6 HL1.out.bx HL1.out.rd.box (by decide)) (HL1.out.rd.apart HL1.out.bx (by decide)), HL1.out.gx.keep HGR.out hk1.same hk1.below.size hk1.blk⟩)
       clear hk1
       obtain ⟨Al, cl, hlv, hinl⟩ := HLb.out.gx.in_
       subst hlv
       have HSq := hide (seq_any acc Al cl wf (by omega) (TL.In.same (Same.refl _ _) (fun b hb => hb.2.1) hinl))
       clear hinl
       go_wp2_with fail
       refine HSq.out.mono ?_
       intro e wq hfr
       obtain ⟨B2, c2, rfl, hin2, hbf⟩ := fresh_tb (x := (Value.slice Ao d co).ownBlock) hfr (fun b hb => (HLb.out.rd.lt b hb).2)
       have HL2 := hide (HLb.out.next HBF.out hbf)
       skip
       skip
       have HT2 := hide hin2
       have HZ2 := hide (show y.heap.size + 1 ≤ wf.heap.size from HLb.out.bx.lt)
       clear hin2 hbf hfr HSq
       go_wp2_with (refine wpList_store_node rfl _ _ rfl y.heap.size _ _ _ _ _ rfl rfl HL2.out.bx rfl ?_; intro w9 hrow9 hg9 hz9)
       refine bodyPost_ret (node_result rfl _ _ y.heap.size _ _ rfl hrow9) rfl ?_
       exact ebad HE4.out HL2.out.rd HL2.out.fi HL2.out.fr (HT2.out.in_ HZ2.out (Nat.le_refl _)) (by have := seq_nodes acc; omega) hg9 HL2.out.bx (Nat.le_refl _) HB.out
     ·have HE3 := hide (show (match pieceE p ic nl deeper j g' with
       | .bad c pl => .bad c pl
       | .ok t k q => branchE p ic nl deeper (decide (0 < d)) n k q (acc ++ [t])) = res from (if_neg h41).symm.trans HE2.out)
      have HPj := hide (HPc.out w1 ov' j g' HL1.out.rd hj hgj (HW.out.trans HBY.out))
      obtain ⟨c, hc⟩ : ∃ c, c = pb p j := ⟨_, rfl⟩
      rw [← hc] at h124 h41 hpl HPj ⊢
      have g124 : ((c : Int) == 124) = false := by rw [beq_eq_false_iff_ne]; omega
      have g41 : ((c : Int) == 41) = false := by rw [beq_eq_false_iff_ne]; omega
      have HC := hide hc
      clear hc HPc HE2 h124 h41 hpl
      go_upto_region 9 with fail
      clear g124 g41
      go_wp2_with fail
      refine HPj.out.1.mono ?_
      rintro e z hz
      have hacl := TL.length_le acc
      cases hq : pieceE p ic nl deeper j g' with
      | bad c2 pl =>
       rw [hq] at hz HE3
       obtain ⟨t, B, cc, ov2, i2, g2, d2, gf, rfl, hin, hnod, hE, hFI, hF⟩ := hz
       have hal := (Below.refl z.heap.size z).alloc (Nat.le_refl _) (.cells #[.int .i64 t.hd.kind, .int .u64 t.hd.s0, .int .u64 t.hd.s1, .int .u64 t.hd.s2, .int .u64 t.hd.s3, .slice B t.subs.length cc, .int .i64 t.hd.num, .int .i64 t.hd.min, .int .i64 t.hd.max, .bool t.hd.bare] 27)
       have hzA : (z.alloc (.cells #[.int .i64 t.hd.kind, .int .u64 t.hd.s0, .int .u64 t.hd.s1, .int .u64 t.hd.s2, .int .u64 t.hd.s3, .slice B t.subs.length cc, .int .i64 t.hd.num, .int .i64 t.hd.min, .int .i64 t.hd.max, .bool t.hd.bare] 27)).heap.size = z.heap.size + 1 := World.size_alloc _ _
       have hgx := (HL1.out.gx.keep HGR.out hF.same hF.below.size hF.blk).next hal
       have hlvl := HL1.out.gx.lt
       have hrz := hE.next hal
       have hbz : ∀ b, ov2.ownBlock = some b → b < (z.alloc (.cells #[.int .i64 t.hd.kind, .int .u64 t.hd.s0, .int .u64 t.hd.s1, .int .u64 t.hd.s2, .int .u64 t.hd.s3, .slice B t.subs.length cc, .int .i64 t.hd.num, .int .i64 t.hd.min, .int .i64 t.hd.max, .bool t.hd.bare] 27)).heap.size := fun b hb => (hrz.lt b hb).2
       have hti : T.In (z.alloc (.cells #[.int .i64 t.hd.kind, .int .u64 t.hd.s0, .int .u64 t.hd.s1, .int .u64 t.hd.s2, .int .u64 t.hd.s3, .slice B t.subs.length cc, .int .i64 t.hd.num, .int .i64 t.hd.min, .int .i64 t.hd.max, .bool t.hd.bare] 27)) (fun b => y.heap.size + 1 ≤ b ∧ b < (z.alloc (.cells #[.int .i64 t.hd.kind, .int .u64 t.hd.s0, .int .u64 t.hd.s1, .int .u64 t.hd.s2, .int .u64 t.hd.s3, .slice B t.subs.length cc, .int .i64 t.hd.num, .int .i64 t.hd.min, .int .i64 t.hd.max, .bool t.hd.bare] 27)).heap.size ∧ some b ≠ u3.ownBlock ∧ ov2.ownBlock ≠ some b) t B :=
        hin.same ((same_of_below hal).mono fun b hb => hb.2.1) fun b hb => ⟨by have h1 := hb.1; have h2 := HL1.out.bx.lt; omega, by rw [hzA]; have := hb.2.1; omega, fun e => by have h1 := (hlvl b e.symm).2; have h2 := hb.1; omega, hb.2.2⟩
       have hfr := HL1.out.fr.trans hF
       have hbx := (hF.blk_ HL1.out.bx (blk_ne6 HL1.out.bx HL1.out.rd.box (by decide)) (HL1.out.rd.apart HL1.out.bx (by decide))).next hal
       have HQ := hide (And.intro hrz (And.intro (hfr.next (Nat.le_trans HB1.out hF.below.size) hal) (And.intro hbx (And.intro hgx hti))))
       have HBz := hide hbz
       have HBs := hide (show y.heap.size + 1 ≤ (z.alloc (.cells #[.int .i64 t.hd.kind, .int .u64 t.hd.s0, .int .u64 t.hd.s1, .int .u64 t.hd.s2, .int .u64 t.hd.s3, .slice B t.subs.length cc, .int .i64 t.hd.num, .int .i64 t.hd.min, .int .i64 t.hd.max, .bool t.hd.bare] 27)).heap.size from hbx.lt)
       have HFI := hide (Blk.next hFI hal)
       have hll : acc.length < 1000000 := by omega
       clear hal hzA hgx hlvl hrz hbz hti hfr hbx hin hE hF hq hFI
       simp only [Hd.cells]
       go_wp2_with (at_builtin; refine wpList_append_nodeX rfl _ _ rfl (y.heap.size + 1) _ _ acc rfl HQ.out.2.2.2.1 HBz.out t B cc z.heap.size 1 rfl (Blk.new _ _ _) HQ.out.2.2.2.2 hll HBs.out ?_)
       intro v5 w5 hgx5 hg5
       have hap := HQ.out.2.2.2.1.apart
       have hlt := HQ.out.2.2.2.1.lt
       have hgr := HGR.out
       have n1 : u3.ownBlock ≠ some gr := fun e => by have := (hlt gr e).1; omega
       have n2 : u3.ownBlock ≠ some y.heap.size := fun e => by have := (hlt _ e).1; omega
       have n3 : u3.ownBlock ≠ some gf := fun e => by
        obtain ⟨xs, h1, _⟩ := HQ.out.2.2.2.1
        rcases h1.2 with ⟨e2, _⟩ | ⟨g9, cap9, cur9, e2, _, hg9, _⟩
        ·rw [e2] at e; cases e
        ·rw [e2] at e
         have e3 : g9 = gf := by simpa [Value.ownBlock] using e
         subst e3
         exact blk_ne6 hg9 HFI.out (by decide) rfl
       have HF := hide (show LpBad w0 gr p fl a ov y (y.heap.size + 1) w5 v5 i2 g2 d2 gf c2 pl (acc ++ [t]) ov2 from ⟨HQ.out.1.grown hg5 n1 (by
         by_cases hov : ov2.ownBlock = none
         ·exact .inl hov
         ·refine .inr fun e => ?_
          cases hl : u3.ownBlock with
          | none => rw [hl] at e; exact hov e
          | some b => rw [hl] at e; exact hap b hl e), Blk.grown HFI.out hg5 (fun e => n3 e.symm), HQ.out.2.1.grown hg5 (fun b e => by have := (hlt b e).1; omega) HB.out, HQ.out.2.2.1.grown hg5 (fun e => n2 e.symm), hgx5⟩)
       clear hgx5 hg5 hap hlt hgr n1 n2 n3
       go_wp2_with fail
       go_roundw
       case rel => exact .inr ⟨i2, g2, d2, gf, c2, pl, acc ++ [t], ov2, HF.out, by rw [TL.nodes_snoc]; omega, HE3.out.symm⟩
       case measure => rw [rdLeft_bad HF.out.rd, HMs.out]; omega
      | ok t k q =>
       have hfine := HPj.out.2
       rw [hq] at hz HE3 hfine
       simp only [PR.Fine] at hfine
       obtain ⟨B, cc, ov2, rfl, hin, hE, hF⟩ := hz
       have hal := (Below.refl z.heap.size z).alloc (Nat.le_refl _) (.cells #[.int .i64 t.hd.kind, .int .u64 t.hd.s0, .int .u64 t.hd.s1, .int .u64 t.hd.s2, .int .u64 t.hd.s3, .slice B t.subs.length cc, .int .i64 t.hd.num, .int .i64 t.hd.min, .int .i64 t.hd.max, .bool t.hd.bare] 27)
       have hzA : (z.alloc (.cells #[.int .i64 t.hd.kind, .int .u64 t.hd.s0, .int .u64 t.hd.s1, .int .u64 t.hd.s2, .int .u64 t.hd.s3, .slice B t.subs.length cc, .int .i64 t.hd.num, .int .i64 t.hd.min, .int .i64 t.hd.max, .bool t.hd.bare] 27)).heap.size = z.heap.size + 1 := World.size_alloc _ _
       have hgx := (HL1.out.gx.keep HGR.out hF.same hF.below.size hF.blk).next hal
       have hlvl := HL1.out.gx.lt
       have hrz := hE.next hal
       have hbz : ∀ b, ov2.ownBlock = some b → b < (z.alloc (.cells #[.int .i64 t.hd.kind, .int .u64 t.hd.s0, .int .u64 t.hd.s1, .int .u64 t.hd.s2, .int .u64 t.hd.s3, .slice B t.subs.length cc, .int .i64 t.hd.num, .int .i64 t.hd.min, .int .i64 t.hd.max, .bool t.hd.bare] 27)).heap.size := fun b hb => (hrz.lt b hb).2
       have hti : T.In (z.alloc (.cells #[.int .i64 t.hd.kind, .int .u64 t.hd.s0, .int .u64 t.hd.s1, .int .u64 t.hd.s2, .int .u64 t.hd.s3, .slice B t.subs.length cc, .int .i64 t.hd.num, .int .i64 t.hd.min, .int .i64 t.hd.max, .bool t.hd.bare] 27)) (fun b => y.heap.size + 1 ≤ b ∧ b < (z.alloc (.cells #[.int .i64 t.hd.kind, .int .u64 t.hd.s0, .int .u64 t.hd.s1, .int .u64 t.hd.s2, .int .u64 t.hd.s3, .slice B t.subs.length cc, .int .i64 t.hd.num, .int .i64 t.hd.min, .int .i64 t.hd.max, .bool t.hd.bare] 27)).heap.size ∧ some b ≠ u3.ownBlock ∧ ov2.ownBlock ≠ some b) t B :=
        hin.same ((same_of_below hal).mono fun b hb => hb.2.1) fun b hb => ⟨by have h1 := hb.1; have h2 := HL1.out.bx.lt; omega, by rw [hzA]; have := hb.2.1; omega, fun e => by have h1 := (hlvl b e.symm).2; have h2 := hb.1; omega, hb.2.2⟩
       have hfr := HL1.out.fr.trans hF
       have hbx := (hF.blk_ HL1.out.bx (blk_ne6 HL1.out.bx HL1.out.rd.box (by decide)) (HL1.out.rd.apart HL1.out.bx (by decide))).next hal
       have HQ := hide (And.intro hrz (And.intro (hfr.next (Nat.le_trans HB1.out hF.below.size) hal) (And.intro hbx (And.intro hgx hti))))
       have HBz := hide hbz
       have HBs := hide (show y.heap.size + 1 ≤ (z.alloc (.cells #[.int .i64 t.hd.kind, .int .u64 t.hd.s0, .int .u64 t.hd.s1, .int .u64 t.hd.s2, .int .u64 t.hd.s3, .slice B t.subs.length cc, .int .i64 t.hd.num, .int .i64 t.hd.min, .int .i64 t.hd.max, .bool t.hd.bare] 27)).heap.size from hbx.lt)
       skip
       have hll : acc.length < 1000000 := by omega
       clear hal hzA hgx hlvl hrz hbz hti hfr hbx hin hE hF hq
       simp only [Hd.cells]
       go_wp2_with (at_builtin; refine wpList_append_nodeX rfl _ _ rfl (y.heap.size + 1) _ _ acc rfl HQ.out.2.2.2.1 HBz.out t B cc z.heap.size 1 rfl (Blk.new _ _ _) HQ.out.2.2.2.2 hll HBs.out ?_)
       intro v5 w5 hgx5 hg5
       have hap := HQ.out.2.2.2.1.apart
       have hlt := HQ.out.2.2.2.1.lt
       have hgr := HGR.out
       have n1 : u3.ownBlock ≠ some gr := fun e => by have := (hlt gr e).1; omega
       have n2 : u3.ownBlock ≠ some y.heap.size := fun e => by have := (hlt _ e).1; omega
       skip
       have HF := hide (show LpOk w0 gr p fl d ov y (y.heap.size + 1) w5 v5 k q (acc ++ [t]) ov2 from ⟨HQ.out.1.grown hg5 n1 (by
         by_cases hov : ov2.ownBlock = none
         ·exact .inl hov
         ·refine .inr fun e => ?_
          cases hl : u3.ownBlock with
          | none => rw [hl] at e; exact hov e
          | some b => rw [hl] at e; exact hap b hl e), HQ.out.2.1.grown hg5 (fun b e => by have := (hlt b e).1; omega) HB.out, HQ.out.2.2.1.grown hg5 (fun e => n2 e.symm), hgx5⟩)
       clear hgx5 hg5 hap hlt hgr n1 n2
       go_wp2_with fail
       go_roundw
       case rel => exact .inl ⟨k, q, n, acc ++ [t], ov2, HF.out, by omega, by omega, by omega, by rw [TL.nodes_snoc]; omega, by omega, HE3.out⟩
       case measure => rw [rdLeft_ok HF.out.rd, HMs.out]; omega
/-- A tree of a call's own, in blocks from lo on, not in x. -/
def OwnB (w : World) (lo : Nat) (x : Option Nat) (t : T) (B : Option Addr) : Prop := ∃ bs, T.Own w t B bs ∧ bs.Nodup ∧ ∀ b ∈ bs, lo ≤ b ∧ b < w.heap.size
theorem OwnB.grown {w w' : World} {lo R : Nat} {x : Option Nat} {t : T} {B : Option Addr} (h : OwnB w lo x t B) (hg : w.grownBy w' (some R)) (h1 : R + 1 ≤ lo) : OwnB w' lo x t B := by
 obtain ⟨bs, h2, h3, h4⟩ := h
 exact ⟨bs, h2.same fun b hb => hg.block b (h4 b hb).2 (fun e => by have := Option.some.inj e; have := (h4 b hb).1; omega), h3, fun b hb => ⟨(h4 b hb).1, Nat.lt_of_lt_of_le (h4 b hb).2 hg.size⟩⟩
theorem fresh_own {w w' : World} {t : T} {e : Ending} {x : Option Nat} (h : Fresh t w e w') (hx : ∀ b, x = some b → b < w.heap.size) : ∃ B c, e = .returned (.agg (t.hd.cells (.slice B t.subs.length c)).toArray) ∧ (OwnB w' w.heap.size x t B ∧ TB w' w.heap.size w'.heap.size x t B) ∧ Below w.heap.size w w' := by
 obtain ⟨B, c, bs, h1, h2, h3, h4, h5⟩ := h
 exact ⟨B, c, h1, ⟨⟨bs, h2, h3, h4⟩, h2.in_ fun b hb => ⟨(h4 b hb).1, (h4 b hb).2, fun e => by have := hx b e; have := (h4 b hb).1; omega⟩⟩, h5⟩
/-- What pattern answers: as EPost; the tree is its caller's own. -/
def EPostO (w0 : World) (gr : Nat) (p : ByteArray) (fl : Int) (a : Nat → Addr) (d K : Nat) (ov : Value) (y : World) (r : PR) (e : Ending) (y' : World) : Prop :=
 EPost w0 gr p fl a d K ov y r e y' ∧ ∀ t j h, r = .ok t j h → ∃ B c, e = .returned (.agg (t.hd.cells (.slice B t.subs.length c)).toArray) ∧ OwnB y' y.heap.size none t B
theorem epostO {w0 : World} {gr : Nat} {p : ByteArray} {fl : Int} {a : Nat → Addr} {d K lo : Nat} {ov : Value} {x : Option Nat} {y : World} {r : PR} {y' : World} {u : T} {B : Option Addr} {c : Nat} (h : EPost w0 gr p fl a d K ov y r (.returned (.agg (u.hd.cells (.slice B u.subs.length c)).toArray)) y') (hu : ∀ t j h, r = .ok t j h → u = t) (ho : ∀ t j h, r = .ok t j h → OwnB y' lo x u B) (hlo : y.heap.size ≤ lo) : EPostO w0 gr p fl a d K ov y r (.returned (.agg (u.hd.cells (.slice B u.subs.length c)).toArray)) y' :=
 ⟨h, fun t j q e => by
  obtain ⟨bs, h1, h2, h3⟩ := ho t j q e
  rw [hu t j q e] at h1 ⊢
  exact ⟨B, c, rfl, bs, h1, h2, fun b hb => ⟨Nat.le_trans hlo (h3 b hb).1, (h3 b hb).2⟩⟩⟩
/-- A list of one tree, just built. -/
theorem GrowX.one {base : Nat} {x : Option Nat} {w : World} {t : T} {B : Option Addr} {c : Nat} (hbase : base ≤ w.heap.size) (hx : ∀ b, x = some b → b < w.heap.size) (ht : T.In w (fun b => base ≤ b ∧ b < w.heap.size ∧ x ≠ some b) t B) :
  GrowX base x (w.alloc (.cells (t.hd.cells (.slice B t.subs.length c)).toArray 27)) (.slice (some ⟨w.heap.size, 0, none⟩) 1 1) [t] := by
 refine ⟨t.hd.cells (.slice B t.subs.length c), ⟨rfl, .inr ⟨w.heap.size, 1, _, rfl, hbase, heap_alloc_new w _, Nat.le_refl _, by simp only [maxLen]; omega, rfl, rfl⟩⟩, fun g hg e => ?_, ⟨B, c, [], by simp, ?_, rfl⟩⟩
 ·have := hx g e
  have h2 : w.heap.size = g := by simpa [Value.ownBlock] using hg
  omega
 ·exact ht.same ((Same.refl _ _).alloc (fun b hb => hb.2.1) _) fun b hb => ⟨hb.1, by rw [World.size_alloc]; have := hb.2.1; omega, fun e => by
   have h2 : b = w.heap.size := by simpa [Value.ownBlock] using e
   have := hb.2.1; omega, hb.2.2⟩
/-- Behind a branch. -/
def pattT (p : ByteArray) (ic nl : Bool) (deeper : Option (Nat → Nat → PR)) (deep : Bool) (n j h : Nat) (acc : List T) : PR := if pb p j = 124 then pattE p ic nl deeper deep n (j + 1) h acc else .ok (T.alt acc) j h
theorem pattE_step (p : ByteArray) (ic nl : Bool) (deeper : Option (Nat → Nat → PR)) (deep : Bool) (n i g : Nat) (acc : List T) : pattE p ic nl deeper deep (n + 1) i g acc = (match branchE p ic nl deeper deep (p.size + 1) i g [] with
  | .bad c pl => .bad c pl
  | .ok t j h => pattT p ic nl deeper deep n j h (acc ++ [t])) := by
 rw [pattE]
 rfl
set_option maxRecDepth 100000 in
set_option maxHeartbeats 4000000 in
theorem erePattern_any {w0 y : World} {gr : Nat} {p : ByteArray} {i : Nat} {fl : Int} {g : Nat} {ov : Value} {d : Nat} {a : Nat → Addr} {m : Int} {deeper : Option (Nat → Nat → PR)} (hd : d ≤ 32) (hB5 : B5 w0 a m) (hG : GroupC w0 gr p fl a d deeper) (hdf : ∀ f, deeper = some f → ∀ i g, i ≤ p.size → (f i g).Fine p i g 0) (h : RdE y gr w0.heap.size p i fl g ov d .nilIface) (hp : p.size ≤ 1024) (hi : i ≤ p.size) (hgi : g ≤ i) (hw : Below w0.heap.size w0 y) :
  Calls Tryz.prog 49 #[.pointer (some ⟨gr, 0, none⟩)] y (EPostO w0 gr p fl a d (10000 * (40 - d)) ov y (pattE p (!decide (bits .and .i64 fl 2 = 0)) (!decide (bits .and .i64 fl 4 = 0)) deeper (decide (0 < d)) (p.size + 1) i g [])) := by
 have hB0 := hw.size
 have HPc := hide (fun (y' : World) (ov' : Value) (j g' : Nat) (h' : RdE y' gr w0.heap.size p j fl g' ov' d .nilIface) (hj : j ≤ p.size) (hgj : g' ≤ j) (hw' : Below w0.heap.size w0 y') => And.intro (ereBranch_any hd hB5 hG hdf h' hp hj hgj hw') (fun t k q => branchE_fine (ic := !decide (bits .and .i64 fl 2 = 0)) (nl := !decide (bits .and .i64 fl 4 = 0)) (deep := decide (0 < d)) hdf (p.size + 1) j g' [] t k q hj))
 clear hG hdf
 obtain ⟨ic, hic⟩ : ∃ ic, ic = !decide (bits .and .i64 fl 2 = 0) := ⟨_, rfl⟩
 obtain ⟨nl, hnl⟩ : ∃ nl, nl = !decide (bits .and .i64 fl 4 = 0) := ⟨_, rfl⟩
 rw [← hic, ← hnl] at HPc ⊢
 clear hic hnl
 have hz0 := Blk.new y 27 zeroCells
 have hbel := (Below.refl y.heap.size y).alloc (Nat.le_refl _) (.cells zeroCells 27)
 have H0 := hide (And.intro (h.next hbel) (And.intro (RdF.of_below (gr := gr) (x := ov.ownBlock) (Nat.le_trans hB0 (Nat.le_refl _)) hbel) hz0))
 have HB := hide hB0
 have HM := hide (fun (y' : World) (hb : Below w0.heap.size y y') => hB5.below (hw.trans hb))
 have HW := hide hw
 clear hz0 hbel h hB0 hB5 hw
 unfold zeroCells at *
 have HZ := hide (World.size_alloc y (.cells #[.int .i64 0, .int .u64 0, .int .u64 0, .int .u64 0, .int .u64 0, .slice none 0 0, .int .i64 0, .int .i64 0, .int .i64 0, .bool false] 27))
 obtain ⟨res, hres⟩ : ∃ res, res = pattE p ic nl deeper (decide (0 < d)) (p.size + 1) i g [] := ⟨_, rfl⟩
 rw [← hres]
 rw [pattE_step] at hres
 have HRS := hide hres
 clear hres
 go_enter Tryz.func49, Tryz.ntmps49
 go_upto_region 1 with fail
 generalize (y.alloc (.cells #[.int .i64 0, .int .u64 0, .int .u64 0, .int .u64 0, .int .u64 0, .slice none 0 0, .int .i64 0, .int .i64 0, .int .i64 0, .bool false] 27)) = W at *
 have HGR := hide (show gr < y.heap.size + 1 from by have h1 := H0.out.1.box.lt; have h2 := HZ.out; omega)
 have HP0 := hide (HPc.out W ov i g H0.out.1 hi hgi (HW.out.trans H0.out.2.1.below))
 go_cut [3] (fun lv wr => (∃ (j g' n : Nat) (acc : List T) (ov' : Value), LpOk w0 gr p fl d ov y (y.heap.size + 1) wr lv j g' acc ov' ∧ i ≤ j ∧ j ≤ p.size ∧ g' ≤ j ∧ TL.nodes acc ≤ 4 * (j - i) + 1 ∧ p.size ≤ n + j ∧ pattT p ic nl deeper (decide (0 < d)) n j g' acc = res) ∨ (∃ (j g' d' gf c : Nat) (pl : Int) (acc : List T) (ov' : Value), LpBad w0 gr p fl a ov y (y.heap.size + 1) wr lv j g' d' gf c pl acc ov' ∧ TL.nodes acc ≤ 10000 * (39 - d) + 9400 ∧ res = .bad c pl))
 case first =>
  go_wp2_with fail
  refine HP0.out.1.mono ?_
  rintro e z hz
  cases hq : branchE p ic nl deeper (decide (0 < d)) (p.size + 1) i g [] with
  | bad c2 pl =>
   rw [hq] at hz HRS
   obtain ⟨t, B, cc, ov2, i2, g2, d2, gf, rfl, hin, hnod, hE, hFI, hF⟩ := hz
   have HND := hide hnod
   clear hnod
   have hal := (Below.refl z.heap.size z).alloc (Nat.le_refl _) (.cells #[.int .i64 t.hd.kind, .int .u64 t.hd.s0, .int .u64 t.hd.s1, .int .u64 t.hd.s2, .int .u64 t.hd.s3, .slice B t.subs.length cc, .int .i64 t.hd.num, .int .i64 t.hd.min, .int .i64 t.hd.max, .bool t.hd.bare] 27)
   have hWz : y.heap.size + 1 ≤ z.heap.size := Nat.le_trans H0.out.2.2.lt hF.below.size
   have HF := hide (show LpBad w0 gr p fl a ov y (y.heap.size + 1) (z.alloc (.cells #[.int .i64 t.hd.kind, .int .u64 t.hd.s0, .int .u64 t.hd.s1, .int .u64 t.hd.s2, .int .u64 t.hd.s3, .slice B t.subs.length cc, .int .i64 t.hd.num, .int .i64 t.hd.min, .int .i64 t.hd.max, .bool t.hd.bare] 27)) (.slice (some ⟨z.heap.size, 0, none⟩) 1 1) i2 g2 d2 gf c2 pl [t] ov2 from ⟨hE.next hal, Blk.next hFI hal, (H0.out.2.1.trans hF).next (Nat.le_trans HB.out (Nat.le_trans (Nat.le_of_lt hWz) (Nat.le_refl _))) hal, (hF.blk_ H0.out.2.2 (blk_ne6 H0.out.2.2 H0.out.1.box (by decide)) (H0.out.1.apart H0.out.2.2 (by decide))).next hal, GrowX.one hWz (fun b hb => (hE.lt b hb).2) (hin.same (Same.refl _ _) fun b hb => ⟨by have h1 := hb.1; have h2 := H0.out.2.2.lt; omega, hb.2⟩)⟩)
   clear hal hWz hE hF hin hq hFI
   simp only [Hd.cells]
   go_wp2_with fail
   go_meet
   case rel => exact .inr ⟨i2, g2, d2, gf, c2, pl, [t], ov2, HF.out, by have := HND.out; simp only [TL.nodes]; omega, HRS.out⟩
  | ok t k q =>
   have hfine := HP0.out.2 t k q hq
   rw [hq] at hz HRS
   simp only [TL.nodes] at hfine
   obtain ⟨B, cc, ov2, rfl, hin, hE, hF⟩ := hz
   have hal := (Below.refl z.heap.size z).alloc (Nat.le_refl _) (.cells #[.int .i64 t.hd.kind, .int .u64 t.hd.s0, .int .u64 t.hd.s1, .int .u64 t.hd.s2, .int .u64 t.hd.s3, .slice B t.subs.length cc, .int .i64 t.hd.num, .int .i64 t.hd.min, .int .i64 t.hd.max, .bool t.hd.bare] 27)
   have hWz : y.heap.size + 1 ≤ z.heap.size := Nat.le_trans H0.out.2.2.lt hF.below.size
   have HF := hide (show LpOk w0 gr p fl d ov y (y.heap.size + 1) (z.alloc (.cells #[.int .i64 t.hd.kind, .int .u64 t.hd.s0, .int .u64 t.hd.s1, .int .u64 t.hd.s2, .int .u64 t.hd.s3, .slice B t.subs.length cc, .int .i64 t.hd.num, .int .i64 t.hd.min, .int .i64 t.hd.max, .bool t.hd.bare] 27)) (.slice (some ⟨z.heap.size, 0, none⟩) 1 1) k q [t] ov2 from ⟨hE.next hal, (H0.out.2.1.trans hF).next (Nat.le_trans HB.out (Nat.le_trans (Nat.le_of_lt hWz) (Nat.le_refl _))) hal, (hF.blk_ H0.out.2.2 (blk_ne6 H0.out.2.2 H0.out.1.box (by decide)) (H0.out.1.apart H0.out.2.2 (by decide))).next hal, GrowX.one hWz (fun b hb => (hE.lt b hb).2) (hin.same (Same.refl _ _) fun b hb => ⟨by have h1 := hb.1; have h2 := H0.out.2.2.lt; omega, hb.2⟩)⟩)
   clear hal hWz hE hF hin hq
   simp only [Hd.cells]
   go_wp2_with fail
   go_meet
   case rel => exact .inl ⟨k, q, p.size, [t], ov2, HF.out, by omega, by omega, by omega, by simp only [TL.nodes]; omega, by omega, HRS.out.symm⟩
 case rest =>
 rename World => W1
 go_wp2_with fail
 go_loopw [3] (fun lv wr => (∃ (j g' n : Nat) (acc : List T) (ov' : Value), LpOk w0 gr p fl d ov y (y.heap.size + 1) wr lv j g' acc ov' ∧ i ≤ j ∧ j ≤ p.size ∧ g' ≤ j ∧ TL.nodes acc ≤ 4 * (j - i) + 1 ∧ p.size ≤ n + j ∧ pattT p ic nl deeper (decide (0 < d)) n j g' acc = res) ∨ (∃ (j g' d' gf c : Nat) (pl : Int) (acc : List T) (ov' : Value), LpBad w0 gr p fl a ov y (y.heap.size + 1) wr lv j g' d' gf c pl acc ov' ∧ TL.nodes acc ≤ 10000 * (39 - d) + 9400 ∧ res = .bad c pl)) (fun _ wr => rdLeft gr p wr)
 case atStart => exact hcut
 case round =>
  clear hcut
  rcases hrel with ⟨j, g', n, acc, ov', hlp, hij, hjp, hgj, hac, hn, hbr⟩ | ⟨j, g', d', gf, c, pl, acc, ov', hlp, hac, hbr⟩
  case inr =>
   have HL := hide hlp
   have HE := hide hbr
   have HBr := hide (Nat.le_trans HB.out hlp.fr.below.size)
   clear hlp hbr
   have HN := hide (ereNext_bad HL.out.rd)
   go_wp2_with fail
   refine HN.out.mono ?_
   rintro e w1 ⟨rfl, hb1⟩
   have HL1 := hide (HL.out.next HBr.out hb1)
   have HB1 := hide (Nat.le_trans HBr.out hb1.size)
   clear hb1 HN
   obtain ⟨Al, cl, hlv, hinl⟩ := HL1.out.gx.in_
   subst hlv
   have HSq := hide (alt_any acc Al cl w1 (by omega) (TL.In.same (Same.refl _ _) (fun b hb => hb.2.1) hinl))
   clear hinl
   go_wp2_with fail
   refine HSq.out.mono ?_
   intro e wq hfr
   obtain ⟨B2, c2, rfl, howb, hbf⟩ := fresh_own (x := ov'.ownBlock) hfr (fun b hb => (HL1.out.rd.lt b hb).2)
   have HL2 := hide (HL1.out.next HB1.out hbf)
   have hin2 := howb.2
   have HOW := hide howb
   have HT2 := hide hin2
   have HZ2 := hide (show y.heap.size + 1 ≤ w1.heap.size from HL1.out.bx.lt)
   clear hin2 hbf hfr HSq
   go_wp2_with (refine wpList_store_node rfl _ _ rfl y.heap.size _ _ _ _ _ rfl rfl HL2.out.bx rfl ?_; intro w9 hrow9 hg9 hz9)
   refine bodyPost_ret (node_result rfl _ _ y.heap.size _ _ rfl hrow9) rfl ?_
   exact epostO (ebad HE.out HL2.out.rd HL2.out.fi HL2.out.fr (HT2.out.in_ HZ2.out (Nat.le_refl _)) (by have := alt_nodes acc; omega) hg9 HL2.out.bx (Nat.le_refl _) HB.out) (fun t2 j2 h2 e2 => by rw [HE.out] at e2; cases e2) (fun t2 j2 h2 e2 => HOW.out.1.grown hg9 HZ2.out) (Nat.le_of_lt HZ2.out)
  case inl =>
   have HL := hide hlp
   have HE := hide hbr
   have HBr := hide (Nat.le_trans HB.out hlp.fr.below.size)
   have HMs := hide (rdLeft_ok hlp.rd)
   clear hlp hbr
   have HN := hide (ereNext_nil HL.out.rd (by omega) (by omega))
   go_wp2_with fail
   refine HN.out.mono ?_
   rintro e w1 ⟨rfl, hb1⟩
   have HL1 := hide (HL.out.next HBr.out hb1)
   have HB1 := hide (Nat.le_trans HBr.out hb1.size)
   have HBY := hide (HL.out.fr.below.trans (hb1.mono HBr.out))
   clear hb1 HN
   unfold pattT at HE
   by_cases h124 : pb p j = 124
   case neg =>
    have HE2 := hide (show res = .ok (T.alt acc) j g' from by rw [← HE.out, if_neg h124])
    by_cases hj : j < p.size
    ·have hpl := pb_lt hj
     rw [if_pos hj, decide_eq_true hj]
     obtain ⟨c, hc⟩ : ∃ c, c = pb p j := ⟨_, rfl⟩
     rw [← hc] at h124 hpl ⊢
     have g124 : ((c : Int) != 124) = true := by rw [bne_iff_ne]; omega
     clear hc
     obtain ⟨Al, cl, hlv, hinl⟩ := HL1.out.gx.in_
     subst hlv
     have HSq := hide (alt_any acc Al cl w1 (by omega) (TL.In.same (Same.refl _ _) (fun b hb => hb.2.1) hinl))
     clear hinl
     go_wp2_with fail
     refine HSq.out.mono ?_
     intro e wq hfr
     obtain ⟨B2, c2, rfl, howb, hbf⟩ := fresh_own (x := ov'.ownBlock) hfr (fun b hb => (HL1.out.rd.lt b hb).2)
     have HL2 := hide (HL1.out.next HB1.out hbf)
     have hin2 := howb.2
     have HOW := hide howb
     have HT2 := hide hin2
     have HZ2 := hide (show y.heap.size + 1 ≤ w1.heap.size from HL1.out.bx.lt)
     clear hin2 hbf hfr HSq
     go_wp2_with (refine wpList_store_node rfl _ _ rfl y.heap.size _ _ _ _ _ rfl rfl HL2.out.bx rfl ?_; intro w9 hrow9 hg9 hz9)
     refine bodyPost_ret (node_result rfl _ _ y.heap.size _ _ rfl hrow9) rfl ?_
     exact epostO (eok HE2.out HL2.out.rd HL2.out.fr (HT2.out.in_ HZ2.out (Nat.le_refl _)) hg9 HL2.out.bx (Nat.le_refl _) HB.out) (fun t2 j2 h2 e2 => by rw [HE2.out] at e2; injection e2) (fun t2 j2 h2 e2 => HOW.out.1.grown hg9 HZ2.out) (Nat.le_of_lt HZ2.out)
    ·rw [if_neg hj, decide_eq_false hj]
     obtain ⟨Al, cl, hlv, hinl⟩ := HL1.out.gx.in_
     subst hlv
     have HSq := hide (alt_any acc Al cl w1 (by omega) (TL.In.same (Same.refl _ _) (fun b hb => hb.2.1) hinl))
     clear hinl
     go_wp2_with fail
     refine HSq.out.mono ?_
     intro e wq hfr
     obtain ⟨B2, c2, rfl, howb, hbf⟩ := fresh_own (x := ov'.ownBlock) hfr (fun b hb => (HL1.out.rd.lt b hb).2)
     have HL2 := hide (HL1.out.next HB1.out hbf)
     have hin2 := howb.2
     have HOW := hide howb
     have HT2 := hide hin2
     have HZ2 := hide (show y.heap.size + 1 ≤ w1.heap.size from HL1.out.bx.lt)
     clear hin2 hbf hfr HSq
     go_wp2_with (refine wpList_store_node rfl _ _ rfl y.heap.size _ _ _ _ _ rfl rfl HL2.out.bx rfl ?_; intro w9 hrow9 hg9 hz9)
     refine bodyPost_ret (node_result rfl _ _ y.heap.size _ _ rfl hrow9) rfl ?_
     exact epostO (eok HE2.out HL2.out.rd HL2.out.fr (HT2.out.in_ HZ2.out (Nat.le_refl _)) hg9 HL2.out.bx (Nat.le_refl _) HB.out) (fun t2 j2 h2 e2 => by rw [HE2.out] at e2; injection e2) (fun t2 j2 h2 e2 => HOW.out.1.grown hg9 HZ2.out) (Nat.le_of_lt HZ2.out)
   case pos =>
    have hj := pb_ins h124 (by decide)
    rw [if_pos hj, decide_eq_true hj, h124]
    cases n with
    | zero => omega
    | succ n =>
    have HE2 := hide (show (match branchE p ic nl deeper (decide (0 < d)) (p.size + 1) (j + 1) g' [] with
     | .bad c pl => .bad c pl
     | .ok t k h => pattT p ic nl deeper (decide (0 < d)) n k h (acc ++ [t])) = res from by rw [← pattE_step]; exact (if_pos h124).symm.trans HE.out)
    clear HE h124
    have c1 := HL1.out.rd.box.cell
    have f1 := HL1.out.rd.box.frozen
    go_upto_region 6 with fail
    have e1 : ((j : Int) + 1) = ((j + 1 : Nat) : Int) := by omega
    rw [e1]
    have HLs := hide (show LpOk w0 gr p fl d ov y (y.heap.size + 1) (w1.setCell ⟨gr, 1, none⟩ (.int .i64 ((j + 1 : Nat) : Int))) u3 (j + 1) g' acc ov' from ⟨RdE.setI HL1.out.rd (j + 1), HL1.out.fr.set HL1.out.rd.base 1 _, HL1.out.bx.far (blk_ne6 HL1.out.bx HL1.out.rd.box (by decide)) (p := ⟨gr, 1, none⟩) _, HL1.out.gx.keep HGR.out ((Same.refl _ _).set (fun e => e.2.1 rfl) _) (Nat.le_of_eq (by rw [World.size_setCell])) (fun b hb => .inl hb)⟩)
    have HBs := hide (show w0.heap.size ≤ (w1.setCell ⟨gr, 1, none⟩ (.int .i64 ((j + 1 : Nat) : Int))).heap.size from by rw [World.size_setCell]; exact HB1.out)
    have HBYs := hide (HBY.out.setCell HL1.out.rd.base (.int .i64 ((j + 1 : Nat) : Int)) (p := ⟨gr, 1, none⟩))
    generalize (w1.setCell ⟨gr, 1, none⟩ (.int .i64 ((j + 1 : Nat) : Int))) = w2 at *
    clear HL1 HB1 HBY c1 f1 e1
    have HL1 := HLs
    have HB1 := HBs
    clear HLs HBs
    have HPj := hide (HPc.out w2 ov' (j + 1) g' HL1.out.rd (by omega) (by omega) (HW.out.trans HBYs.out))
    go_wp2_with fail
    refine HPj.out.1.mono ?_
    rintro e z hz
    have hacl := TL.length_le acc
    cases hq : branchE p ic nl deeper (decide (0 < d)) (p.size + 1) (j + 1) g' [] with
    | bad c2 pl =>
     rw [hq] at hz HE2
     obtain ⟨t, B, cc, ov2, i2, g2, d2, gf, rfl, hin, hnod, hE, hFI, hF⟩ := hz
     have hal := (Below.refl z.heap.size z).alloc (Nat.le_refl _) (.cells #[.int .i64 t.hd.kind, .int .u64 t.hd.s0, .int .u64 t.hd.s1, .int .u64 t.hd.s2, .int .u64 t.hd.s3, .slice B t.subs.length cc, .int .i64 t.hd.num, .int .i64 t.hd.min, .int .i64 t.hd.max, .bool t.hd.bare] 27)
     have hzA : (z.alloc (.cells #[.int .i64 t.hd.kind, .int .u64 t.hd.s0, .int .u64 t.hd.s1, .int .u64 t.hd.s2, .int .u64 t.hd.s3, .slice B t.subs.length cc, .int .i64 t.hd.num, .int .i64 t.hd.min, .int .i64 t.hd.max, .bool t.hd.bare] 27)).heap.size = z.heap.size + 1 := World.size_alloc _ _
     have hgx := (HL1.out.gx.keep HGR.out hF.same hF.below.size hF.blk).next hal
     have hlvl := HL1.out.gx.lt
     have hrz := hE.next hal
     have hbz : ∀ b, ov2.ownBlock = some b → b < (z.alloc (.cells #[.int .i64 t.hd.kind, .int .u64 t.hd.s0, .int .u64 t.hd.s1, .int .u64 t.hd.s2, .int .u64 t.hd.s3, .slice B t.subs.length cc, .int .i64 t.hd.num, .int .i64 t.hd.min, .int .i64 t.hd.max, .bool t.hd.bare] 27)).heap.size := fun b hb => (hrz.lt b hb).2
     have hti : T.In (z.alloc (.cells #[.int .i64 t.hd.kind, .int .u64 t.hd.s0, .int .u64 t.hd.s1, .int .u64 t.hd.s2, .int .u64 t.hd.s3, .slice B t.subs.length cc, .int .i64 t.hd.num, .int .i64 t.hd.min, .int .i64 t.hd.max, .bool t.hd.bare] 27)) (fun b => y.heap.size + 1 ≤ b ∧ b < (z.alloc (.cells #[.int .i64 t.hd.kind, .int .u64 t.hd.s0, .int .u64 t.hd.s1, .int .u64 t.hd.s2, .int .u64 t.hd.s3, .slice B t.subs.length cc, .int .i64 t.hd.num, .int .i64 t.hd.min, .int .i64 t.hd.max, .bool t.hd.bare] 27)).heap.size ∧ some b ≠ u3.ownBlock ∧ ov2.ownBlock ≠ some b) t B :=
      hin.same ((same_of_below hal).mono fun b hb => hb.2.1) fun b hb => ⟨by have h1 := hb.1; have h2 := HL1.out.bx.lt; omega, by rw [hzA]; have := hb.2.1; omega, fun e => by have h1 := (hlvl b e.symm).2; have h2 := hb.1; omega, hb.2.2⟩
     have hfr := HL1.out.fr.trans hF
     have hbx := (hF.blk_ HL1.out.bx (blk_ne6 HL1.out.bx HL1.out.rd.box (by decide)) (HL1.out.rd.apart HL1.out.bx (by decide))).next hal
     have HQ := hide (And.intro hrz (And.intro (hfr.next (Nat.le_trans HB1.out hF.below.size) hal) (And.intro hbx (And.intro hgx hti))))
     have HBz := hide hbz
     have HBs := hide (show y.heap.size + 1 ≤ (z.alloc (.cells #[.int .i64 t.hd.kind, .int .u64 t.hd.s0, .int .u64 t.hd.s1, .int .u64 t.hd.s2, .int .u64 t.hd.s3, .slice B t.subs.length cc, .int .i64 t.hd.num, .int .i64 t.hd.min, .int .i64 t.hd.max, .bool t.hd.bare] 27)).heap.size from hbx.lt)
     have HFI := hide (Blk.next hFI hal)
     have hll : acc.length < 1000000 := by omega
     clear hal hzA hgx hlvl hrz hbz hti hfr hbx hin hE hF hq hFI
     simp only [Hd.cells]
     go_wp2_with (at_builtin; refine wpList_append_nodeX rfl _ _ rfl (y.heap.size + 1) _ _ acc rfl HQ.out.2.2.2.1 HBz.out t B cc z.heap.size 1 rfl (Blk.new _ _ _) HQ.out.2.2.2.2 hll HBs.out ?_)
     intro v5 w5 hgx5 hg5
     have hap := HQ.out.2.2.2.1.apart
     have hlt := HQ.out.2.2.2.1.lt
     have hgr := HGR.out
     have n1 : u3.ownBlock ≠ some gr := fun e => by have := (hlt gr e).1; omega
     have n2 : u3.ownBlock ≠ some y.heap.size := fun e => by have := (hlt _ e).1; omega
     have n3 : u3.ownBlock ≠ some gf := fun e => by
      obtain ⟨xs, h1, _⟩ := HQ.out.2.2.2.1
      rcases h1.2 with ⟨e2, _⟩ | ⟨g9, cap9, cur9, e2, _, hg9, _⟩
      ·rw [e2] at e; cases e
      ·rw [e2] at e
       have e3 : g9 = gf := by simpa [Value.ownBlock] using e
       subst e3
       exact blk_ne6 hg9 HFI.out (by decide) rfl
     have HF := hide (show LpBad w0 gr p fl a ov y (y.heap.size + 1) w5 v5 i2 g2 d2 gf c2 pl (acc ++ [t]) ov2 from ⟨HQ.out.1.grown hg5 n1 (by
       by_cases hov : ov2.ownBlock = none
       ·exact .inl hov
       ·refine .inr fun e => ?_
        cases hl : u3.ownBlock with
        | none => rw [hl] at e; exact hov e
        | some b => rw [hl] at e; exact hap b hl e), Blk.grown HFI.out hg5 (fun e => n3 e.symm), HQ.out.2.1.grown hg5 (fun b e => by have := (hlt b e).1; omega) HB.out, HQ.out.2.2.1.grown hg5 (fun e => n2 e.symm), hgx5⟩)
     clear hgx5 hg5 hap hlt hgr n1 n2 n3
     go_wp2_with fail
     go_roundw
     case rel => exact .inr ⟨i2, g2, d2, gf, c2, pl, acc ++ [t], ov2, HF.out, by rw [TL.nodes_snoc]; omega, HE2.out.symm⟩
     case measure => rw [rdLeft_bad HF.out.rd, HMs.out]; omega
    | ok t k q =>
     have hfine := HPj.out.2 t k q hq
     rw [hq] at hz HE2
     simp only [TL.nodes] at hfine
     obtain ⟨B, cc, ov2, rfl, hin, hE, hF⟩ := hz
     have hal := (Below.refl z.heap.size z).alloc (Nat.le_refl _) (.cells #[.int .i64 t.hd.kind, .int .u64 t.hd.s0, .int .u64 t.hd.s1, .int .u64 t.hd.s2, .int .u64 t.hd.s3, .slice B t.subs.length cc, .int .i64 t.hd.num, .int .i64 t.hd.min, .int .i64 t.hd.max, .bool t.hd.bare] 27)
     have hzA : (z.alloc (.cells #[.int .i64 t.hd.kind, .int .u64 t.hd.s0, .int .u64 t.hd.s1, .int .u64 t.hd.s2, .int .u64 t.hd.s3, .slice B t.subs.length cc, .int .i64 t.hd.num, .int .i64 t.hd.min, .int .i64 t.hd.max, .bool t.hd.bare] 27)).heap.size = z.heap.size + 1 := World.size_alloc _ _
     have hgx := (HL1.out.gx.keep HGR.out hF.same hF.below.size hF.blk).next hal
     have hlvl := HL1.out.gx.lt
     have hrz := hE.next hal
     have hbz : ∀ b, ov2.ownBlock = some b → b < (z.alloc (.cells #[.int .i64 t.hd.kind, .int .u64 t.hd.s0, .int .u64 t.hd.s1, .int .u64 t.hd.s2, .int .u64 t.hd.s3, .slice B t.subs.length cc, .int .i64 t.hd.num, .int .i64 t.hd.min, .int .i64 t.hd.max, .bool t.hd.bare] 27)).heap.size := fun b hb => (hrz.lt b hb).2
     have hti : T.In (z.alloc (.cells #[.int .i64 t.hd.kind, .int .u64 t.hd.s0, .int .u64 t.hd.s1, .int .u64 t.hd.s2, .int .u64 t.hd.s3, .slice B t.subs.length cc, .int .i64 t.hd.num, .int .i64 t.hd.min, .int .i64 t.hd.max, .bool t.hd.bare] 27)) (fun b => y.heap.size + 1 ≤ b ∧ b < (z.alloc (.cells #[.int .i64 t.hd.kind, .int .u64 t.hd.s0, .int .u64 t.hd.s1, .int .u64 t.hd.s2, .int .u64 t.hd.s3, .slice B t.subs.length cc, .int .i64 t.hd.num, .int .i64 t.hd.min, .int .i64 t.hd.max, .bool t.hd.bare] 27)).heap.size ∧ some b ≠ u3.ownBlock ∧ ov2.ownBlock ≠ some b) t B :=
      hin.same ((same_of_below hal).mono fun b hb => hb.2.1) fun b hb => ⟨by have h1 := hb.1; have h2 := HL1.out.bx.lt; omega, by rw [hzA]; have := hb.2.1; omega, fun e => by have h1 := (hlvl b e.symm).2; have h2 := hb.1; omega, hb.2.2⟩
     have hfr := HL1.out.fr.trans hF
     have hbx := (hF.blk_ HL1.out.bx (blk_ne6 HL1.out.bx HL1.out.rd.box (by decide)) (HL1.out.rd.apart HL1.out.bx (by decide))).next hal
     have HQ := hide (And.intro hrz (And.intro (hfr.next (Nat.le_trans HB1.out hF.below.size) hal) (And.intro hbx (And.intro hgx hti))))
     have HBz := hide hbz
     have HBs := hide (show y.heap.size + 1 ≤ (z.alloc (.cells #[.int .i64 t.hd.kind, .int .u64 t.hd.s0, .int .u64 t.hd.s1, .int .u64 t.hd.s2, .int .u64 t.hd.s3, .slice B t.subs.length cc, .int .i64 t.hd.num, .int .i64 t.hd.min, .int .i64 t.hd.max, .bool t.hd.bare] 27)).heap.size from hbx.lt)
     skip
     have hll : acc.length < 1000000 := by omega
     clear hal hzA hgx hlvl hrz hbz hti hfr hbx hin hE hF hq
     simp only [Hd.cells]
     go_wp2_with (at_builtin; refine wpList_append_nodeX rfl _ _ rfl (y.heap.size + 1) _ _ acc rfl HQ.out.2.2.2.1 HBz.out t B cc z.heap.size 1 rfl (Blk.new _ _ _) HQ.out.2.2.2.2 hll HBs.out ?_)
     intro v5 w5 hgx5 hg5
     have hap := HQ.out.2.2.2.1.apart
     have hlt := HQ.out.2.2.2.1.lt
     have hgr := HGR.out
     have n1 : u3.ownBlock ≠ some gr := fun e => by have := (hlt gr e).1; omega
     have n2 : u3.ownBlock ≠ some y.heap.size := fun e => by have := (hlt _ e).1; omega
     skip
     have HF := hide (show LpOk w0 gr p fl d ov y (y.heap.size + 1) w5 v5 k q (acc ++ [t]) ov2 from ⟨HQ.out.1.grown hg5 n1 (by
       by_cases hov : ov2.ownBlock = none
       ·exact .inl hov
       ·refine .inr fun e => ?_
        cases hl : u3.ownBlock with
        | none => rw [hl] at e; exact hov e
        | some b => rw [hl] at e; exact hap b hl e), HQ.out.2.1.grown hg5 (fun b e => by have := (hlt b e).1; omega) HB.out, HQ.out.2.2.1.grown hg5 (fun e => n2 e.symm), hgx5⟩)
     clear hgx5 hg5 hap hlt hgr n1 n2
     go_wp2_with fail
     go_roundw
     case rel => exact .inl ⟨k, q, n, acc ++ [t], ov2, HF.out, by omega, by omega, by omega, by rw [TL.nodes_snoc]; omega, by omega, HE2.out⟩
     case measure => rw [rdLeft_ok HF.out.rd, HMs.out]; omega
end Go.Proofs.YtpkcklpjbeginaaGreatDoor

/-! ## Ere6g -/
namespace Go.Proofs.YtpkcklpjbeginaaGreatDoor
open Go.RowKit

/-- A pattern in which groups may stand: by how deep they already do. -/
theorem erePatt_all {w0 : World} {gr : Nat} {p : ByteArray} {fl : Int} {a : Nat → Addr} {m : Int} (hB5 : B5 w0 a m) (hp : p.size ≤ 1024) : ∀ (k d : Nat), d + k = 32 →
  PattC w0 gr p fl a d (fun i g => deepE p (!decide (bits .and .i64 fl 2 = 0)) (!decide (bits .and .i64 fl 4 = 0)) k (decide (0 < d)) i g)
 | 0, d, hk => fun y ov i g h hi hgi hw =>
  (erePattern_any (by omega) hB5 (ereGroup_any (by omega) hB5 hp (.inl ⟨rfl, by omega⟩)) (fun f e => by cases e) h hp hi hgi hw).mono fun e y' hh => hh.1
 | k + 1, d, hk => fun y ov i g h hi hgi hw => by
  have ih := erePatt_all hB5 hp k (d + 1) (by omega) (gr := gr) (fl := fl)
  rw [show decide (0 < d + 1) = true from decide_eq_true (by omega)] at ih
  exact (erePattern_any (deeper := some (deepE p _ _ k true)) (by omega) hB5 (ereGroup_any (by omega) hB5 hp (.inr ⟨_, rfl, by omega, ih, fun i g hi => deepE_fine k true i g hi⟩)) (fun f e i g hi => by injection e with e; subst e; exact deepE_fine k true i g hi) h hp hi hgi hw).mono fun e y' hh => hh.1
/-- The whole pattern: its tree is the caller's own. -/
theorem erePatt_top {w0 : World} {gr : Nat} {p : ByteArray} {fl : Int} {a : Nat → Addr} {m : Int} (hB5 : B5 w0 a m) (hp : p.size ≤ 1024) (y : World) (ov : Value) (h : RdE y gr w0.heap.size p 0 fl 0 ov 0 .nilIface) (hw : Below w0.heap.size w0 y) :
  Calls Tryz.prog 49 #[.pointer (some ⟨gr, 0, none⟩)] y (EPostO w0 gr p fl a 0 400000 ov y (deepE p (!decide (bits .and .i64 fl 2 = 0)) (!decide (bits .and .i64 fl 4 = 0)) 32 false 0 0)) := by
 have ih := erePatt_all hB5 hp 31 1 rfl (gr := gr) (fl := fl)
 exact erePattern_any (d := 0) (deeper := some (deepE p _ _ 31 true)) (by omega) hB5 (ereGroup_any (by omega) hB5 hp (.inr ⟨_, rfl, by omega, ih, fun i g hi => deepE_fine 31 true i g hi⟩)) (fun f e i g hi => by injection e with e; subst e; exact deepE_fine 31 true i g hi) h hp (Nat.zero_le _) (Nat.le_refl _) hw
/-- What a parser answers. -/
def ParseIs (r : PR) (a : Nat → Addr) (w : World) (e : Ending) (w' : World) : Prop := match r with
 | .ok t _ g => ∃ B c, e = .returned (.tuple #[.agg (t.hd.cells (.slice B t.subs.length c)).toArray, .int .i64 (g : Int), .nilIface]) ∧ OwnB w' w.heap.size none t B ∧ Below w.heap.size w w'
 | .bad c pl => ∃ gf, e = .returned (.tuple #[.agg zeroCells, .int .i64 0, faultV gf]) ∧ FaultIs a w' gf c pl ∧ Below w.heap.size w w'
theorem parseIs_bad {r : PR} {c gf : Nat} {pl : Int} {a : Nat → Addr} {w w' : World} (hr : r = .bad c pl) (h1 : FaultIs a w' gf c pl) (h2 : Below w.heap.size w w') : ParseIs r a w (.returned (.tuple #[.agg zeroCells, .int .i64 0, faultV gf])) w' := by subst hr; exact ⟨gf, rfl, h1, h2⟩
theorem parseIs_ok {r : PR} {t : T} {i g : Nat} {a : Nat → Addr} {w w' : World} {B : Option Addr} {c : Nat} (hr : r = .ok t i g) (h1 : OwnB w' w.heap.size none t B) (h2 : Below w.heap.size w w') : ParseIs r a w (.returned (.tuple #[.agg (t.hd.cells (.slice B t.subs.length c)).toArray, .int .i64 (g : Int), .nilIface])) w' := by subst hr; exact ⟨B, c, rfl, h1, h2⟩
theorem OwnB.lower {w : World} {lo lo' : Nat} {x : Option Nat} {t : T} {B : Option Addr} (h : OwnB w lo x t B) (hl : lo' ≤ lo) : OwnB w lo' x t B := by
 obtain ⟨bs, h1, h2, h3⟩ := h
 exact ⟨bs, h1, h2, fun b hb => ⟨Nat.le_trans hl (h3 b hb).1, (h3 b hb).2⟩⟩
theorem OwnB.next {w w' : World} {lo : Nat} {x : Option Nat} {t : T} {B : Option Addr} (h : OwnB w lo x t B) (hb : Below w.heap.size w w') : OwnB w' lo x t B := by
 obtain ⟨bs, h1, h2, h3⟩ := h
 exact ⟨bs, h1.same fun b hm => hb.block b (h3 b hm).2, h2, fun b hm => ⟨(h3 b hm).1, Nat.lt_of_lt_of_le (h3 b hm).2 hb.size⟩⟩
theorem OwnB.grown' {w w' : World} {lo hi R : Nat} {x : Option Nat} {t : T} {B : Option Addr} (h : ∃ bs, T.Own w t B bs ∧ bs.Nodup ∧ ∀ b ∈ bs, lo ≤ b ∧ b < hi) (hg : w.grownBy w' (some R)) (h1 : hi ≤ R) (h2 : hi ≤ w.heap.size) : OwnB w' lo x t B := by
 obtain ⟨bs, h3, h4, h5⟩ := h
 exact ⟨bs, h3.same fun b hb => hg.block b (by have := (h5 b hb).2; omega) (fun e => by have := Option.some.inj e; have := (h5 b hb).2; omega), h4, fun b hb => ⟨(h5 b hb).1, by have := (h5 b hb).2; have := hg.size; omega⟩⟩
set_option maxRecDepth 100000 in
set_option maxHeartbeats 4000000 in
theorem ereParse_any (p : ByteArray) (fl : Int) (a : Nat → Addr) (m : Int) (w : World) (hB5 : B5 w a m) :
  Calls Tryz.prog 21 #[.string p, .int .i64 fl] w (ParseIs (parseE p (!decide (bits .and .i64 fl 2 = 0)) (!decide (bits .and .i64 fl 4 = 0))) a w) := by
 have hz0 := Blk.new w 27 zeroCells
 have hbel := (Below.refl w.heap.size w).alloc (Nat.le_refl _) (.cells zeroCells 27)
 have H0 := hide (And.intro hbel hz0)
 have HM := hide (fun (y' : World) (hb : Below w.heap.size w y') => hB5.below hb)
 have HZ := hide (World.size_alloc w (.cells zeroCells 27))
 clear hz0 hbel
 unfold zeroCells at H0 HZ
 obtain ⟨res, hres⟩ : ∃ res, res = parseE p (!decide (bits .and .i64 fl 2 = 0)) (!decide (bits .and .i64 fl 4 = 0)) := ⟨_, rfl⟩
 rw [← hres]
 have HRS := hide hres
 clear hres
 go_enter Tryz.func21, Tryz.ntmps21
 go_upto_region 1 with fail
 generalize (w.alloc (.cells #[.int .i64 0, .int .u64 0, .int .u64 0, .int .u64 0, .int .u64 0, .slice none 0 0, .int .i64 0, .int .i64 0, .int .i64 0, .bool false] 27)) = W at *
 by_cases hp : 1024 < p.size
 ·have HE := hide (show res = .bad 11 1024 from by rw [HRS.out]; unfold parseE; rw [if_pos hp])
  have g1 : decide ((1024 : Int) < (p.size : Int)) = true := decide_eq_true (by omega)
  have ce := (HM.out _ H0.out.1).errs.var 2 (by decide)
  have HF := hide (fault_any 1024 (a (sentVar 11)) W)
  clear hB5
  go_wp2_with fail
  refine HF.out.mono ?_
  rintro e w1 ⟨gf, rfl, hgf, hfb, hb⟩
  have H1 := hide (And.intro (H0.out.1.trans (hb.mono H0.out.1.size)) (And.intro (H0.out.2.next hb) hfb))
  clear ce hb hgf hfb HF
  unfold faultV
  go_wp2_with (refine wpList_store_node rfl _ _ rfl w.heap.size _ ⟨0, 0, 0, 0, 0, 0, 0, 0, false⟩ none 0 0 rfl rfl H1.out.2.1 rfl ?_; intro w9 hrow9 hg9 hz9)
  have c9 := hrow9.cell
  simp only [Hd.cells] at c9
  refine bodyPost_ret (v := .tuple #[.agg zeroCells, .int .i64 0, faultV gf]) (by simp [results, Tryz.results21, go_sem, c9, zeroCells, faultV]) rfl ?_
  exact parseIs_bad HE.out (Blk.grown H1.out.2.2 hg9 (fun e => (blk_ne6 H1.out.2.2 H1.out.2.1 (by decide)) (Option.some.inj e))) (below_grew H1.out.1 hg9 (Nat.le_refl _) (fun q hq => by rw [← Option.some.inj hq]; exact Nat.le_refl _))
 ·have g1 : decide ((1024 : Int) < (p.size : Int)) = false := decide_eq_false (by omega)
  have HRS2 := hide (show res = wholeP p (deepE p (!decide (bits .and .i64 fl 2 = 0)) (!decide (bits .and .i64 fl 4 = 0)) 32 false 0 0) from by rw [HRS.out]; unfold parseE; rw [if_neg hp])
  have hp2 : p.size ≤ 1024 := by omega
  clear HRS hp
  have hal := (Below.refl W.heap.size W).alloc (Nat.le_refl _) (.cells #[.string p, .int .i64 0, .int .i64 fl, .int .i64 0, .slice none 0 0, .nilIface] 90)
  have hw1 : Below w.heap.size w (W.alloc (.cells #[.string p, .int .i64 0, .int .i64 fl, .int .i64 0, .slice none 0 0, .nilIface] 90)) := H0.out.1.trans (hal.mono H0.out.1.size)
  have hE : RdE (W.alloc (.cells #[.string p, .int .i64 0, .int .i64 fl, .int .i64 0, .slice none 0 0, .nilIface] 90)) W.heap.size w.heap.size p 0 fl 0 (.slice none 0 0) 0 .nilIface := ⟨Blk.new W 90 _, ⟨[], rfl, OwnInts.nil _ _⟩, H0.out.1.size, by decide, by decide⟩
  have HP := hide (erePatt_top hB5 hp2 _ _ hE hw1)
  have H1 := hide (And.intro hE (And.intro hw1 (H0.out.2.next hal)))
  have HGR := hide (show w.heap.size < W.heap.size from H0.out.2.lt)
  have hsz : (W.alloc (.cells #[.string p, .int .i64 0, .int .i64 fl, .int .i64 0, .slice none 0 0, .nilIface] 90)).heap.size = W.heap.size + 1 := World.size_alloc _ _
  have HSZ := hide hsz
  clear hal hw1 hE hB5 hsz
  go_upto_region 4 with fail
  generalize (W.alloc (.cells #[.string p, .int .i64 0, .int .i64 fl, .int .i64 0, .slice none 0 0, .nilIface] 90)) = W1 at *
  generalize W.heap.size = gr at *
  obtain ⟨r, hr⟩ : ∃ r, r = deepE p (!decide (bits .and .i64 fl 2 = 0)) (!decide (bits .and .i64 fl 4 = 0)) 32 false 0 0 := ⟨_, rfl⟩
  have hFin := deepE_fine (p := p) (ic := !decide (bits .and .i64 fl 2 = 0)) (nl := !decide (bits .and .i64 fl 4 = 0)) 32 false 0 0 (Nat.zero_le _)
  rw [← hr] at HP HRS2 hFin
  clear hr
  go_wp2_with fail
  refine HP.out.mono ?_
  rintro e z ⟨hz, hown⟩
  cases r with
  | bad c pl =>
   have HE2 := hide (show res = .bad c pl from HRS2.out)
   obtain ⟨t, B, cc, ov', i', g', d', gf, rfl, hin, hnod, hE, hFI, hF⟩ := hz
   have HBL := hide (H1.out.2.1.trans (hF.below))
   have HS := hide (And.intro (show RdE z gr w.heap.size p i' fl g' ov' d' (faultV gf) from hE) (And.intro (hF.blk_ H1.out.2.2 (by have := HGR.out; omega) (by simp [Value.ownBlock])) hFI))
   have HZz := hide (Nat.lt_of_lt_of_le H1.out.2.2.lt hF.below.size)
   clear hin hnod hE hFI hF hown HP HRS2 hFin
   have hal := (Below.refl z.heap.size z).alloc (Nat.le_refl _) (.cells #[.int .i64 0, .int .u64 0, .int .u64 0, .int .u64 0, .int .u64 0, .slice none 0 0, .int .i64 0, .int .i64 0, .int .i64 0, .bool false] 27)
   have HAL := hide hal
   have HSA := hide (And.intro (HS.out.1.next hal) (And.intro (Blk.next HS.out.2.1 hal) (And.intro (Blk.next HS.out.2.2 hal) (Blk.new z 27 #[.int .i64 0, .int .u64 0, .int .u64 0, .int .u64 0, .int .u64 0, .slice none 0 0, .int .i64 0, .int .i64 0, .int .i64 0, .bool false]))))
   have HBLA := hide (HBL.out.trans (hal.mono HBL.out.size))
   clear hal
   go_upto_region 5 with (refine wpList_store_node rfl _ _ rfl z.heap.size _ _ _ _ _ rfl rfl HSA.out.2.2.2 rfl ?_; intro w2 hrow_w2 hg_w2 hz_w2)
   have HG2 := hide hg_w2
   have HS2 := hide (And.intro (HSA.out.1.grown hg_w2 (fun e => (blk_ne6 HSA.out.2.2.2 HSA.out.1.box (by decide)) (Option.some.inj e)) (.inr (HSA.out.1.apart HSA.out.2.2.2 (by decide)))) (And.intro (Blk.grown HSA.out.2.1 hg_w2 (fun e => by have := Option.some.inj e; have := HZz.out; omega)) (And.intro (Blk.grown HSA.out.2.2.1 hg_w2 (fun e => (blk_ne6 HSA.out.2.2.1 HSA.out.2.2.2 (by decide)) (Option.some.inj e))) (hrow_w2))))
   have HBL2 := hide (below_grew HBLA.out hg_w2 (Nat.le_refl _) (fun q hq => by rw [← Option.some.inj hq]; exact Nat.le_of_lt HZz.out))
   clear hg_w2 hrow_w2 hz_w2 HSA HBLA
   have hn1 := fun w => run_eql_iface_nil (P := Tryz.prog) (w := w) 32 Tryz.isIfaceErr6 83 (.pointer (some ⟨gf, 0, none⟩))
   have hn2 := fun w => run_neq_iface_nil (P := Tryz.prog) (w := w) 32 Tryz.isIfaceErr6 83 (.pointer (some ⟨gf, 0, none⟩))
   have c2 := HS2.out.1.box.cell
   unfold faultV at c2
   go_upto_region 8 with fail
   clear c2 hn1 hn2
   have cbx := HS2.out.1.box
   unfold faultV at cbx
   have HCB := hide cbx
   clear cbx
   refine wp_region_mix (fun x => Blk x gr 90 #[.string p, .int .i64 (i' : Int), .int .i64 fl, .int .i64 (g' : Int), ov', .iface 83 (.pointer (some ⟨gf, 0, none⟩))]) [] (by kernel_rfl) (fun hcl => ?_)
   generalize hz0 : w2.drew = z0
   have hbd : Below w2.heap.size w2 z0 := by rw [← hz0]; exact (Below.refl _ _).drew
   have hS := HCB.out.next hbd
   have HQ := hide (And.intro (HS2.out.2.1.next hbd) (And.intro (Blk.next HS2.out.2.2.1 hbd) (HBL2.out.trans (hbd.mono HBL2.out.size))))
   clear hz0 hbd
   refine wpAnyT_free (i := 0) hcl rfl (by kernel_rfl) (v := ?_) (fun _ _ _ h => h) hS (Or.inl ⟨rfl, fun w' _ => ?_⟩) (fun hcl => ?_)
   rotate_left
   ·go_simp
    with_reducible rfl
   simp only [List.getElem_toArray, List.getElem_cons_zero, List.getElem_cons_succ, Act.put, List.setIfInBounds_toArray, List.set_cons_zero, List.set_cons_succ]
   refine wpAnyT_free (i := 1) hcl rfl (by kernel_rfl) (v := ?_) (fun _ _ _ h => h) hS (Or.inl ⟨rfl, fun w' _ => ?_⟩) (fun hcl => ?_)
   rotate_left
   ·go_simp
    with_reducible rfl
   simp only [List.getElem_toArray, List.getElem_cons_zero, List.getElem_cons_succ, Act.put, List.setIfInBounds_toArray, List.set_cons_zero, List.set_cons_succ]
   refine wpAnyT_free (i := 2) hcl rfl (by kernel_rfl) (v := ?_) (fun _ _ _ h => h) hS (Or.inl ⟨rfl, fun w' _ => ?_⟩) (fun hcl => ?_)
   rotate_left
   ·go_simp
    with_reducible rfl
   simp only [List.getElem_toArray, List.getElem_cons_zero, List.getElem_cons_succ, Act.put, List.setIfInBounds_toArray, List.set_cons_zero, List.set_cons_succ]
   refine wpAnyT_free (i := 3) hcl rfl (by kernel_rfl) (v := ?_) (fun _ _ _ h => h) hS (Or.inl ⟨rfl, fun w' _ => ?_⟩) (fun hcl => ?_)
   rotate_left
   ·go_simp
    with_reducible rfl
   simp only [List.getElem_toArray, List.getElem_cons_zero, List.getElem_cons_succ, Act.put, List.setIfInBounds_toArray, List.set_cons_zero, List.set_cons_succ]
   refine wpAnyT_take (i := 4) hcl rfl (by kernel_rfl) (v := ?_) (fun _ _ _ h => h) hS (Or.inl ⟨rfl, fun w' hS => ?_⟩) (fun hcl => ?_)
   rotate_left
   ·skip
    have cr : ∀ i : Nat, _ = _ := hS.cell
    go_simp
    with_reducible rfl
   simp only [List.getElem_toArray, List.getElem_cons_zero, List.getElem_cons_succ, Act.put, List.setIfInBounds_toArray, List.set_cons_zero, List.set_cons_succ]
   refine wpAnyT_step (i := 5) hcl rfl (by kernel_rfl) (fun hcl => ?_)
   simp only [List.getElem_toArray, List.getElem_cons_zero, List.getElem_cons_succ, Act.put, List.setIfInBounds_toArray, List.set_cons_zero, List.set_cons_succ]
   refine wpList_store_node rfl _ _ rfl w.heap.size _ ⟨0, 0, 0, 0, 0, 0, 0, 0, false⟩ none 0 0 rfl rfl HQ.out.1 rfl ?_
   intro w9 hrow9 hg9 hz9
   refine wpList_nil ?_
   have hS9 := hS.grown hg9 (fun e => by have := Option.some.inj e; have := HGR.out; omega)
   have HF := hide (And.intro hrow9 (And.intro (Blk.grown HQ.out.2.1 hg9 (fun e => (blk_ne6 HQ.out.2.1 HQ.out.1 (by decide)) (Option.some.inj e))) (below_grew HQ.out.2.2 hg9 (Nat.le_refl _) (fun q hq => by rw [← Option.some.inj hq]; exact Nat.le_refl _))))
   refine ⟨hS9, ?_⟩
   clear hS
   have hS := hS9
   clear hS9 hrow9 hg9 hz9
   refine wpAnyT_free (i := 6) hcl rfl (by kernel_rfl) (v := ?_) (fun _ _ _ h => h) hS (Or.inl ⟨rfl, fun w' _ => ?_⟩) (fun hcl => ?_)
   rotate_left
   ·go_simp
    with_reducible rfl
   simp only [List.getElem_toArray, List.getElem_cons_zero, List.getElem_cons_succ, Act.put, List.setIfInBounds_toArray, List.set_cons_zero, List.set_cons_succ]
   refine wpAnyT_free (i := 7) hcl rfl (by kernel_rfl) (v := ?_) (fun _ _ _ h => h) hS (Or.inl ⟨rfl, fun w' _ => ?_⟩) (fun hcl => ?_)
   rotate_left
   ·go_simp
    with_reducible rfl
   simp only [List.getElem_toArray, List.getElem_cons_zero, List.getElem_cons_succ, Act.put, List.setIfInBounds_toArray, List.set_cons_zero, List.set_cons_succ]
   refine wpAnyT_done (by kernel_rfl) ?_ _
   clear hS
   go_wp2_with fail
   have c9 := HF.out.1.cell
   simp only [Hd.cells] at c9
   refine bodyPost_ret (v := .tuple #[.agg zeroCells, .int .i64 0, faultV gf]) (by simp [results, Tryz.results21, go_sem, c9, zeroCells, faultV]) rfl ?_
   exact parseIs_bad HE2.out HF.out.2.1 HF.out.2.2
  | ok t j q =>
   obtain ⟨B, cc, ov', he, hin, hE, hF⟩ := hz
   obtain ⟨B2, cc2, he2, hob⟩ := hown t j q rfl
   have HRS3 := hide (show res = (if 2000 < t.fullSize then .bad 9 p.size else .ok t j q) from HRS2.out)
   have HBL := hide (H1.out.2.1.trans (hF.below))
   have hob2 := hob
   subst he
   injection he2 with he2
   injection he2 with he2
   have hB : B = B2 := by
    have h5 := congrArg (fun x : Array Value => x[5]?) he2
    simp [Hd.cells] at h5
    exact h5.1
   subst hB
   have HS := hide (And.intro (show RdE z gr w.heap.size p j fl q ov' 0 .nilIface from hE) (hF.blk_ H1.out.2.2 (by have := HGR.out; omega) (by simp [Value.ownBlock])))
   have HZz := hide (Nat.lt_of_lt_of_le H1.out.2.2.lt hF.below.size)
   have HOB := hide hob2
   have HW1z := hide hF.below.size
   simp only [PR.Fine] at hFin
   have hnd : t.nodes ≤ 10000 := by omega
   have hq : q ≤ p.size := by omega
   clear hin hE hF hob hob2 he2 HP HRS2 hFin
   have hal := (Below.refl z.heap.size z).alloc (Nat.le_refl _) (.cells #[.int .i64 0, .int .u64 0, .int .u64 0, .int .u64 0, .int .u64 0, .slice none 0 0, .int .i64 0, .int .i64 0, .int .i64 0, .bool false] 27)
   have HAL := hide hal
   have HSA := hide (And.intro (HS.out.1.next hal) (And.intro (Blk.next HS.out.2 hal) (Blk.new z 27 #[.int .i64 0, .int .u64 0, .int .u64 0, .int .u64 0, .int .u64 0, .slice none 0 0, .int .i64 0, .int .i64 0, .int .i64 0, .bool false])))
   have HBLA := hide (HBL.out.trans (hal.mono HBL.out.size))
   clear hal
   go_upto_region 5 with (refine wpList_store_node rfl _ _ rfl z.heap.size _ _ _ _ _ rfl rfl HSA.out.2.2 rfl ?_; intro w2 hrow_w2 hg_w2 hz_w2)
   have HG2 := hide hg_w2
   have HS2 := hide (And.intro (HSA.out.1.grown hg_w2 (fun e => (blk_ne6 HSA.out.2.2 HSA.out.1.box (by decide)) (Option.some.inj e)) (.inr (HSA.out.1.apart HSA.out.2.2 (by decide)))) (And.intro (Blk.grown HSA.out.2.1 hg_w2 (fun e => by have := Option.some.inj e; have := HZz.out; omega)) (hrow_w2)))
   have HBL2 := hide (below_grew HBLA.out hg_w2 (Nat.le_refl _) (fun q hq => by rw [← Option.some.inj hq]; exact Nat.le_of_lt HZz.out))
   clear hg_w2 hrow_w2 hz_w2 HSA HBLA
   have HOB2 := hide (show OwnB w2 W1.heap.size none t B from by
    obtain ⟨bs, h1, h2, h3⟩ := HOB.out
    exact OwnB.grown' (hi := z.heap.size) ⟨bs, h1.same fun b hb => HAL.out.block b (h3 b hb).2, h2, h3⟩ HG2.out (Nat.le_refl _) HAL.out.size)
   have HRR := hide (show w.heap.size + 1 ≤ W1.heap.size from H1.out.2.2.lt)
   have HSz := hide (Size_any t B cc w2 (by omega) (by
    obtain ⟨bs, h1, h2, h3⟩ := HOB2.out
    exact h1.in_ fun b hb => (h3 b hb).2))
   have hn1 := fun w => run_eql_nil_nil_at (P := Tryz.prog) (w := w) 32 Tryz.isIfaceErr6
   have c2 := HS2.out.1.box.cell
   have ct := HS2.out.2.2.cell
   simp only [Hd.cells] at ct
   go_wp2_with fail
   refine HSz.out.mono ?_
   rintro e w3 ⟨rfl, hb3⟩
   have HS3 := hide (And.intro (show RdE w3 gr w.heap.size p j fl q ov' 0 .nilIface from HS2.out.1.next hb3) (And.intro (HS2.out.2.1.next hb3) (HS2.out.2.2.next hb3)))
   have HBL3 := hide (HBL2.out.trans (hb3.mono HBL2.out.size))
   have HOB3 := hide (HOB2.out.next hb3)
   clear hb3 c2 ct hn1 HSz
   by_cases hbig : 2000 < t.fullSize
   ·have HE2 := hide (HRS3.out.trans (if_pos hbig))
    have g2 : decide (2000 < t.fullSize) = true := decide_eq_true hbig
    have ceq := (HM.out _ HBL3.out).errs.var 12 (by decide)
    have cq := HS3.out.1.box.cell
    go_wp2_with fail
    refine (ereFail_any HS3.out.1 HBL3.out.size a 9 ((p.size : Nat) : Int)).mono ?_
    rintro e z ⟨gf, rfl, hE, hFI, hF⟩
    have HSb := hide (And.intro hE (And.intro (hF.blk_ HS3.out.2.1 (by have := HGR.out; omega) (HS3.out.1.apart HS3.out.2.1 (by decide))) hFI))
    have HBLb := hide (HBL3.out.trans hF.below)
    clear hE hFI hF ceq cq g2 hbig
    have hn2 := fun w => run_neq_iface_nil (P := Tryz.prog) (w := w) 32 Tryz.isIfaceErr6 83 (.pointer (some ⟨gf, 0, none⟩))
    have c2 := HSb.out.1.box.cell
    unfold faultV at c2
    go_upto_region 8 with fail
    clear c2 hn2 HS2 HBL2
    have HS2 := HSb
    have HBL2 := HBLb
    clear HSb HBLb
    have cbx := HS2.out.1.box
    unfold faultV at cbx
    have HCB := hide cbx
    clear cbx
    refine wp_region_mix (fun x => Blk x gr 90 #[.string p, .int .i64 (j : Int), .int .i64 fl, .int .i64 (q : Int), ov', .iface 83 (.pointer (some ⟨gf, 0, none⟩))]) [] (by kernel_rfl) (fun hcl => ?_)
    generalize hz0 : z.drew = z0
    have hbd : Below z.heap.size z z0 := by rw [← hz0]; exact (Below.refl _ _).drew
    have hS := HCB.out.next hbd
    have HQ := hide (And.intro (HS2.out.2.1.next hbd) (And.intro (Blk.next HS2.out.2.2 hbd) (HBL2.out.trans (hbd.mono HBL2.out.size))))
    clear hz0 hbd
    refine wpAnyT_free (i := 0) hcl rfl (by kernel_rfl) (v := ?_) (fun _ _ _ h => h) hS (Or.inl ⟨rfl, fun w' _ => ?_⟩) (fun hcl => ?_)
    rotate_left
    ·go_simp
     with_reducible rfl
    simp only [List.getElem_toArray, List.getElem_cons_zero, List.getElem_cons_succ, Act.put, List.setIfInBounds_toArray, List.set_cons_zero, List.set_cons_succ]
    refine wpAnyT_free (i := 1) hcl rfl (by kernel_rfl) (v := ?_) (fun _ _ _ h => h) hS (Or.inl ⟨rfl, fun w' _ => ?_⟩) (fun hcl => ?_)
    rotate_left
    ·go_simp
     with_reducible rfl
    simp only [List.getElem_toArray, List.getElem_cons_zero, List.getElem_cons_succ, Act.put, List.setIfInBounds_toArray, List.set_cons_zero, List.set_cons_succ]
    refine wpAnyT_free (i := 2) hcl rfl (by kernel_rfl) (v := ?_) (fun _ _ _ h => h) hS (Or.inl ⟨rfl, fun w' _ => ?_⟩) (fun hcl => ?_)
    rotate_left
    ·go_simp
     with_reducible rfl
    simp only [List.getElem_toArray, List.getElem_cons_zero, List.getElem_cons_succ, Act.put, List.setIfInBounds_toArray, List.set_cons_zero, List.set_cons_succ]
    refine wpAnyT_free (i := 3) hcl rfl (by kernel_rfl) (v := ?_) (fun _ _ _ h => h) hS (Or.inl ⟨rfl, fun w' _ => ?_⟩) (fun hcl => ?_)
    rotate_left
    ·go_simp
     with_reducible rfl
    simp only [List.getElem_toArray, List.getElem_cons_zero, List.getElem_cons_succ, Act.put, List.setIfInBounds_toArray, List.set_cons_zero, List.set_cons_succ]
    refine wpAnyT_take (i := 4) hcl rfl (by kernel_rfl) (v := ?_) (fun _ _ _ h => h) hS (Or.inl ⟨rfl, fun w' hS => ?_⟩) (fun hcl => ?_)
    rotate_left
    ·skip
     have cr : ∀ i : Nat, _ = _ := hS.cell
     go_simp
     with_reducible rfl
    simp only [List.getElem_toArray, List.getElem_cons_zero, List.getElem_cons_succ, Act.put, List.setIfInBounds_toArray, List.set_cons_zero, List.set_cons_succ]
    refine wpAnyT_step (i := 5) hcl rfl (by kernel_rfl) (fun hcl => ?_)
    simp only [List.getElem_toArray, List.getElem_cons_zero, List.getElem_cons_succ, Act.put, List.setIfInBounds_toArray, List.set_cons_zero, List.set_cons_succ]
    refine wpList_store_node rfl _ _ rfl w.heap.size _ ⟨0, 0, 0, 0, 0, 0, 0, 0, false⟩ none 0 0 rfl rfl HQ.out.1 rfl ?_
    intro w9 hrow9 hg9 hz9
    refine wpList_nil ?_
    have hS9 := hS.grown hg9 (fun e => by have := Option.some.inj e; have := HGR.out; omega)
    have HF := hide (And.intro hrow9 (And.intro (Blk.grown HQ.out.2.1 hg9 (fun e => (blk_ne6 HQ.out.2.1 HQ.out.1 (by decide)) (Option.some.inj e))) (below_grew HQ.out.2.2 hg9 (Nat.le_refl _) (fun q hq => by rw [← Option.some.inj hq]; exact Nat.le_refl _))))
    refine ⟨hS9, ?_⟩
    clear hS
    have hS := hS9
    clear hS9 hrow9 hg9 hz9
    refine wpAnyT_free (i := 6) hcl rfl (by kernel_rfl) (v := ?_) (fun _ _ _ h => h) hS (Or.inl ⟨rfl, fun w' _ => ?_⟩) (fun hcl => ?_)
    rotate_left
    ·go_simp
     with_reducible rfl
    simp only [List.getElem_toArray, List.getElem_cons_zero, List.getElem_cons_succ, Act.put, List.setIfInBounds_toArray, List.set_cons_zero, List.set_cons_succ]
    refine wpAnyT_free (i := 7) hcl rfl (by kernel_rfl) (v := ?_) (fun _ _ _ h => h) hS (Or.inl ⟨rfl, fun w' _ => ?_⟩) (fun hcl => ?_)
    rotate_left
    ·go_simp
     with_reducible rfl
    simp only [List.getElem_toArray, List.getElem_cons_zero, List.getElem_cons_succ, Act.put, List.setIfInBounds_toArray, List.set_cons_zero, List.set_cons_succ]
    refine wpAnyT_done (by kernel_rfl) ?_ _
    clear hS
    go_wp2_with fail
    have c9 := HF.out.1.cell
    simp only [Hd.cells] at c9
    refine bodyPost_ret (v := .tuple #[.agg zeroCells, .int .i64 0, faultV gf]) (by simp [results, Tryz.results21, go_sem, c9, zeroCells, faultV]) rfl ?_
    exact parseIs_bad HE2.out HF.out.2.1 HF.out.2.2
   ·have HE2 := hide (HRS3.out.trans (if_neg hbig))
    have g2 : decide (2000 < t.fullSize) = false := decide_eq_false hbig
    have hn2 := fun w => run_neq_nil_nil_at (P := Tryz.prog) (w := w) 32 Tryz.isIfaceErr6
    have c2 := HS3.out.1.box.cell
    go_upto_region 9 with fail
    clear c2 hn2 g2 hbig
    refine wp_region_mix (fun x => Blk x gr 90 #[.string p, .int .i64 (j : Int), .int .i64 fl, .int .i64 (q : Int), ov', .nilIface] ∧ Blk x z.heap.size 27 (t.hd.cells (.slice B t.subs.length cc)).toArray) [] (by kernel_rfl) (fun hcl => ?_)
    generalize hz0 : w3.drew = z0
    have hbd : Below w3.heap.size w3 z0 := by rw [← hz0]; exact (Below.refl _ _).drew
    have hS : Blk z0 gr 90 #[.string p, .int .i64 (j : Int), .int .i64 fl, .int .i64 (q : Int), ov', .nilIface] ∧ Blk z0 z.heap.size 27 (t.hd.cells (.slice B t.subs.length cc)).toArray := ⟨HS3.out.1.box.next hbd, HS3.out.2.2.next hbd⟩
    have HQ := hide (And.intro (HS3.out.2.1.next hbd) (And.intro (HOB3.out.next hbd) (HBL3.out.trans (hbd.mono HBL3.out.size))))
    clear hz0 hbd
    refine wpAnyT_take (i := 0) hcl rfl (by kernel_rfl) (v := ?_) (fun _ _ _ h => h) hS (Or.inl ⟨rfl, fun w' hS => ?_⟩) (fun hcl => ?_)
    rotate_left
    ·skip
     have cr : ∀ i : Nat, _ = _ := hS.2.cell
     simp only [Hd.cells] at cr
     go_simp
     with_reducible rfl
    simp only [List.getElem_toArray, List.getElem_cons_zero, List.getElem_cons_succ, Act.put, List.setIfInBounds_toArray, List.set_cons_zero, List.set_cons_succ]
    refine wpAnyT_free (i := 1) hcl rfl (by kernel_rfl) (v := ?_) (fun _ _ _ h => h) hS (Or.inl ⟨rfl, fun w' _ => ?_⟩) (fun hcl => ?_)
    rotate_left
    ·go_simp
     with_reducible rfl
    simp only [List.getElem_toArray, List.getElem_cons_zero, List.getElem_cons_succ, Act.put, List.setIfInBounds_toArray, List.set_cons_zero, List.set_cons_succ]
    refine wpAnyT_free (i := 2) hcl rfl (by kernel_rfl) (v := ?_) (fun _ _ _ h => h) hS (Or.inl ⟨rfl, fun w' _ => ?_⟩) (fun hcl => ?_)
    rotate_left
    ·go_simp
     with_reducible rfl
    simp only [List.getElem_toArray, List.getElem_cons_zero, List.getElem_cons_succ, Act.put, List.setIfInBounds_toArray, List.set_cons_zero, List.set_cons_succ]
    refine wpAnyT_free (i := 3) hcl rfl (by kernel_rfl) (v := ?_) (fun _ _ _ h => h) hS (Or.inl ⟨rfl, fun w' _ => ?_⟩) (fun hcl => ?_)
    rotate_left
    ·go_simp
     with_reducible rfl
    simp only [List.getElem_toArray, List.getElem_cons_zero, List.getElem_cons_succ, Act.put, List.setIfInBounds_toArray, List.set_cons_zero, List.set_cons_succ]
    refine wpAnyT_take (i := 4) hcl rfl (by kernel_rfl) (v := ?_) (fun _ _ _ h => h) hS (Or.inl ⟨rfl, fun w' hS => ?_⟩) (fun hcl => ?_)
    rotate_left
    ·skip
     have cr : ∀ i : Nat, _ = _ := hS.1.cell
     go_simp
     with_reducible rfl
    simp only [List.getElem_toArray, List.getElem_cons_zero, List.getElem_cons_succ, Act.put, List.setIfInBounds_toArray, List.set_cons_zero, List.set_cons_succ]
    refine wpAnyT_step (i := 5) hcl rfl (by kernel_rfl) (fun hcl => ?_)
    simp only [List.getElem_toArray, List.getElem_cons_zero, List.getElem_cons_succ, Act.put, List.setIfInBounds_toArray, List.set_cons_zero, List.set_cons_succ]
    refine wpList_store_node rfl _ _ rfl w.heap.size _ t.hd B t.subs.length cc rfl rfl HQ.out.1 rfl ?_
    intro w9 hrow9 hg9 hz9
    refine wpList_nil ?_
    have hS9 : Blk w9 gr 90 #[.string p, .int .i64 (j : Int), .int .i64 fl, .int .i64 (q : Int), ov', .nilIface] ∧ Blk w9 z.heap.size 27 (t.hd.cells (.slice B t.subs.length cc)).toArray := ⟨hS.1.grown hg9 (fun e => by have := Option.some.inj e; have := HGR.out; omega), hS.2.grown hg9 (fun e => by have := Option.some.inj e; have := HZz.out; omega)⟩
    have HF := hide (And.intro hrow9 (And.intro (HQ.out.2.1.grown hg9 HRR.out) (below_grew HQ.out.2.2 hg9 (Nat.le_refl _) (fun q hq => by rw [← Option.some.inj hq]; exact Nat.le_refl _))))
    refine ⟨hS9, ?_⟩
    clear hS
    have hS := hS9
    clear hS9 hrow9 hg9 hz9
    refine wpAnyT_free (i := 6) hcl rfl (by kernel_rfl) (v := ?_) (fun _ _ _ h => h) hS (Or.inl ⟨rfl, fun w' _ => ?_⟩) (fun hcl => ?_)
    rotate_left
    ·go_simp
     with_reducible rfl
    simp only [List.getElem_toArray, List.getElem_cons_zero, List.getElem_cons_succ, Act.put, List.setIfInBounds_toArray, List.set_cons_zero, List.set_cons_succ]
    refine wpAnyT_free (i := 7) hcl rfl (by kernel_rfl) (v := ?_) (fun _ _ _ h => h) hS (Or.inl ⟨rfl, fun w' _ => ?_⟩) (fun hcl => ?_)
    rotate_left
    ·go_simp
     with_reducible rfl
    simp only [List.getElem_toArray, List.getElem_cons_zero, List.getElem_cons_succ, Act.put, List.setIfInBounds_toArray, List.set_cons_zero, List.set_cons_succ]
    refine wpAnyT_done (by kernel_rfl) ?_ _
    clear hS
    go_wp2_with fail
    have c9 := HF.out.1.cell
    simp only [Hd.cells] at c9
    refine bodyPost_ret (v := .tuple #[.agg (t.hd.cells (.slice B t.subs.length cc)).toArray, .int .i64 (q : Int), .nilIface]) (by simp [results, Tryz.results21, go_sem, c9, Hd.cells]) rfl ?_
    exact parseIs_ok HE2.out (OwnB.lower HF.out.2.1 (by have := HRR.out; omega)) HF.out.2.2
end Go.Proofs.YtpkcklpjbeginaaGreatDoor

/-! ## Lives6 -/
namespace Go.Proofs.YtpkcklpjbeginaaGreatDoor
open Go.RowKit

theorem fl_zero2 : (!decide (bits .and .i64 0 2 = 0)) = false := by decide
theorem fl_zero4 : (!decide (bits .and .i64 0 4 = 0)) = false := by decide
end Go.Proofs.YtpkcklpjbeginaaGreatDoor
