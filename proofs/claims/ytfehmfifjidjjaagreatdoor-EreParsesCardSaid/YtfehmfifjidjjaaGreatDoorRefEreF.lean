/- RefEreF: trawlref06: group. (Printed by gen_refere6f.py.)
RefEreG: trawlref06: branch, pattern. (Printed by gen_refere6g.py.)
RefEreH: trawlref06: pattern, Done, Parse. (Printed by gen_refere6h.py.)
RefEreI: trawlref06: Done, Parse. (Printed by gen_refere6i.py.) -/
import Derived.Test.YtfehmfifjidjjaaGreatDoorRefEreA
import Derived.Test.YtfehmfifjidjjaaGreatDoorEreB
set_option linter.unusedSimpArgs false
set_option linter.unusedVariables false
set_option linter.unnecessarySimpa false

/-! ## RefEreF -/
namespace Go.Proofs.YtfehmfifjidjjaaGreatDoor
open Go.RowKit
/-- The contract of the document's pattern. -/
def PatR (B0 gr : Nat) (p : ByteArray) (fl : Int) (d : Nat) (f : Nat → Nat → PR) : Prop :=
 ∀ (y : World) (ov : Value) (i g : Nat), RdS y gr B0 p (i : Int) fl (g : Int) ov d 0 0 → i ≤ p.size → g ≤ i → B0 ≤ y.heap.size → Calls Tryz.prog 50 #[.pointer (some ⟨gr, 0, none⟩)] y (SPost B0 gr p fl d (fun b => y.heap.size ≤ b) ov y (f i g))
set_option maxRecDepth 100000 in
set_option maxHeartbeats 2000000 in
theorem refGroup_any {B0 gr : Nat} {p : ByteArray} {fl : Int} {d : Nat} {deeper : Option (Nat → Nat → PR)} (hp : p.size ≤ 1024) (hd : d ≤ 32)
  (hD : (deeper = none ∧ d = 32) ∨ ∃ f, deeper = some f ∧ d < 32 ∧ PatR B0 gr p fl (d + 1) f ∧ ∀ i g, i ≤ p.size → (f i g).Fine p i g 0) : GroupR B0 gr p fl d deeper := by
 intro y ov i g h hi hgi hB0
 have hz0 := Blk.new y 27 zeroCells
 have hbel := (Below.refl y.heap.size y).alloc (Nat.le_refl _) (.cells zeroCells 27)
 have H0 := hide (And.intro (h.next hbel) (And.intro (RdF.of_below (gr := gr) (x := ov.ownBlock) hB0 hbel) hz0))
 have HB := hide hB0
 have HZW := hide (World.size_alloc y (.cells zeroCells 27))
 have HBW := hide (Nat.le_trans hB0 hbel.size)
 clear hz0 hbel h hB0
 unfold zeroCells at *
 obtain ⟨res, hres⟩ : ∃ res, res = groupP p 1 deeper i g := ⟨_, rfl⟩
 rw [← hres]
 have HRS := hide hres
 clear hres
 obtain ⟨A0, cc0, hov⟩ := H0.out.1.form
 subst hov
 have c0 := H0.out.1.box.cell
 have f0 := H0.out.1.box.frozen
 have HD := hide hD
 clear hD
 go_enter Tryz.func148, Tryz.ntmps148
 go_upto_region 1 with fail
 generalize (y.alloc (.cells #[.int .i64 0, .int .u64 0, .int .u64 0, .int .u64 0, .int .u64 0, .slice none 0 0, .int .i64 0, .int .i64 0, .int .i64 0, .bool false] 27)) = W at *
 rcases HD.out with ⟨hdn, rfl⟩ | ⟨f, hdf, hd32, hpat, hfine⟩
 ·have HE := hide (show res = .bad 10 i from by rw [HRS.out, hdn]; rfl)
  have HFt := hide (refFault_any (show RdS W gr B0 p (i : Int) fl (g : Int) _ 32 0 0 from H0.out.1) HBW.out 11 (i : Int))
  clear HRS HD hdn
  go_wp2_with fail
  refine HFt.out.mono ?_
  rintro e w4 ⟨rfl, hE, hF⟩
  have H4 := hide (And.intro hE (And.intro (H0.out.2.1.trans hF) (hF.blk_ H0.out.2.2 (blk_ne6 H0.out.2.2 H0.out.1.box (by decide)) (H0.out.1.apart H0.out.2.2 (by decide)))))
  clear hE hF HFt c0 f0
  go_wp2_with (refine wpList_store_node rfl _ _ rfl y.heap.size _ ⟨0, 0, 0, 0, 0, 0, 0, 0, false⟩ none 0 0 rfl rfl H4.out.2.2 rfl ?_; intro w9 hrow9 hg9 hz9)
  refine bodyPost_ret (node_result rfl _ _ y.heap.size _ _ rfl hrow9) rfl ?_
  exact sbad (t := nilT) HE.out H4.out.1 H4.out.2.1 (T.In_iff.2 trivial) hg9 H4.out.2.2 (Nat.le_refl _) HB.out
 ·have g32 : decide (32 ≤ (d : Int)) = false := decide_eq_false (by omega)
  have HP := hide (And.intro hpat hfine)
  have HRS2 := hide (show res = (match f (i + 1) (g + 1) with
   | .bad c pl => .bad c pl
   | .ok t j h => if j < p.size then .ok (grpT ((g + 1 : Nat) : Int) t) (j + 1) h else .bad 1 i) from by rw [HRS.out, hdf]; rfl)
  clear HRS HD hdf hpat hfine
  obtain ⟨l, hld, hown⟩ := H0.out.1.opn
  have hal := (Below.refl W.heap.size W).alloc (Nat.le_refl _) (.cells #[.int .i64 (i : Int)] 3)
  have hownA := hown.below hal (Nat.le_refl _)
  have HZ1 := hide (show y.heap.size < W.heap.size from H0.out.2.2.lt)
  have hblkA := Blk.new W 3 #[.int .i64 (i : Int)]
  have H1 := hide (And.intro (H0.out.1.next hal) (And.intro (H0.out.2.1.next HBW.out hal) (H0.out.2.2.next hal)))
  have hll : l.length < 1000000 := by omega
  clear hown hal
  subst hld
  have hsz : B0 ≤ (W.alloc (.cells #[.int .i64 (i : Int)] 3)).heap.size := by rw [World.size_alloc]; have := HBW.out; omega
  go_upto_region 5 with (at_builtin; refine wpList_append_open rfl _ _ rfl B0 _ l rfl hownA (i : Int) _ _ rfl hblkA hll hsz ?_; intro v5 w5 hown5 hg5 hat5; obtain ⟨A5, c5, rfl, _⟩ := hown5.form; have hgo5 := H1.out.1.ne; have c5' := (H1.out.1.box.grown hg5 (fun e => hgo5 gr e.symm rfl)).cell; have f5' := (H1.out.1.box.grown hg5 (fun e => hgo5 gr e.symm rfl)).frozen)
  have hl1 : (l ++ [(i : Int)]).length = l.length + 1 := by simp
  have hE := RdG.opened H1.out.1 hg5 hown5 4
  have hF := (H1.out.2.1.opened hg5 (fun q hq => (H1.out.1.lt q hq).1) hat5 hsz).set H1.out.1.base 4 (.slice A5 (l ++ [(i : Int)]).length c5)
  have hR := (H1.out.2.2.grown hg5 (fun e => H1.out.1.apart H1.out.2.2 (by decide) e.symm)).far (blk_ne6 H1.out.2.2 H1.out.1.box (by decide)) (p := ⟨gr, 4, none⟩) (.slice A5 (l ++ [(i : Int)]).length c5)
  rw [hl1] at hE hF hR
  have H2 := hide (And.intro (show RdS (w5.setCell ⟨gr, 4, none⟩ (.slice A5 (l.length + 1) c5)) gr B0 p (i : Int) fl (g : Int) (.slice A5 (l.length + 1) c5) (l.length + 1) 0 0 from hE) (And.intro hF hR))
  have HZ2 := hide (show y.heap.size < (w5.setCell ⟨gr, 4, none⟩ (.slice A5 (l.length + 1) c5)).heap.size from hR.lt)
  generalize (w5.setCell ⟨gr, 4, none⟩ (.slice A5 (l.length + 1) c5)) = W2 at *
  clear hown5 hg5 hat5 c5' f5' hgo5 hE hF hR hl1 hsz hownA hblkA c0 f0
  have c2 := H2.out.1.box.cell
  have f2 := H2.out.1.box.frozen
  go_upto_region 6 with fail
  have e1 : ((g : Int) + 1) = ((g + 1 : Nat) : Int) := by omega
  rw [e1]
  have H3 := hide (And.intro (show RdS (W2.setCell ⟨gr, 3, none⟩ (.int .i64 ((g + 1 : Nat) : Int))) gr B0 p (i : Int) fl ((g + 1 : Nat) : Int) (.slice A5 (l.length + 1) c5) (l.length + 1) 0 0 from H2.out.1.set 3 _) (And.intro (H2.out.2.1.set H2.out.1.base 3 (.int .i64 ((g + 1 : Nat) : Int))) (H2.out.2.2.far (blk_ne6 H2.out.2.2 H2.out.1.box (by decide)) (p := ⟨gr, 3, none⟩) (.int .i64 ((g + 1 : Nat) : Int)))))
  generalize (W2.setCell ⟨gr, 3, none⟩ (.int .i64 ((g + 1 : Nat) : Int))) = W3 at *
  clear c2 f2 e1
  have c3 := H3.out.1.box.cell
  have f3 := H3.out.1.box.frozen
  go_upto_region 8 with fail
  have e2 : ((i : Int) + 1) = ((i + 1 : Nat) : Int) := by omega
  rw [e2]
  have H4 := hide (And.intro (show RdS (W3.setCell ⟨gr, 1, none⟩ (.int .i64 ((i + 1 : Nat) : Int))) gr B0 p ((i + 1 : Nat) : Int) fl ((g + 1 : Nat) : Int) (.slice A5 (l.length + 1) c5) (l.length + 1) 0 0 from H3.out.1.set 1 _) (And.intro (H3.out.2.1.set H3.out.1.base 1 (.int .i64 ((i + 1 : Nat) : Int))) (H3.out.2.2.far (blk_ne6 H3.out.2.2 H3.out.1.box (by decide)) (p := ⟨gr, 1, none⟩) (.int .i64 ((i + 1 : Nat) : Int)))))
  have HZ4 := hide (show y.heap.size < (W3.setCell ⟨gr, 1, none⟩ (.int .i64 ((i + 1 : Nat) : Int))).heap.size from H4.out.2.2.lt)
  have HB4 := hide (Nat.le_trans HB.out (Nat.le_of_lt HZ4.out))
  generalize (W3.setCell ⟨gr, 1, none⟩ (.int .i64 ((i + 1 : Nat) : Int))) = W4 at *
  clear c3 f3 e2
  have HPt := hide (HP.out.1 W4 (.slice A5 (l.length + 1) c5) (i + 1) (g + 1) H4.out.1 (by omega) (by omega) HB4.out)
  have HFn := hide (HP.out.2 (i + 1) (g + 1) (by omega))
  clear HP
  go_wp2_with fail
  refine HPt.out.mono ?_
  intro e z hz
  clear HPt
  cases hq : f (i + 1) (g + 1) with
  | bad c pl =>
   rw [hq] at hz HRS2
   obtain ⟨t, B, cc, ov', I, g', rfl, hin, hE, hF⟩ := hz
   have HE := hide (show res = .bad c pl from HRS2.out)
   clear HFn
   obtain ⟨cd, hcd⟩ : ∃ cd : Int, cd = ((c + 1 : Nat) : Int) := ⟨_, rfl⟩
   rw [← hcd] at hE
   have gc : (cd == 0) = false := by rw [beq_eq_false_iff_ne]; omega
   have HCD := hide hcd
   clear hcd
   have H5 := hide (And.intro hE (And.intro (H4.out.2.1.trans hF) (And.intro (hF.blk_ H4.out.2.2 (blk_ne6 H4.out.2.2 H4.out.1.box (by decide)) (H4.out.1.apart H4.out.2.2 (by decide))) hin)))
   have HB5 := hide (Nat.le_trans HB4.out hF.below.size)
   have HZ5 := hide (Nat.lt_of_lt_of_le HZ4.out hF.below.size)
   have HG4 := hide H4.out.1.box.lt
   clear hin hE hF hq HRS2
   obtain ⟨A7, c7, hov7⟩ := H5.out.1.form
   subst hov7
   have hal := (Below.refl z.heap.size z).alloc (Nat.le_refl _) (.cells #[.int .i64 t.hd.kind, .int .u64 t.hd.s0, .int .u64 t.hd.s1, .int .u64 t.hd.s2, .int .u64 t.hd.s3, .slice B t.subs.length cc, .int .i64 t.hd.num, .int .i64 t.hd.min, .int .i64 t.hd.max, .bool t.hd.bare] 27)
   have H6 := hide (And.intro (H5.out.1.next hal) (And.intro (H5.out.2.1.next HB5.out hal) (And.intro (H5.out.2.2.1.next hal) (And.intro (Blk.new z 27 #[.int .i64 t.hd.kind, .int .u64 t.hd.s0, .int .u64 t.hd.s1, .int .u64 t.hd.s2, .int .u64 t.hd.s3, .slice B t.subs.length cc, .int .i64 t.hd.num, .int .i64 t.hd.min, .int .i64 t.hd.max, .bool t.hd.bare]) (H5.out.2.2.2.same (ok' := fun b => W4.heap.size ≤ b ∧ b < z.heap.size ∧ (Value.slice A7 (l.length + 1) c7).ownBlock ≠ some b) ((same_of_below hal).mono fun b hb => hb.2.1) fun b hb => hb)))))
   have HS6 := hide (show z.heap.size + 1 ≤ (z.alloc (.cells #[.int .i64 t.hd.kind, .int .u64 t.hd.s0, .int .u64 t.hd.s1, .int .u64 t.hd.s2, .int .u64 t.hd.s3, .slice B t.subs.length cc, .int .i64 t.hd.num, .int .i64 t.hd.min, .int .i64 t.hd.max, .bool t.hd.bare] 27)).heap.size from Nat.le_of_eq (World.size_alloc _ _).symm)
   have HB6 := hide (Nat.le_trans HB5.out hal.size)
   clear hal
   simp only [Hd.cells]
   go_upto_region 9 with fail
   generalize (z.alloc (.cells #[.int .i64 t.hd.kind, .int .u64 t.hd.s0, .int .u64 t.hd.s1, .int .u64 t.hd.s2, .int .u64 t.hd.s3, .slice B t.subs.length cc, .int .i64 t.hd.num, .int .i64 t.hd.min, .int .i64 t.hd.max, .bool t.hd.bare] 27)) = W6 at *
   have c6 := H6.out.1.box.cell
   go_big_quiet (fail)
   have hbq := below_drewN6 (Below.refl W6.heap.size W6) nq
   have H6q := hide (And.intro (H6.out.1.next hbq) (And.intro (H6.out.2.1.next HB6.out hbq) (And.intro (H6.out.2.2.1.next hbq) (And.intro (H6.out.2.2.2.1.next hbq) (H6.out.2.2.2.2.same (ok' := fun b => W4.heap.size ≤ b ∧ b < z.heap.size ∧ (Value.slice A7 (l.length + 1) c7).ownBlock ≠ some b) ((same_of_below hbq).mono fun b hb => by have h1 := hb.2.1; have h2 := HS6.out; omega) fun b hb => hb)))))
   have HS6q := hide (Nat.le_trans HS6.out hbq.size)
   have HB6q := hide (Nat.le_trans HB6.out hbq.size)
   clear hbq c6 H6 HS6 HB6
   have H6 := H6q
   have HS6 := HS6q
   have HB6 := HB6q
   clear H6q HS6q HB6q
   generalize W6.drewN nq = Wq at *
   have c6 := H6.out.1.box.cell
   go_upto_region 11 with fail
   clear c6
   have H7 := H6
   have HS7 := hide (show z.heap.size < Wq.heap.size from by have := HS6.out; omega)
   have HB7 := HB6
   have c7' := H7.out.1.box.cell
   have f7' := H7.out.1.box.frozen
   go_upto_region 12 with fail
   have H8 := hide (And.intro (H7.out.1.set 1 (.int .i64 (wrap64 (I + 1)))) (And.intro (H7.out.2.1.set H7.out.1.base 1 (.int .i64 (wrap64 (I + 1)))) (And.intro (H7.out.2.2.1.far (blk_ne6 H7.out.2.2.1 H7.out.1.box (by decide)) (p := ⟨gr, 1, none⟩) (.int .i64 (wrap64 (I + 1)))) (And.intro (H7.out.2.2.2.1.far (blk_ne6 H7.out.2.2.2.1 H7.out.1.box (by decide)) (p := ⟨gr, 1, none⟩) (.int .i64 (wrap64 (I + 1)))) (H7.out.2.2.2.2.same (ok' := fun b => W4.heap.size ≤ b ∧ b < z.heap.size ∧ (Value.slice A7 (l.length + 1) c7).ownBlock ≠ some b) ((Same.refl _ _).set (p := ⟨gr, 1, none⟩) (fun hb => by have h1 : W4.heap.size ≤ gr := hb.1; have h2 := HG4.out; omega) (.int .i64 (wrap64 (I + 1)))) fun b hb => hb)))))
   have HS8 := hide (show z.heap.size < (Wq.setCell ⟨gr, 1, none⟩ (.int .i64 (wrap64 (I + 1)))).heap.size from by rw [World.size_setCell]; exact HS7.out)
   have HB8 := hide (show B0 ≤ (Wq.setCell ⟨gr, 1, none⟩ (.int .i64 (wrap64 (I + 1)))).heap.size from by rw [World.size_setCell]; exact HB7.out)
   generalize (Wq.setCell ⟨gr, 1, none⟩ (.int .i64 (wrap64 (I + 1)))) = w8 at *
   clear c7' f7'
   obtain ⟨x8, hx8⟩ : ∃ x8 : Int, x8 = wrap64 (I + 1) := ⟨_, rfl⟩
   obtain ⟨dn, hdn⟩ : ∃ dn, dn = l.length + 1 := ⟨_, rfl⟩
   have iw : IntKind.i64.wrap ((dn : Int) - 1) = ((l.length : Nat) : Int) := by rw [wrapI (by omega) (by omega)]; omega
   have HR8 := hide (show RdG w8 78 gr B0 #[.string p, .int .i64 x8, .int .i64 fl, .int .i64 g', (.slice A7 (l.length + 1) c7), .int .i64 cd, .int .i64 pl] (.slice A7 (l.length + 1) c7) (l.length + 1) from by rw [hx8]; exact H8.out.1)
   have hcut := RdG.cut HR8.out 4
   obtain ⟨qA, hqA⟩ := Option.isSome_iff_exists.1 hcut.2.2.1
   have hle7 := hcut.2.2.2
   have k1 : ((l.length : Nat) : Int) ≤ (c7 : Int) := by omega
   have k2 : (dn : Int) ≠ 0 := by omega
   have c9 := HR8.out.box.cell
   have f9 := HR8.out.box.frozen
   rw [← hdn] at c9
   have HX8 := hide hx8
   clear hcut hle7 hx8
   subst hqA
   have iw2 : IntKind.i64.wrap ((l.length : Nat) : Int) = ((l.length : Nat) : Int) := wrapI (by omega) (by omega)
   go_still_tail 14, (by kernel_rfl)
   change wpList _ _ _ _ _ w8.drew
   generalize hwd : w8.drew = wd
   have hbd : Below w8.heap.size w8 wd := by rw [← hwd]; exact (Below.refl _ _).drew
   clear hwd c9 f9 iw iw2 k1 k2 hdn
   have H9 := hide (And.intro (HR8.out.next hbd) (And.intro (H8.out.2.1.next HB8.out hbd) (And.intro (H8.out.2.2.1.next hbd) (And.intro (H8.out.2.2.2.1.next hbd) (H8.out.2.2.2.2.same (ok' := fun b => W4.heap.size ≤ b ∧ b < z.heap.size ∧ (Value.slice (some qA) (l.length + 1) c7).ownBlock ≠ some b) ((same_of_below hbd).mono fun b hb => Nat.lt_trans hb.2.1 HS8.out) fun b hb => hb)))))
   have HS9 := hide (Nat.lt_of_lt_of_le HS8.out hbd.size)
   have HB9 := hide (Nat.le_trans HB8.out hbd.size)
   clear hbd HR8
   have c9 := H9.out.1.box.cell
   have f9 := H9.out.1.box.frozen
   go_upto_region 13 with fail
   have hcut := RdG.cut H9.out.1 4
   have hF10 := H9.out.2.1.set H9.out.1.base 4 (.slice (some qA) l.length c7)
   rw [← hcut.2.1] at hF10
   have hT10 := H9.out.2.2.2.2.same (ok' := fun b => W4.heap.size ≤ b ∧ b < z.heap.size ∧ (Value.slice (some qA) (l.length + 1) c7).ownBlock ≠ some b) ((Same.refl _ _).set (p := ⟨gr, 4, none⟩) (fun hb => by have h1 : W4.heap.size ≤ gr := hb.1; have h2 := HG4.out; omega) (.slice (some qA) l.length c7)) fun b hb => hb
   rw [← hcut.2.1] at hT10
   have H10 := hide (And.intro hcut.1 (And.intro hF10 (And.intro (H9.out.2.2.1.far (blk_ne6 H9.out.2.2.1 H9.out.1.box (by decide)) (p := ⟨gr, 4, none⟩) (.slice (some qA) l.length c7)) (And.intro (H9.out.2.2.2.1.far (blk_ne6 H9.out.2.2.2.1 H9.out.1.box (by decide)) (p := ⟨gr, 4, none⟩) (.slice (some qA) l.length c7)) hT10))))
   have HS10 := hide (show z.heap.size < (wd.setCell ⟨gr, 4, none⟩ (.slice (some qA) l.length c7)).heap.size from by rw [World.size_setCell]; exact HS9.out)
   have HB10 := hide (show B0 ≤ (wd.setCell ⟨gr, 4, none⟩ (.slice (some qA) l.length c7)).heap.size from by rw [World.size_setCell]; exact HB9.out)
   clear hcut hF10 hT10 c9 f9
   generalize (wd.setCell ⟨gr, 4, none⟩ (.slice (some qA) l.length c7)) = w10 at *
   have hal := (Below.refl w10.heap.size w10).alloc (Nat.le_refl _) (.cells #[.int .i64 t.hd.kind, .int .u64 t.hd.s0, .int .u64 t.hd.s1, .int .u64 t.hd.s2, .int .u64 t.hd.s3, .slice B t.subs.length cc, .int .i64 t.hd.num, .int .i64 t.hd.min, .int .i64 t.hd.max, .bool t.hd.bare] 27)
   have hin2 : T.In (w10.alloc (.cells #[.int .i64 t.hd.kind, .int .u64 t.hd.s0, .int .u64 t.hd.s1, .int .u64 t.hd.s2, .int .u64 t.hd.s3, .slice B t.subs.length cc, .int .i64 t.hd.num, .int .i64 t.hd.min, .int .i64 t.hd.max, .bool t.hd.bare] 27)) (fun b => y.heap.size ≤ b ∧ b < (w10.alloc (.cells #[.int .i64 t.hd.kind, .int .u64 t.hd.s0, .int .u64 t.hd.s1, .int .u64 t.hd.s2, .int .u64 t.hd.s3, .slice B t.subs.length cc, .int .i64 t.hd.num, .int .i64 t.hd.min, .int .i64 t.hd.max, .bool t.hd.bare] 27)).heap.size ∧ (Value.slice (some qA) l.length c7).ownBlock ≠ some b ∧ b ≠ y.heap.size) t B :=
    H10.out.2.2.2.2.same ((same_of_below hal).mono fun b hb => Nat.lt_trans hb.2.1 HS10.out) fun b hb => ⟨by have h1 := hb.1; have h2 := HZ4.out; omega, by rw [World.size_alloc]; have h1 := hb.2.1; have h2 := HS10.out; omega, hb.2.2, by have h1 := hb.1; have h2 := HZ4.out; omega⟩
   have hrw : (Value.slice (some qA) l.length c7).ownBlock ≠ some w10.heap.size := fun e => by have := (H10.out.1.lt _ e).2; omega
   have htr := one_in (h := ⟨7, 0, 0, 0, 0, ((g + 1 : Nat) : Int), 0, 0, false⟩) (Blk.new w10 27 #[.int .i64 t.hd.kind, .int .u64 t.hd.s0, .int .u64 t.hd.s1, .int .u64 t.hd.s2, .int .u64 t.hd.s3, .slice B t.subs.length cc, .int .i64 t.hd.num, .int .i64 t.hd.min, .int .i64 t.hd.max, .bool t.hd.bare]) (ok := fun b => y.heap.size ≤ b ∧ b < (w10.alloc (.cells #[.int .i64 t.hd.kind, .int .u64 t.hd.s0, .int .u64 t.hd.s1, .int .u64 t.hd.s2, .int .u64 t.hd.s3, .slice B t.subs.length cc, .int .i64 t.hd.num, .int .i64 t.hd.min, .int .i64 t.hd.max, .bool t.hd.bare] 27)).heap.size ∧ (Value.slice (some qA) l.length c7).ownBlock ≠ some b ∧ b ≠ y.heap.size) ⟨by have h1 := HS10.out; have h2 := HZ5.out; omega, by rw [World.size_alloc]; omega, hrw, by have h1 := HS10.out; have h2 := HZ5.out; omega⟩ hin2
   have H11 := hide (And.intro (H10.out.1.next hal) (And.intro (H10.out.2.1.next HB10.out hal) (And.intro (H10.out.2.2.1.next hal) htr)))
   clear hal hin2 hrw htr
   have cx := H10.out.2.2.2.1.cell
   go_wp2_with (refine wpList_store_node rfl _ _ rfl y.heap.size _ ⟨7, 0, 0, 0, 0, ((g + 1 : Nat) : Int), 0, 0, false⟩ (some ⟨w10.heap.size, 0, none⟩) 1 1 rfl rfl H11.out.2.2.1 rfl ?_; intro w9 hrow9 hg9 hz9)
   refine bodyPost_ret (node_result rfl _ _ y.heap.size _ _ rfl hrow9) rfl ?_
   exact sbad (t := grpT ((g + 1 : Nat) : Int) t) HE.out (HCD.out ▸ H11.out.1) H11.out.2.1 H11.out.2.2.2 hg9 H11.out.2.2.1 (Nat.le_refl _) HB.out
  | ok t j q =>
   rw [hq] at hz HRS2 HFn
   obtain ⟨B, cc, ov', rfl, hin, hE, hF⟩ := hz
   have hfn := HFn.out
   simp only [PR.Fine] at hfn
   have hjp : j ≤ p.size := hfn.2.1
   clear HFn hfn
   by_cases hj : j < p.size
   ·have HE := hide (show res = .ok (grpT ((g + 1 : Nat) : Int) t) (j + 1) q from by rw [HRS2.out]; exact if_pos hj)
    have gj : decide ((p.size : Int) ≤ (j : Int)) = false := decide_eq_false (by omega)
    have H5 := hide (And.intro hE (And.intro (H4.out.2.1.trans hF) (And.intro (hF.blk_ H4.out.2.2 (blk_ne6 H4.out.2.2 H4.out.1.box (by decide)) (H4.out.1.apart H4.out.2.2 (by decide))) hin)))
    have HB5 := hide (Nat.le_trans HB4.out hF.below.size)
    have HZ5 := hide (Nat.lt_of_lt_of_le HZ4.out hF.below.size)
    have HG4 := hide H4.out.1.box.lt
    clear hin hE hF hq HRS2
    obtain ⟨A7, c7, hov7⟩ := H5.out.1.form
    subst hov7
    have hal := (Below.refl z.heap.size z).alloc (Nat.le_refl _) (.cells #[.int .i64 t.hd.kind, .int .u64 t.hd.s0, .int .u64 t.hd.s1, .int .u64 t.hd.s2, .int .u64 t.hd.s3, .slice B t.subs.length cc, .int .i64 t.hd.num, .int .i64 t.hd.min, .int .i64 t.hd.max, .bool t.hd.bare] 27)
    have H6 := hide (And.intro (H5.out.1.next hal) (And.intro (H5.out.2.1.next HB5.out hal) (And.intro (H5.out.2.2.1.next hal) (And.intro (Blk.new z 27 #[.int .i64 t.hd.kind, .int .u64 t.hd.s0, .int .u64 t.hd.s1, .int .u64 t.hd.s2, .int .u64 t.hd.s3, .slice B t.subs.length cc, .int .i64 t.hd.num, .int .i64 t.hd.min, .int .i64 t.hd.max, .bool t.hd.bare]) (H5.out.2.2.2.same (ok' := fun b => W4.heap.size ≤ b ∧ b < z.heap.size ∧ (Value.slice A7 (l.length + 1) c7).ownBlock ≠ some b) ((same_of_below hal).mono fun b hb => hb.2.1) fun b hb => hb)))))
    have HS6 := hide (show z.heap.size + 1 ≤ (z.alloc (.cells #[.int .i64 t.hd.kind, .int .u64 t.hd.s0, .int .u64 t.hd.s1, .int .u64 t.hd.s2, .int .u64 t.hd.s3, .slice B t.subs.length cc, .int .i64 t.hd.num, .int .i64 t.hd.min, .int .i64 t.hd.max, .bool t.hd.bare] 27)).heap.size from Nat.le_of_eq (World.size_alloc _ _).symm)
    have HB6 := hide (Nat.le_trans HB5.out hal.size)
    clear hal
    simp only [Hd.cells]
    go_upto_region 9 with fail
    generalize (z.alloc (.cells #[.int .i64 t.hd.kind, .int .u64 t.hd.s0, .int .u64 t.hd.s1, .int .u64 t.hd.s2, .int .u64 t.hd.s3, .slice B t.subs.length cc, .int .i64 t.hd.num, .int .i64 t.hd.min, .int .i64 t.hd.max, .bool t.hd.bare] 27)) = W6 at *
    have c6 := H6.out.1.box.cell
    go_big_quiet (fail)
    have hbq := below_drewN6 (Below.refl W6.heap.size W6) nq
    have H6q := hide (And.intro (H6.out.1.next hbq) (And.intro (H6.out.2.1.next HB6.out hbq) (And.intro (H6.out.2.2.1.next hbq) (And.intro (H6.out.2.2.2.1.next hbq) (H6.out.2.2.2.2.same (ok' := fun b => W4.heap.size ≤ b ∧ b < z.heap.size ∧ (Value.slice A7 (l.length + 1) c7).ownBlock ≠ some b) ((same_of_below hbq).mono fun b hb => by have h1 := hb.2.1; have h2 := HS6.out; omega) fun b hb => hb)))))
    have HS6q := hide (Nat.le_trans HS6.out hbq.size)
    have HB6q := hide (Nat.le_trans HB6.out hbq.size)
    clear hbq c6 H6 HS6 HB6
    have H6 := H6q
    have HS6 := HS6q
    have HB6 := HB6q
    clear H6q HS6q HB6q
    generalize W6.drewN nq = Wq at *
    have c6 := H6.out.1.box.cell
    go_upto_region 11 with fail
    clear c6
    have H7 := H6
    have HS7 := hide (show z.heap.size < Wq.heap.size from by have := HS6.out; omega)
    have HB7 := HB6
    have c7' := H7.out.1.box.cell
    have f7' := H7.out.1.box.frozen
    go_upto_region 12 with fail
    have e3 : ((j : Int) + 1) = ((j + 1 : Nat) : Int) := by omega
    rw [e3]
    have H8 := hide (And.intro (H7.out.1.set 1 (.int .i64 (((j + 1 : Nat) : Int)))) (And.intro (H7.out.2.1.set H7.out.1.base 1 (.int .i64 (((j + 1 : Nat) : Int)))) (And.intro (H7.out.2.2.1.far (blk_ne6 H7.out.2.2.1 H7.out.1.box (by decide)) (p := ⟨gr, 1, none⟩) (.int .i64 (((j + 1 : Nat) : Int)))) (And.intro (H7.out.2.2.2.1.far (blk_ne6 H7.out.2.2.2.1 H7.out.1.box (by decide)) (p := ⟨gr, 1, none⟩) (.int .i64 (((j + 1 : Nat) : Int)))) (H7.out.2.2.2.2.same (ok' := fun b => W4.heap.size ≤ b ∧ b < z.heap.size ∧ (Value.slice A7 (l.length + 1) c7).ownBlock ≠ some b) ((Same.refl _ _).set (p := ⟨gr, 1, none⟩) (fun hb => by have h1 : W4.heap.size ≤ gr := hb.1; have h2 := HG4.out; omega) (.int .i64 (((j + 1 : Nat) : Int)))) fun b hb => hb)))))
    have HS8 := hide (show z.heap.size < (Wq.setCell ⟨gr, 1, none⟩ (.int .i64 (((j + 1 : Nat) : Int)))).heap.size from by rw [World.size_setCell]; exact HS7.out)
    have HB8 := hide (show B0 ≤ (Wq.setCell ⟨gr, 1, none⟩ (.int .i64 (((j + 1 : Nat) : Int)))).heap.size from by rw [World.size_setCell]; exact HB7.out)
    generalize (Wq.setCell ⟨gr, 1, none⟩ (.int .i64 (((j + 1 : Nat) : Int)))) = w8 at *
    clear c7' f7' e3
    obtain ⟨x8, hx8⟩ : ∃ x8 : Int, x8 = ((j + 1 : Nat) : Int) := ⟨_, rfl⟩
    obtain ⟨dn, hdn⟩ : ∃ dn, dn = l.length + 1 := ⟨_, rfl⟩
    have iw : IntKind.i64.wrap ((dn : Int) - 1) = ((l.length : Nat) : Int) := by rw [wrapI (by omega) (by omega)]; omega
    have HR8 := hide (show RdG w8 78 gr B0 #[.string p, .int .i64 x8, .int .i64 fl, .int .i64 (q : Int), (.slice A7 (l.length + 1) c7), .int .i64 0, .int .i64 0] (.slice A7 (l.length + 1) c7) (l.length + 1) from by rw [hx8]; exact H8.out.1)
    have hcut := RdG.cut HR8.out 4
    obtain ⟨qA, hqA⟩ := Option.isSome_iff_exists.1 hcut.2.2.1
    have hle7 := hcut.2.2.2
    have k1 : ((l.length : Nat) : Int) ≤ (c7 : Int) := by omega
    have k2 : (dn : Int) ≠ 0 := by omega
    have c9 := HR8.out.box.cell
    have f9 := HR8.out.box.frozen
    rw [← hdn] at c9
    have HX8 := hide hx8
    clear hcut hle7 hx8
    subst hqA
    have iw2 : IntKind.i64.wrap ((l.length : Nat) : Int) = ((l.length : Nat) : Int) := wrapI (by omega) (by omega)
    go_still_tail 14, (by kernel_rfl)
    change wpList _ _ _ _ _ w8.drew
    generalize hwd : w8.drew = wd
    have hbd : Below w8.heap.size w8 wd := by rw [← hwd]; exact (Below.refl _ _).drew
    clear hwd c9 f9 iw iw2 k1 k2 hdn
    have H9 := hide (And.intro (HR8.out.next hbd) (And.intro (H8.out.2.1.next HB8.out hbd) (And.intro (H8.out.2.2.1.next hbd) (And.intro (H8.out.2.2.2.1.next hbd) (H8.out.2.2.2.2.same (ok' := fun b => W4.heap.size ≤ b ∧ b < z.heap.size ∧ (Value.slice (some qA) (l.length + 1) c7).ownBlock ≠ some b) ((same_of_below hbd).mono fun b hb => Nat.lt_trans hb.2.1 HS8.out) fun b hb => hb)))))
    have HS9 := hide (Nat.lt_of_lt_of_le HS8.out hbd.size)
    have HB9 := hide (Nat.le_trans HB8.out hbd.size)
    clear hbd HR8
    have c9 := H9.out.1.box.cell
    have f9 := H9.out.1.box.frozen
    go_upto_region 13 with fail
    have hcut := RdG.cut H9.out.1 4
    have hF10 := H9.out.2.1.set H9.out.1.base 4 (.slice (some qA) l.length c7)
    rw [← hcut.2.1] at hF10
    have hT10 := H9.out.2.2.2.2.same (ok' := fun b => W4.heap.size ≤ b ∧ b < z.heap.size ∧ (Value.slice (some qA) (l.length + 1) c7).ownBlock ≠ some b) ((Same.refl _ _).set (p := ⟨gr, 4, none⟩) (fun hb => by have h1 : W4.heap.size ≤ gr := hb.1; have h2 := HG4.out; omega) (.slice (some qA) l.length c7)) fun b hb => hb
    rw [← hcut.2.1] at hT10
    have H10 := hide (And.intro hcut.1 (And.intro hF10 (And.intro (H9.out.2.2.1.far (blk_ne6 H9.out.2.2.1 H9.out.1.box (by decide)) (p := ⟨gr, 4, none⟩) (.slice (some qA) l.length c7)) (And.intro (H9.out.2.2.2.1.far (blk_ne6 H9.out.2.2.2.1 H9.out.1.box (by decide)) (p := ⟨gr, 4, none⟩) (.slice (some qA) l.length c7)) hT10))))
    have HS10 := hide (show z.heap.size < (wd.setCell ⟨gr, 4, none⟩ (.slice (some qA) l.length c7)).heap.size from by rw [World.size_setCell]; exact HS9.out)
    have HB10 := hide (show B0 ≤ (wd.setCell ⟨gr, 4, none⟩ (.slice (some qA) l.length c7)).heap.size from by rw [World.size_setCell]; exact HB9.out)
    clear hcut hF10 hT10 c9 f9
    generalize (wd.setCell ⟨gr, 4, none⟩ (.slice (some qA) l.length c7)) = w10 at *
    have hal := (Below.refl w10.heap.size w10).alloc (Nat.le_refl _) (.cells #[.int .i64 t.hd.kind, .int .u64 t.hd.s0, .int .u64 t.hd.s1, .int .u64 t.hd.s2, .int .u64 t.hd.s3, .slice B t.subs.length cc, .int .i64 t.hd.num, .int .i64 t.hd.min, .int .i64 t.hd.max, .bool t.hd.bare] 27)
    have hin2 : T.In (w10.alloc (.cells #[.int .i64 t.hd.kind, .int .u64 t.hd.s0, .int .u64 t.hd.s1, .int .u64 t.hd.s2, .int .u64 t.hd.s3, .slice B t.subs.length cc, .int .i64 t.hd.num, .int .i64 t.hd.min, .int .i64 t.hd.max, .bool t.hd.bare] 27)) (fun b => y.heap.size ≤ b ∧ b < (w10.alloc (.cells #[.int .i64 t.hd.kind, .int .u64 t.hd.s0, .int .u64 t.hd.s1, .int .u64 t.hd.s2, .int .u64 t.hd.s3, .slice B t.subs.length cc, .int .i64 t.hd.num, .int .i64 t.hd.min, .int .i64 t.hd.max, .bool t.hd.bare] 27)).heap.size ∧ (Value.slice (some qA) l.length c7).ownBlock ≠ some b ∧ b ≠ y.heap.size) t B :=
     H10.out.2.2.2.2.same ((same_of_below hal).mono fun b hb => Nat.lt_trans hb.2.1 HS10.out) fun b hb => ⟨by have h1 := hb.1; have h2 := HZ4.out; omega, by rw [World.size_alloc]; have h1 := hb.2.1; have h2 := HS10.out; omega, hb.2.2, by have h1 := hb.1; have h2 := HZ4.out; omega⟩
    have hrw : (Value.slice (some qA) l.length c7).ownBlock ≠ some w10.heap.size := fun e => by have := (H10.out.1.lt _ e).2; omega
    have htr := one_in (h := ⟨7, 0, 0, 0, 0, ((g + 1 : Nat) : Int), 0, 0, false⟩) (Blk.new w10 27 #[.int .i64 t.hd.kind, .int .u64 t.hd.s0, .int .u64 t.hd.s1, .int .u64 t.hd.s2, .int .u64 t.hd.s3, .slice B t.subs.length cc, .int .i64 t.hd.num, .int .i64 t.hd.min, .int .i64 t.hd.max, .bool t.hd.bare]) (ok := fun b => y.heap.size ≤ b ∧ b < (w10.alloc (.cells #[.int .i64 t.hd.kind, .int .u64 t.hd.s0, .int .u64 t.hd.s1, .int .u64 t.hd.s2, .int .u64 t.hd.s3, .slice B t.subs.length cc, .int .i64 t.hd.num, .int .i64 t.hd.min, .int .i64 t.hd.max, .bool t.hd.bare] 27)).heap.size ∧ (Value.slice (some qA) l.length c7).ownBlock ≠ some b ∧ b ≠ y.heap.size) ⟨by have h1 := HS10.out; have h2 := HZ5.out; omega, by rw [World.size_alloc]; omega, hrw, by have h1 := HS10.out; have h2 := HZ5.out; omega⟩ hin2
    have H11 := hide (And.intro (H10.out.1.next hal) (And.intro (H10.out.2.1.next HB10.out hal) (And.intro (H10.out.2.2.1.next hal) htr)))
    clear hal hin2 hrw htr
    have cx := H10.out.2.2.2.1.cell
    go_wp2_with (refine wpList_store_node rfl _ _ rfl y.heap.size _ ⟨7, 0, 0, 0, 0, ((g + 1 : Nat) : Int), 0, 0, false⟩ (some ⟨w10.heap.size, 0, none⟩) 1 1 rfl rfl H11.out.2.2.1 rfl ?_; intro w9 hrow9 hg9 hz9)
    refine bodyPost_ret (node_result rfl _ _ y.heap.size _ _ rfl hrow9) rfl ?_
    exact sok (t := grpT ((g + 1 : Nat) : Int) t) HE.out (HX8.out ▸ H11.out.1) H11.out.2.1 H11.out.2.2.2 hg9 H11.out.2.2.1 (Nat.le_refl _) HB.out
   ·have HE := hide (show res = .bad 1 (i : Int) from by rw [HRS2.out]; exact if_neg hj)
    have gj : decide ((p.size : Int) ≤ (j : Int)) = true := decide_eq_true (by omega)
    have H5 := hide (And.intro hE (And.intro (H4.out.2.1.trans hF) (And.intro (hF.blk_ H4.out.2.2 (blk_ne6 H4.out.2.2 H4.out.1.box (by decide)) (H4.out.1.apart H4.out.2.2 (by decide))) hin)))
    have HB5 := hide (Nat.le_trans HB4.out hF.below.size)
    have HZ5 := hide (Nat.lt_of_lt_of_le HZ4.out hF.below.size)
    have HG4 := hide H4.out.1.box.lt
    clear hin hE hF hq HRS2
    obtain ⟨A7, c7, hov7⟩ := H5.out.1.form
    subst hov7
    have hal := (Below.refl z.heap.size z).alloc (Nat.le_refl _) (.cells #[.int .i64 t.hd.kind, .int .u64 t.hd.s0, .int .u64 t.hd.s1, .int .u64 t.hd.s2, .int .u64 t.hd.s3, .slice B t.subs.length cc, .int .i64 t.hd.num, .int .i64 t.hd.min, .int .i64 t.hd.max, .bool t.hd.bare] 27)
    have H6 := hide (And.intro (H5.out.1.next hal) (And.intro (H5.out.2.1.next HB5.out hal) (And.intro (H5.out.2.2.1.next hal) (And.intro (Blk.new z 27 #[.int .i64 t.hd.kind, .int .u64 t.hd.s0, .int .u64 t.hd.s1, .int .u64 t.hd.s2, .int .u64 t.hd.s3, .slice B t.subs.length cc, .int .i64 t.hd.num, .int .i64 t.hd.min, .int .i64 t.hd.max, .bool t.hd.bare]) (H5.out.2.2.2.same (ok' := fun b => W4.heap.size ≤ b ∧ b < z.heap.size ∧ (Value.slice A7 (l.length + 1) c7).ownBlock ≠ some b) ((same_of_below hal).mono fun b hb => hb.2.1) fun b hb => hb)))))
    have HS6 := hide (show z.heap.size + 1 ≤ (z.alloc (.cells #[.int .i64 t.hd.kind, .int .u64 t.hd.s0, .int .u64 t.hd.s1, .int .u64 t.hd.s2, .int .u64 t.hd.s3, .slice B t.subs.length cc, .int .i64 t.hd.num, .int .i64 t.hd.min, .int .i64 t.hd.max, .bool t.hd.bare] 27)).heap.size from Nat.le_of_eq (World.size_alloc _ _).symm)
    have HB6 := hide (Nat.le_trans HB5.out hal.size)
    clear hal
    simp only [Hd.cells]
    go_upto_region 9 with fail
    generalize (z.alloc (.cells #[.int .i64 t.hd.kind, .int .u64 t.hd.s0, .int .u64 t.hd.s1, .int .u64 t.hd.s2, .int .u64 t.hd.s3, .slice B t.subs.length cc, .int .i64 t.hd.num, .int .i64 t.hd.min, .int .i64 t.hd.max, .bool t.hd.bare] 27)) = W6 at *
    have c6 := H6.out.1.box.cell
    go_big_quiet (fail)
    have hbq := below_drewN6 (Below.refl W6.heap.size W6) nq
    have H6q := hide (And.intro (H6.out.1.next hbq) (And.intro (H6.out.2.1.next HB6.out hbq) (And.intro (H6.out.2.2.1.next hbq) (And.intro (H6.out.2.2.2.1.next hbq) (H6.out.2.2.2.2.same (ok' := fun b => W4.heap.size ≤ b ∧ b < z.heap.size ∧ (Value.slice A7 (l.length + 1) c7).ownBlock ≠ some b) ((same_of_below hbq).mono fun b hb => by have h1 := hb.2.1; have h2 := HS6.out; omega) fun b hb => hb)))))
    have HS6q := hide (Nat.le_trans HS6.out hbq.size)
    have HB6q := hide (Nat.le_trans HB6.out hbq.size)
    clear hbq c6 H6 HS6 HB6
    have H6 := H6q
    have HS6 := HS6q
    have HB6 := HB6q
    clear H6q HS6q HB6q
    generalize W6.drewN nq = Wq at *
    have c6 := H6.out.1.box.cell
    go_upto_region 10 with fail
    have HFt := hide (refFault_any (show RdS Wq gr B0 p (j : Int) fl (q : Int) (.slice A7 (l.length + 1) c7) (l.length + 1) 0 0 from H6.out.1) HB6.out 2 (i : Int))
    clear c6
    go_wp2_with fail
    refine HFt.out.mono ?_
    rintro e w7 ⟨rfl, hE, hF⟩
    have H7 := hide (And.intro hE (And.intro (H6.out.2.1.trans hF) (And.intro (hF.blk_ H6.out.2.2.1 (blk_ne6 H6.out.2.2.1 H6.out.1.box (by decide)) (H6.out.1.apart H6.out.2.2.1 (by decide))) (And.intro (hF.blk_ H6.out.2.2.2.1 (blk_ne6 H6.out.2.2.2.1 H6.out.1.box (by decide)) (H6.out.1.apart H6.out.2.2.2.1 (by decide))) (H6.out.2.2.2.2.same (ok' := fun b => W4.heap.size ≤ b ∧ b < z.heap.size ∧ (Value.slice A7 (l.length + 1) c7).ownBlock ≠ some b) (hF.same.mono fun b hb => ⟨by have h1 := hb.2.1; have h2 := HS6.out; omega, by have h1 := hb.1; have h2 := HG4.out; omega, hb.2.2⟩) fun b hb => hb)))))
    have HS7 := hide (show z.heap.size < w7.heap.size from Nat.lt_of_lt_of_le (by have := HS6.out; omega) hF.below.size)
    have HB7 := hide (Nat.le_trans HB6.out hF.below.size)
    clear hE hF HFt
    have c7' := H7.out.1.box.cell
    have f7' := H7.out.1.box.frozen
    go_upto_region 12 with fail
    have e3 : ((j : Int) + 1) = ((j + 1 : Nat) : Int) := by omega
    rw [e3]
    have H8 := hide (And.intro (H7.out.1.set 1 (.int .i64 (((j + 1 : Nat) : Int)))) (And.intro (H7.out.2.1.set H7.out.1.base 1 (.int .i64 (((j + 1 : Nat) : Int)))) (And.intro (H7.out.2.2.1.far (blk_ne6 H7.out.2.2.1 H7.out.1.box (by decide)) (p := ⟨gr, 1, none⟩) (.int .i64 (((j + 1 : Nat) : Int)))) (And.intro (H7.out.2.2.2.1.far (blk_ne6 H7.out.2.2.2.1 H7.out.1.box (by decide)) (p := ⟨gr, 1, none⟩) (.int .i64 (((j + 1 : Nat) : Int)))) (H7.out.2.2.2.2.same (ok' := fun b => W4.heap.size ≤ b ∧ b < z.heap.size ∧ (Value.slice A7 (l.length + 1) c7).ownBlock ≠ some b) ((Same.refl _ _).set (p := ⟨gr, 1, none⟩) (fun hb => by have h1 : W4.heap.size ≤ gr := hb.1; have h2 := HG4.out; omega) (.int .i64 (((j + 1 : Nat) : Int)))) fun b hb => hb)))))
    have HS8 := hide (show z.heap.size < (w7.setCell ⟨gr, 1, none⟩ (.int .i64 (((j + 1 : Nat) : Int)))).heap.size from by rw [World.size_setCell]; exact HS7.out)
    have HB8 := hide (show B0 ≤ (w7.setCell ⟨gr, 1, none⟩ (.int .i64 (((j + 1 : Nat) : Int)))).heap.size from by rw [World.size_setCell]; exact HB7.out)
    generalize (w7.setCell ⟨gr, 1, none⟩ (.int .i64 (((j + 1 : Nat) : Int)))) = w8 at *
    clear c7' f7' e3
    obtain ⟨x8, hx8⟩ : ∃ x8 : Int, x8 = ((j + 1 : Nat) : Int) := ⟨_, rfl⟩
    obtain ⟨dn, hdn⟩ : ∃ dn, dn = l.length + 1 := ⟨_, rfl⟩
    have iw : IntKind.i64.wrap ((dn : Int) - 1) = ((l.length : Nat) : Int) := by rw [wrapI (by omega) (by omega)]; omega
    have HR8 := hide (show RdG w8 78 gr B0 #[.string p, .int .i64 x8, .int .i64 fl, .int .i64 (q : Int), (.slice A7 (l.length + 1) c7), .int .i64 2, .int .i64 (i : Int)] (.slice A7 (l.length + 1) c7) (l.length + 1) from by rw [hx8]; exact H8.out.1)
    have hcut := RdG.cut HR8.out 4
    obtain ⟨qA, hqA⟩ := Option.isSome_iff_exists.1 hcut.2.2.1
    have hle7 := hcut.2.2.2
    have k1 : ((l.length : Nat) : Int) ≤ (c7 : Int) := by omega
    have k2 : (dn : Int) ≠ 0 := by omega
    have c9 := HR8.out.box.cell
    have f9 := HR8.out.box.frozen
    rw [← hdn] at c9
    have HX8 := hide hx8
    clear hcut hle7 hx8
    subst hqA
    have iw2 : IntKind.i64.wrap ((l.length : Nat) : Int) = ((l.length : Nat) : Int) := wrapI (by omega) (by omega)
    go_still_tail 14, (by kernel_rfl)
    change wpList _ _ _ _ _ w8.drew
    generalize hwd : w8.drew = wd
    have hbd : Below w8.heap.size w8 wd := by rw [← hwd]; exact (Below.refl _ _).drew
    clear hwd c9 f9 iw iw2 k1 k2 hdn
    have H9 := hide (And.intro (HR8.out.next hbd) (And.intro (H8.out.2.1.next HB8.out hbd) (And.intro (H8.out.2.2.1.next hbd) (And.intro (H8.out.2.2.2.1.next hbd) (H8.out.2.2.2.2.same (ok' := fun b => W4.heap.size ≤ b ∧ b < z.heap.size ∧ (Value.slice (some qA) (l.length + 1) c7).ownBlock ≠ some b) ((same_of_below hbd).mono fun b hb => Nat.lt_trans hb.2.1 HS8.out) fun b hb => hb)))))
    have HS9 := hide (Nat.lt_of_lt_of_le HS8.out hbd.size)
    have HB9 := hide (Nat.le_trans HB8.out hbd.size)
    clear hbd HR8
    have c9 := H9.out.1.box.cell
    have f9 := H9.out.1.box.frozen
    go_upto_region 13 with fail
    have hcut := RdG.cut H9.out.1 4
    have hF10 := H9.out.2.1.set H9.out.1.base 4 (.slice (some qA) l.length c7)
    rw [← hcut.2.1] at hF10
    have hT10 := H9.out.2.2.2.2.same (ok' := fun b => W4.heap.size ≤ b ∧ b < z.heap.size ∧ (Value.slice (some qA) (l.length + 1) c7).ownBlock ≠ some b) ((Same.refl _ _).set (p := ⟨gr, 4, none⟩) (fun hb => by have h1 : W4.heap.size ≤ gr := hb.1; have h2 := HG4.out; omega) (.slice (some qA) l.length c7)) fun b hb => hb
    rw [← hcut.2.1] at hT10
    have H10 := hide (And.intro hcut.1 (And.intro hF10 (And.intro (H9.out.2.2.1.far (blk_ne6 H9.out.2.2.1 H9.out.1.box (by decide)) (p := ⟨gr, 4, none⟩) (.slice (some qA) l.length c7)) (And.intro (H9.out.2.2.2.1.far (blk_ne6 H9.out.2.2.2.1 H9.out.1.box (by decide)) (p := ⟨gr, 4, none⟩) (.slice (some qA) l.length c7)) hT10))))
    have HS10 := hide (show z.heap.size < (wd.setCell ⟨gr, 4, none⟩ (.slice (some qA) l.length c7)).heap.size from by rw [World.size_setCell]; exact HS9.out)
    have HB10 := hide (show B0 ≤ (wd.setCell ⟨gr, 4, none⟩ (.slice (some qA) l.length c7)).heap.size from by rw [World.size_setCell]; exact HB9.out)
    clear hcut hF10 hT10 c9 f9
    generalize (wd.setCell ⟨gr, 4, none⟩ (.slice (some qA) l.length c7)) = w10 at *
    have hal := (Below.refl w10.heap.size w10).alloc (Nat.le_refl _) (.cells #[.int .i64 t.hd.kind, .int .u64 t.hd.s0, .int .u64 t.hd.s1, .int .u64 t.hd.s2, .int .u64 t.hd.s3, .slice B t.subs.length cc, .int .i64 t.hd.num, .int .i64 t.hd.min, .int .i64 t.hd.max, .bool t.hd.bare] 27)
    have hin2 : T.In (w10.alloc (.cells #[.int .i64 t.hd.kind, .int .u64 t.hd.s0, .int .u64 t.hd.s1, .int .u64 t.hd.s2, .int .u64 t.hd.s3, .slice B t.subs.length cc, .int .i64 t.hd.num, .int .i64 t.hd.min, .int .i64 t.hd.max, .bool t.hd.bare] 27)) (fun b => y.heap.size ≤ b ∧ b < (w10.alloc (.cells #[.int .i64 t.hd.kind, .int .u64 t.hd.s0, .int .u64 t.hd.s1, .int .u64 t.hd.s2, .int .u64 t.hd.s3, .slice B t.subs.length cc, .int .i64 t.hd.num, .int .i64 t.hd.min, .int .i64 t.hd.max, .bool t.hd.bare] 27)).heap.size ∧ (Value.slice (some qA) l.length c7).ownBlock ≠ some b ∧ b ≠ y.heap.size) t B :=
     H10.out.2.2.2.2.same ((same_of_below hal).mono fun b hb => Nat.lt_trans hb.2.1 HS10.out) fun b hb => ⟨by have h1 := hb.1; have h2 := HZ4.out; omega, by rw [World.size_alloc]; have h1 := hb.2.1; have h2 := HS10.out; omega, hb.2.2, by have h1 := hb.1; have h2 := HZ4.out; omega⟩
    have hrw : (Value.slice (some qA) l.length c7).ownBlock ≠ some w10.heap.size := fun e => by have := (H10.out.1.lt _ e).2; omega
    have htr := one_in (h := ⟨7, 0, 0, 0, 0, ((g + 1 : Nat) : Int), 0, 0, false⟩) (Blk.new w10 27 #[.int .i64 t.hd.kind, .int .u64 t.hd.s0, .int .u64 t.hd.s1, .int .u64 t.hd.s2, .int .u64 t.hd.s3, .slice B t.subs.length cc, .int .i64 t.hd.num, .int .i64 t.hd.min, .int .i64 t.hd.max, .bool t.hd.bare]) (ok := fun b => y.heap.size ≤ b ∧ b < (w10.alloc (.cells #[.int .i64 t.hd.kind, .int .u64 t.hd.s0, .int .u64 t.hd.s1, .int .u64 t.hd.s2, .int .u64 t.hd.s3, .slice B t.subs.length cc, .int .i64 t.hd.num, .int .i64 t.hd.min, .int .i64 t.hd.max, .bool t.hd.bare] 27)).heap.size ∧ (Value.slice (some qA) l.length c7).ownBlock ≠ some b ∧ b ≠ y.heap.size) ⟨by have h1 := HS10.out; have h2 := HZ5.out; omega, by rw [World.size_alloc]; omega, hrw, by have h1 := HS10.out; have h2 := HZ5.out; omega⟩ hin2
    have H11 := hide (And.intro (H10.out.1.next hal) (And.intro (H10.out.2.1.next HB10.out hal) (And.intro (H10.out.2.2.1.next hal) htr)))
    clear hal hin2 hrw htr
    have cx := H10.out.2.2.2.1.cell
    go_wp2_with (refine wpList_store_node rfl _ _ rfl y.heap.size _ ⟨7, 0, 0, 0, 0, ((g + 1 : Nat) : Int), 0, 0, false⟩ (some ⟨w10.heap.size, 0, none⟩) 1 1 rfl rfl H11.out.2.2.1 rfl ?_; intro w9 hrow9 hg9 hz9)
    refine bodyPost_ret (node_result rfl _ _ y.heap.size _ _ rfl hrow9) rfl ?_
    exact sbad (t := grpT ((g + 1 : Nat) : Int) t) HE.out H11.out.1 H11.out.2.1 H11.out.2.2.2 hg9 H11.out.2.2.1 (Nat.le_refl _) HB.out
end Go.Proofs.YtfehmfifjidjjaaGreatDoor

/-! ## RefEreG -/
namespace Go.Proofs.YtfehmfifjidjjaaGreatDoor
open Go.RowKit

/-- How much is still to be read: none behind a fault. -/
def rsLeft (gr : Nat) (p : ByteArray) (w : World) : Nat := match w.cell? ⟨gr, 1, none⟩, w.cell? ⟨gr, 5, none⟩ with
 | some (.int _ i), some (.int _ 0) => p.size + 1 - i.toNat
 | _, _ => 0
theorem rsLeft_ok {w : World} {gr B0 : Nat} {p : ByteArray} {i : Nat} {fl g : Int} {ov : Value} {d : Nat} (h : RdS w gr B0 p (i : Int) fl g ov d 0 0) : rsLeft gr p w = p.size + 1 - i := by
 unfold rsLeft
 rw [h.box.cell 1, h.box.cell 5]
 simp
theorem rsLeft_bad {w : World} {gr B0 c : Nat} {p : ByteArray} {I fl g pl : Int} {ov : Value} {d : Nat} (h : RdS w gr B0 p I fl g ov d ((c + 1 : Nat) : Int) pl) : rsLeft gr p w = 0 := by
 unfold rsLeft
 rw [h.box.cell 1, h.box.cell 5]
 simp only [List.getElem?_toArray, List.getElem?_cons_succ, List.getElem?_cons_zero]
/-- A loop that builds a list of trees beside the state. -/
structure LpS (B0 gr : Nat) (p : ByteArray) (fl : Int) (d : Nat) (ov : Value) (y : World) (wr : World) (lv : Value) (I G code pl : Int) (acc : List T) (ov' : Value) : Prop where
 rd : RdS wr gr B0 p I fl G ov' d code pl
 fr : RdF gr B0 ov.ownBlock ov'.ownBlock y wr
 bx : Blk wr y.heap.size 27 zeroCells
 gx : GrowX (y.heap.size + 1) ov'.ownBlock wr lv acc
section
variable {B0 gr : Nat} {y wr wr' : World} {p : ByteArray} {fl I G code pl : Int} {d : Nat} {ov ov' lv : Value} {acc : List T}
theorem LpS.next (h : LpS B0 gr p fl d ov y wr lv I G code pl acc ov') (hB : B0 ≤ wr.heap.size) (hb : Below wr.heap.size wr wr') : LpS B0 gr p fl d ov y wr' lv I G code pl acc ov' := ⟨h.rd.next hb, h.fr.next hB hb, h.bx.next hb, h.gx.next hb⟩
/-- The place is moved. -/
theorem LpS.step (h : LpS B0 gr p fl d ov y wr lv I G code pl acc ov') (hgr : gr < y.heap.size) (J : Int) : LpS B0 gr p fl d ov y (wr.setCell ⟨gr, 1, none⟩ (.int .i64 J)) lv J G code pl acc ov' :=
 ⟨h.rd.set 1 _, h.fr.set h.rd.base 1 (.int .i64 J), h.bx.far (p := ⟨gr, 1, none⟩) (show y.heap.size ≠ gr by omega) (.int .i64 J), h.gx.rdf (B0 := B0) (y := wr) (by omega) ((RdF.refl gr B0 ov'.ownBlock wr).set h.rd.base 1 (.int .i64 J))⟩
/-- A fault is set. -/
theorem LpS.fault {wr2 : World} {code2 pl2 : Int} (h : LpS B0 gr p fl d ov y wr lv I G code pl acc ov') (hgr : gr < y.heap.size) (hE : RdS wr2 gr B0 p I fl G ov' d code2 pl2) (hF : RdF gr B0 ov'.ownBlock ov'.ownBlock wr wr2) : LpS B0 gr p fl d ov y wr2 lv I G code2 pl2 acc ov' :=
 ⟨hE, h.fr.trans hF, hF.blk_ h.bx (by omega) (h.rd.apart h.bx (by decide)), h.gx.rdf (B0 := B0) (y := wr) (by omega) hF⟩
end
/-- Where a piece ends that is an atom and its repeat. -/
theorem withRep_at {p : ByteArray} {t t2 : T} {k q k2 q2 : Nat} (hk : k ≤ p.size) (h2 : withRep (repE p k) t k q = .ok t2 k2 q2) : k ≤ k2 ∧ k2 ≤ p.size ∧ q2 = q := by
 unfold withRep at h2
 cases hr : repE p k with
 | no => rw [hr] at h2; injection h2 with e1 e2 e3; omega
 | bad c => rw [hr] at h2; cases h2
 | yes a b n =>
  have := repE_next hr
  rw [hr] at h2
  simp only at h2
  split at h2
  ·cases h2
  ·injection h2 with e1 e2 e3; omega
set_option maxRecDepth 100000 in
set_option maxHeartbeats 4000000 in
theorem refBranch_any {y : World} {gr B0 : Nat} {p : ByteArray} {i : Nat} {fl : Int} {g : Nat} {ov : Value} {d : Nat} {deeper : Option (Nat → Nat → PR)} (hG : GroupR B0 gr p fl d deeper) (hdf : ∀ f, deeper = some f → ∀ i g, i ≤ p.size → (f i g).Fine p i g 0) (h : RdS y gr B0 p (i : Int) fl (g : Int) ov d 0 0) (hp : p.size ≤ 1024) (hi : i ≤ p.size) (hgi : g ≤ i) (hB0 : B0 ≤ y.heap.size) :
  Calls Tryz.prog 86 #[.pointer (some ⟨gr, 0, none⟩)] y (SPost B0 gr p fl d (fun b => y.heap.size ≤ b) ov y (branchE p (!decide (bits .and .i64 fl 2 = 0)) (!decide (bits .and .i64 fl 4 = 0)) deeper (decide (0 < d)) (p.size + 1) i g [])) := by
 have HPa := hide (fun (y' : World) (ov' : Value) (j g' : Nat) (h' : RdS y' gr B0 p (j : Int) fl (g' : Int) ov' d 0 0) (hj : j < p.size) (hgj : g' ≤ j) (hB' : B0 ≤ y'.heap.size) => And.intro (refAtom_any hG h' hp hj hgj hB') (atomE_fine (ic := !decide (bits .and .i64 fl 2 = 0)) (nl := !decide (bits .and .i64 fl 4 = 0)) hdf (i := j) (g := g') hj))
 clear hG
 obtain ⟨ic, hic⟩ : ∃ ic, ic = !decide (bits .and .i64 fl 2 = 0) := ⟨_, rfl⟩
 obtain ⟨nl, hnl⟩ : ∃ nl, nl = !decide (bits .and .i64 fl 4 = 0) := ⟨_, rfl⟩
 rw [← hic, ← hnl] at HPa ⊢
 clear hic hnl hdf
 have hz0 := Blk.new y 27 zeroCells
 have hbel := (Below.refl y.heap.size y).alloc (Nat.le_refl _) (.cells zeroCells 27)
 have H0 := hide (And.intro (h.next hbel) (And.intro (RdF.of_below (gr := gr) (x := ov.ownBlock) hB0 hbel) hz0))
 have HB := hide hB0
 have HGY := hide h.box.lt
 clear hz0 hbel h hB0
 unfold zeroCells at *
 have HZ := hide (World.size_alloc y (.cells #[.int .i64 0, .int .u64 0, .int .u64 0, .int .u64 0, .int .u64 0, .slice none 0 0, .int .i64 0, .int .i64 0, .int .i64 0, .bool false] 27))
 obtain ⟨res, hres⟩ : ∃ res, res = branchE p ic nl deeper (decide (0 < d)) (p.size + 1) i g [] := ⟨_, rfl⟩
 rw [← hres]
 have HRS := hide hres
 clear hres
 have HGR := hide (show gr < y.heap.size + 1 from Nat.lt_succ_of_lt HGY.out)
 go_enter Tryz.func86, Tryz.ntmps86
 go_upto_region 1 with fail
 generalize (y.alloc (.cells #[.int .i64 0, .int .u64 0, .int .u64 0, .int .u64 0, .int .u64 0, .slice none 0 0, .int .i64 0, .int .i64 0, .int .i64 0, .bool false] 27)) = W at *
 go_wp2_with fail
 go_loopw [3] (fun lv wr => (∃ (j g' n : Nat) (acc : List T) (ov' : Value), LpS B0 gr p fl d ov y wr lv (j : Int) (g' : Int) 0 0 acc ov' ∧ i ≤ j ∧ j ≤ p.size ∧ g' ≤ j ∧ acc.length ≤ j ∧ p.size + 1 ≤ n + j ∧ branchE p ic nl deeper (decide (0 < d)) n j g' acc = res) ∨ (∃ (c : Nat) (I G pl : Int) (acc : List T) (ov' : Value), LpS B0 gr p fl d ov y wr lv I G ((c + 1 : Nat) : Int) pl acc ov' ∧ acc.length ≤ 5000 ∧ res = .bad c pl)) (fun _ wr => rsLeft gr p wr)
 case atStart => exact .inl ⟨i, g, p.size + 1, [], ov, ⟨H0.out.1, H0.out.2.1, H0.out.2.2, GrowX.nil _ _ _⟩, Nat.le_refl _, hi, hgi, Nat.zero_le _, by omega, HRS.out.symm⟩
 case round =>
  rcases hrel with ⟨j, g', n, acc, ov', hlp, hij, hjp, hgj, hac, hn, hbr⟩ | ⟨c, I, G, pl, acc, ov', hlp, hac, hbr⟩
  case inr =>
   have HL := hide hlp
   have HE := hide hbr
   have HBr := hide (Nat.le_trans HB.out hlp.fr.below.size)
   obtain ⟨cd, hcd⟩ : ∃ cd : Int, cd = ((c + 1 : Nat) : Int) := ⟨_, rfl⟩
   have gc : (cd == 0) = false := by rw [beq_eq_false_iff_ne]; omega
   have c0 := hlp.rd.box.cell
   rw [← hcd] at c0
   have HCD := hide hcd
   clear hlp hbr hcd
   go_wp2_with fail
   go_big_quiet (fail)
   have hbq := below_drewN6 (Below.refl wr.heap.size wr) nq
   have HLq := hide (HL.out.next HBr.out hbq)
   have HBq := hide (Nat.le_trans HBr.out hbq.size)
   clear hbq c0 HL HBr
   have HL := HLq
   have HBr := HBq
   clear HLq HBq
   generalize wr.drewN nq = wa at *
   skip
   go_upto_region 24 with fail
   clear gc
   obtain ⟨Al, cl, hlv, hinl⟩ := HL.out.gx.in_
   subst hlv
   have hsq := refSeveral_any 5 acc Al cl _ wa (fun b hb => hb.2.1) hinl (by omega)
   rw [sev_seq] at hsq
   have HSq := hide hsq
   clear hinl hsq
   go_wp2_with fail
   refine HSq.out.mono ?_
   rintro e wq ⟨B2, c2, rfl, hin2, hbf⟩
   have HL2 := hide (HL.out.next HBr.out hbf)
   have HT2 := hide hin2
   have HZ2 := hide (show y.heap.size + 1 ≤ wa.heap.size ∧ wa.heap.size ≤ wq.heap.size from ⟨HL.out.bx.lt, hbf.size⟩)
   clear hin2 hbf HSq
   go_wp2_with (refine wpList_store_node rfl _ _ rfl y.heap.size _ _ _ _ _ rfl rfl HL2.out.bx rfl ?_; intro w9 hrow9 hg9 hz9)
   refine bodyPost_ret (node_result rfl _ _ y.heap.size _ _ rfl hrow9) rfl ?_
   exact sbad (t := T.seq acc) HE.out HL2.out.rd HL2.out.fr (HT2.out.same (Same.refl _ _) fun b hb => ⟨by have := hb.1; omega, by have h1 := hb.2.1; have h2 := HZ2.out.2; omega, hb.2.2, by have := hb.1; omega⟩) hg9 HL2.out.bx (Nat.le_refl _) HB.out
  case inl =>
   have HL := hide hlp
   have HE := hide hbr
   have HBr := hide (Nat.le_trans HB.out hlp.fr.below.size)
   have HMs := hide (rsLeft_ok hlp.rd)
   have c0 := hlp.rd.box.cell
   clear hlp hbr
   cases n with
   | zero => omega
   | succ n =>
   rw [branchE] at HE
   by_cases hj : j < p.size
   case neg =>
    have g1 : decide ((j : Int) < (p.size : Int)) = false := decide_eq_false (by omega)
    have HE2 := hide (show res = .ok (T.seq acc) j g' from by rw [← HE.out, if_pos (.inl hj)])
    go_wp2_with fail
    go_big_quiet (fail)
    have hbq := below_drewN6 (Below.refl wr.heap.size wr) nq
    have HLq := hide (HL.out.next HBr.out hbq)
    have HBq := hide (Nat.le_trans HBr.out hbq.size)
    clear hbq c0 HL HBr
    have HL := HLq
    have HBr := HBq
    clear HLq HBq
    generalize wr.drewN nq = wa at *
    have c0 := HL.out.rd.box.cell
    go_upto_region 24 with fail
    clear c0 g1
    obtain ⟨Al, cl, hlv, hinl⟩ := HL.out.gx.in_
    subst hlv
    have hsq := refSeveral_any 5 acc Al cl _ wa (fun b hb => hb.2.1) hinl (by omega)
    rw [sev_seq] at hsq
    have HSq := hide hsq
    clear hinl hsq
    go_wp2_with fail
    refine HSq.out.mono ?_
    rintro e wq ⟨B2, c2, rfl, hin2, hbf⟩
    have HL2 := hide (HL.out.next HBr.out hbf)
    have HT2 := hide hin2
    have HZ2 := hide (show y.heap.size + 1 ≤ wa.heap.size ∧ wa.heap.size ≤ wq.heap.size from ⟨HL.out.bx.lt, hbf.size⟩)
    clear hin2 hbf HSq
    go_wp2_with (refine wpList_store_node rfl _ _ rfl y.heap.size _ _ _ _ _ rfl rfl HL2.out.bx rfl ?_; intro w9 hrow9 hg9 hz9)
    refine bodyPost_ret (node_result rfl _ _ y.heap.size _ _ rfl hrow9) rfl ?_
    exact sok (t := T.seq acc) HE2.out HL2.out.rd HL2.out.fr (HT2.out.same (Same.refl _ _) fun b hb => ⟨by have := hb.1; omega, by have h1 := hb.2.1; have h2 := HZ2.out.2; omega, hb.2.2, by have := hb.1; omega⟩) hg9 HL2.out.bx (Nat.le_refl _) HB.out
   case pos =>
    have g1 : decide ((j : Int) < (p.size : Int)) = true := decide_eq_true (by omega)
    obtain ⟨c, hc⟩ : ∃ c, c = pb p j := ⟨_, rfl⟩
    have hpb : (p[j]'hj).toNat = c := by rw [hc, pb_at hj]
    have hcl : c < 256 := by rw [hc]; exact pb_lt hj
    rw [← hc] at HE
    have HC := hide hc
    have HJ := hide hj
    clear hc
    by_cases h124 : c = 124
    ·have HE2 := hide (show res = .ok (T.seq acc) j g' from by rw [← HE.out, if_pos (.inr h124)])
     have g2 : ((c : Int) != 124) = false := by rw [h124]; decide
     go_wp2_with fail
     go_big_quiet (fail)
     have hbq := below_drewN6 (Below.refl wr.heap.size wr) nq
     have HLq := hide (HL.out.next HBr.out hbq)
     have HBq := hide (Nat.le_trans HBr.out hbq.size)
     clear hbq c0 HL HBr
     have HL := HLq
     have HBr := HBq
     clear HLq HBq
     generalize wr.drewN nq = wa at *
     have c0 := HL.out.rd.box.cell
     go_upto_region 24 with fail
     clear c0 g1 g2
     obtain ⟨Al, cl, hlv, hinl⟩ := HL.out.gx.in_
     subst hlv
     have hsq := refSeveral_any 5 acc Al cl _ wa (fun b hb => hb.2.1) hinl (by omega)
     rw [sev_seq] at hsq
     have HSq := hide hsq
     clear hinl hsq
     go_wp2_with fail
     refine HSq.out.mono ?_
     rintro e wq ⟨B2, c2, rfl, hin2, hbf⟩
     have HL2 := hide (HL.out.next HBr.out hbf)
     have HT2 := hide hin2
     have HZ2 := hide (show y.heap.size + 1 ≤ wa.heap.size ∧ wa.heap.size ≤ wq.heap.size from ⟨HL.out.bx.lt, hbf.size⟩)
     clear hin2 hbf HSq
     go_wp2_with (refine wpList_store_node rfl _ _ rfl y.heap.size _ _ _ _ _ rfl rfl HL2.out.bx rfl ?_; intro w9 hrow9 hg9 hz9)
     refine bodyPost_ret (node_result rfl _ _ y.heap.size _ _ rfl hrow9) rfl ?_
     exact sok (t := T.seq acc) HE2.out HL2.out.rd HL2.out.fr (HT2.out.same (Same.refl _ _) fun b hb => ⟨by have := hb.1; omega, by have h1 := hb.2.1; have h2 := HZ2.out.2; omega, hb.2.2, by have := hb.1; omega⟩) hg9 HL2.out.bx (Nat.le_refl _) HB.out
    have HE2 := hide (show (if c = 41 then (if decide (0 < d) = true then PR.ok (T.seq acc) j g' else .bad 1 j) else match pieceE p ic nl deeper j g' with
      | .bad c pl => .bad c pl
      | .ok t k q => branchE p ic nl deeper (decide (0 < d)) n k q (acc ++ [t])) = res from (if_neg (fun hh => hh.elim (fun h1 => h1 hj) h124)).symm.trans HE.out)
    clear HE
    have g2 : ((c : Int) != 124) = true := by rw [bne_iff_ne]; omega
    go_wp2_with fail
    go_big_quiet (fail)
    have hbq := below_drewN6 (Below.refl wr.heap.size wr) nq
    have HLq := hide (HL.out.next HBr.out hbq)
    have HBq := hide (Nat.le_trans HBr.out hbq.size)
    clear hbq c0 HL HBr
    have HL := HLq
    have HBr := HBq
    clear HLq HBq
    generalize wr.drewN nq = wa at *
    have c0 := HL.out.rd.box.cell
    go_wp2_with fail
    go_big_quiet (fail)
    have hbq := below_drewN6 (Below.refl wa.heap.size wa) nq
    have HLq := hide (HL.out.next HBr.out hbq)
    have HBq := hide (Nat.le_trans HBr.out hbq.size)
    clear hbq c0 HL HBr
    have HL := HLq
    have HBr := HBq
    clear HLq HBq
    generalize wa.drewN nq = wb at *
    have c0 := HL.out.rd.box.cell
    clear g1 g2
    by_cases h41 : c = 41
    ·have HE3 := hide (show res = (if decide (0 < d) = true then PR.ok (T.seq acc) j g' else .bad 1 j) from by rw [← HE2.out, if_pos h41])
     obtain ⟨Ao, co, hov⟩ := HL.out.rd.form
     subst hov
     have g3 : ((c : Int) == 41) = true := by rw [h41]; decide
     by_cases hd0 : 0 < d
     ·have HE4 := hide (show res = .ok (T.seq acc) j g' from by rw [HE3.out, if_pos (decide_eq_true hd0)])
      have gd : ((d : Int) == 0) = false := by rw [beq_eq_false_iff_ne]; omega
      go_upto_region 24 with fail
      clear c0 g3 gd
      obtain ⟨Al, cl, hlv, hinl⟩ := HL.out.gx.in_
      subst hlv
      have hsq := refSeveral_any 5 acc Al cl _ wb (fun b hb => hb.2.1) hinl (by omega)
      rw [sev_seq] at hsq
      have HSq := hide hsq
      clear hinl hsq
      go_wp2_with fail
      refine HSq.out.mono ?_
      rintro e wq ⟨B2, c2, rfl, hin2, hbf⟩
      have HL2 := hide (HL.out.next HBr.out hbf)
      have HT2 := hide hin2
      have HZ2 := hide (show y.heap.size + 1 ≤ wb.heap.size ∧ wb.heap.size ≤ wq.heap.size from ⟨HL.out.bx.lt, hbf.size⟩)
      clear hin2 hbf HSq
      go_wp2_with (refine wpList_store_node rfl _ _ rfl y.heap.size _ _ _ _ _ rfl rfl HL2.out.bx rfl ?_; intro w9 hrow9 hg9 hz9)
      refine bodyPost_ret (node_result rfl _ _ y.heap.size _ _ rfl hrow9) rfl ?_
      exact sok (t := T.seq acc) HE4.out HL2.out.rd HL2.out.fr (HT2.out.same (Same.refl _ _) fun b hb => ⟨by have := hb.1; omega, by have h1 := hb.2.1; have h2 := HZ2.out.2; omega, hb.2.2, by have := hb.1; omega⟩) hg9 HL2.out.bx (Nat.le_refl _) HB.out
     ·have HE4 := hide (show res = .bad 1 j from by rw [HE3.out, if_neg (by simp [hd0])])
      have gd : ((d : Int) == 0) = true := by rw [beq_iff_eq]; omega
      have HFt := hide (refFault_any (show RdS wb gr B0 p (j : Int) fl (g' : Int) (.slice Ao d co) d 0 0 from HL.out.rd) HBr.out 2 (j : Int))
      go_wp2_with fail
      refine HFt.out.mono ?_
      rintro e wf ⟨rfl, hE, hF⟩
      have HLb := hide (HL.out.fault HGY.out hE hF)
      have HBF := hide (Nat.le_trans HBr.out hF.below.size)
      clear hE hF HFt c0 g3 gd
      go_upto_region 24 with fail
      obtain ⟨Al, cl, hlv, hinl⟩ := HLb.out.gx.in_
      subst hlv
      have hsq := refSeveral_any 5 acc Al cl _ wf (fun b hb => hb.2.1) hinl (by omega)
      rw [sev_seq] at hsq
      have HSq := hide hsq
      clear hinl hsq
      go_wp2_with fail
      refine HSq.out.mono ?_
      rintro e wq ⟨B2, c2, rfl, hin2, hbf⟩
      have HL2 := hide (HLb.out.next HBF.out hbf)
      have HT2 := hide hin2
      have HZ2 := hide (show y.heap.size + 1 ≤ wf.heap.size ∧ wf.heap.size ≤ wq.heap.size from ⟨HLb.out.bx.lt, hbf.size⟩)
      clear hin2 hbf HSq
      go_wp2_with (refine wpList_store_node rfl _ _ rfl y.heap.size _ _ _ _ _ rfl rfl HL2.out.bx rfl ?_; intro w9 hrow9 hg9 hz9)
      refine bodyPost_ret (node_result rfl _ _ y.heap.size _ _ rfl hrow9) rfl ?_
      exact sbad (t := T.seq acc) HE4.out HL2.out.rd HL2.out.fr (HT2.out.same (Same.refl _ _) fun b hb => ⟨by have := hb.1; omega, by have h1 := hb.2.1; have h2 := HZ2.out.2; omega, hb.2.2, by have := hb.1; omega⟩) hg9 HL2.out.bx (Nat.le_refl _) HB.out
    have HE3 := hide (show (match pieceE p ic nl deeper j g' with
      | .bad c pl => .bad c pl
      | .ok t k q => branchE p ic nl deeper (decide (0 < d)) n k q (acc ++ [t])) = res from (if_neg h41).symm.trans HE2.out)
    clear HE2
    have g41 : ((c : Int) == 41) = false := by rw [beq_eq_false_iff_ne]; omega
    by_cases h94 : c = 94
    ·subst h94
     have HP2 := hide (show branchE p ic nl deeper (decide (0 < d)) n (j + 1) g' (acc ++ [begT]) = res from by rw [← HE3.out]; unfold pieceE; rw [← HC.out]; rfl)
     have HQ0 := hide (And.intro HL.out.rd (And.intro HL.out.fr (And.intro HL.out.bx (And.intro HL.out.gx (show T.In wb (fun b => y.heap.size + 1 ≤ b ∧ b < wb.heap.size ∧ some b ≠ u3.ownBlock ∧ ov'.ownBlock ≠ some b) begT none from T.In_iff.2 trivial)))))
     have HBw := HBr
     clear HE3 HPa HC
     go_upto_region 17 with fail
     have hal := (Below.refl wb.heap.size wb).alloc (Nat.le_refl _) (.cells #[.int .i64 3, .int .u64 0, .int .u64 0, .int .u64 0, .int .u64 0, .slice none 0 0, .int .i64 0, .int .i64 0, .int .i64 0, .bool false] 27)
     have HQ := hide (And.intro (HQ0.out.1.next hal) (And.intro (HQ0.out.2.1.next HBw.out hal) (And.intro (HQ0.out.2.2.1.next hal) (And.intro (HQ0.out.2.2.2.1.next hal) (HQ0.out.2.2.2.2.same (ok' := fun b => y.heap.size + 1 ≤ b ∧ b < (wb.alloc (.cells #[.int .i64 3, .int .u64 0, .int .u64 0, .int .u64 0, .int .u64 0, .slice none 0 0, .int .i64 0, .int .i64 0, .int .i64 0, .bool false] 27)).heap.size ∧ some b ≠ u3.ownBlock ∧ ov'.ownBlock ≠ some b) ((same_of_below hal).mono fun b hb => hb.2.1) fun b hb => ⟨hb.1, Nat.lt_of_lt_of_le hb.2.1 hal.size, hb.2.2⟩)))))
     have HBz := hide (fun b (hb : ov'.ownBlock = some b) => (HQ.out.1.lt b hb).2)
     have HBs := hide (show y.heap.size + 1 ≤ (wb.alloc (.cells #[.int .i64 3, .int .u64 0, .int .u64 0, .int .u64 0, .int .u64 0, .slice none 0 0, .int .i64 0, .int .i64 0, .int .i64 0, .bool false] 27)).heap.size from HQ.out.2.2.1.lt)
     have hll : acc.length < 1000000 := by omega
     clear hal
     go_wp2_with (at_builtin; refine wpList_append_nodeX rfl _ _ rfl (y.heap.size + 1) _ _ acc rfl HQ.out.2.2.2.1 HBz.out (begT) none 0 wb.heap.size 1 rfl (Blk.new _ _ _) HQ.out.2.2.2.2 hll HBs.out ?_)
     intro v5 w5 hgx5 hg5
     have hap := HQ.out.2.2.2.1.apart
     have hlt := HQ.out.2.2.2.1.lt
     have hgr := HGR.out
     have n1 : u3.ownBlock ≠ some gr := fun e => by have := (hlt gr e).1; omega
     have n2 : u3.ownBlock ≠ some y.heap.size := fun e => by have := (hlt _ e).1; omega
     have HF := hide (show LpS B0 gr p fl d ov y w5 v5 (j : Int) (g' : Int) 0 0 (acc ++ [begT]) ov' from ⟨HQ.out.1.grown hg5 n1 (by
       by_cases hov : ov'.ownBlock = none
       ·exact .inl hov
       ·refine .inr fun e => ?_
        cases hl : u3.ownBlock with
        | none => rw [hl] at e; exact hov e
        | some b => rw [hl] at e; exact hap b hl e), HQ.out.2.1.grown hg5 (fun b e => by have := (hlt b e).1; omega) HB.out, HQ.out.2.2.1.grown hg5 (fun e => n2 e.symm), hgx5⟩)
     clear hgx5 hg5 hap hlt hgr n1 n2
     have c5 := HF.out.rd.box.cell
     have f5 := HF.out.rd.box.frozen
     have HE1 := hide (show (j : Int) + 1 = ((j + 1 : Nat) : Int) from rfl)
     clear HQ0 HQ
     go_wp2_with fail
     rw [HE1.out]
     have HF2 := hide (HF.out.step HGY.out ((j + 1 : Nat) : Int))
     clear c5 f5 HF
     go_roundw
     case rel => exact .inl ⟨j + 1, g', n, acc ++ [begT], ov', HF2.out, by omega, by omega, by omega, by simp; omega, by omega, HP2.out⟩
     case measure => rw [rsLeft_ok HF2.out.rd, HMs.out]; omega
    by_cases h36 : c = 36
    ·subst h36
     have HP2 := hide (show branchE p ic nl deeper (decide (0 < d)) n (j + 1) g' (acc ++ [endT]) = res from by rw [← HE3.out]; unfold pieceE; rw [← HC.out]; rfl)
     have HQ0 := hide (And.intro HL.out.rd (And.intro HL.out.fr (And.intro HL.out.bx (And.intro HL.out.gx (show T.In wb (fun b => y.heap.size + 1 ≤ b ∧ b < wb.heap.size ∧ some b ≠ u3.ownBlock ∧ ov'.ownBlock ≠ some b) endT none from T.In_iff.2 trivial)))))
     have HBw := HBr
     clear HE3 HPa HC
     go_upto_region 17 with fail
     have hal := (Below.refl wb.heap.size wb).alloc (Nat.le_refl _) (.cells #[.int .i64 4, .int .u64 0, .int .u64 0, .int .u64 0, .int .u64 0, .slice none 0 0, .int .i64 0, .int .i64 0, .int .i64 0, .bool false] 27)
     have HQ := hide (And.intro (HQ0.out.1.next hal) (And.intro (HQ0.out.2.1.next HBw.out hal) (And.intro (HQ0.out.2.2.1.next hal) (And.intro (HQ0.out.2.2.2.1.next hal) (HQ0.out.2.2.2.2.same (ok' := fun b => y.heap.size + 1 ≤ b ∧ b < (wb.alloc (.cells #[.int .i64 4, .int .u64 0, .int .u64 0, .int .u64 0, .int .u64 0, .slice none 0 0, .int .i64 0, .int .i64 0, .int .i64 0, .bool false] 27)).heap.size ∧ some b ≠ u3.ownBlock ∧ ov'.ownBlock ≠ some b) ((same_of_below hal).mono fun b hb => hb.2.1) fun b hb => ⟨hb.1, Nat.lt_of_lt_of_le hb.2.1 hal.size, hb.2.2⟩)))))
     have HBz := hide (fun b (hb : ov'.ownBlock = some b) => (HQ.out.1.lt b hb).2)
     have HBs := hide (show y.heap.size + 1 ≤ (wb.alloc (.cells #[.int .i64 4, .int .u64 0, .int .u64 0, .int .u64 0, .int .u64 0, .slice none 0 0, .int .i64 0, .int .i64 0, .int .i64 0, .bool false] 27)).heap.size from HQ.out.2.2.1.lt)
     have hll : acc.length < 1000000 := by omega
     clear hal
     go_wp2_with (at_builtin; refine wpList_append_nodeX rfl _ _ rfl (y.heap.size + 1) _ _ acc rfl HQ.out.2.2.2.1 HBz.out (endT) none 0 wb.heap.size 1 rfl (Blk.new _ _ _) HQ.out.2.2.2.2 hll HBs.out ?_)
     intro v5 w5 hgx5 hg5
     have hap := HQ.out.2.2.2.1.apart
     have hlt := HQ.out.2.2.2.1.lt
     have hgr := HGR.out
     have n1 : u3.ownBlock ≠ some gr := fun e => by have := (hlt gr e).1; omega
     have n2 : u3.ownBlock ≠ some y.heap.size := fun e => by have := (hlt _ e).1; omega
     have HF := hide (show LpS B0 gr p fl d ov y w5 v5 (j : Int) (g' : Int) 0 0 (acc ++ [endT]) ov' from ⟨HQ.out.1.grown hg5 n1 (by
       by_cases hov : ov'.ownBlock = none
       ·exact .inl hov
       ·refine .inr fun e => ?_
        cases hl : u3.ownBlock with
        | none => rw [hl] at e; exact hov e
        | some b => rw [hl] at e; exact hap b hl e), HQ.out.2.1.grown hg5 (fun b e => by have := (hlt b e).1; omega) HB.out, HQ.out.2.2.1.grown hg5 (fun e => n2 e.symm), hgx5⟩)
     clear hgx5 hg5 hap hlt hgr n1 n2
     have c5 := HF.out.rd.box.cell
     have f5 := HF.out.rd.box.frozen
     have HE1 := hide (show (j : Int) + 1 = ((j + 1 : Nat) : Int) from rfl)
     clear HQ0 HQ
     go_wp2_with fail
     rw [HE1.out]
     have HF2 := hide (HF.out.step HGY.out ((j + 1 : Nat) : Int))
     clear c5 f5 HF
     go_roundw
     case rel => exact .inl ⟨j + 1, g', n, acc ++ [endT], ov', HF2.out, by omega, by omega, by omega, by simp; omega, by omega, HP2.out⟩
     case measure => rw [rsLeft_ok HF2.out.rd, HMs.out]; omega
    have g94 : ((c : Int) == 94) = false := by rw [beq_eq_false_iff_ne]; omega
    have g36 : ((c : Int) == 36) = false := by rw [beq_eq_false_iff_ne]; omega
    by_cases hrep : c = 42 ∨ c = 43 ∨ c = 63 ∨ c = 123
    ·have HE4 := hide (show res = .bad 8 j from by rw [← HE3.out]; unfold pieceE; rw [← HC.out, if_neg h94, if_neg h36, if_pos hrep])
     have HFt := hide (refFault_any (show RdS wb gr B0 p (j : Int) fl (g' : Int) ov' d 0 0 from HL.out.rd) HBr.out 9 (j : Int))
     clear HE3 HPa HC
     have hall : ∀ k : Nat, k = 42 ∨ k = 43 ∨ k = 63 ∨ k = 123 → (((c : Int) == (k : Int)) = true ∨ ((c : Int) == (k : Int)) = false) := fun k _ => by cases ((c : Int) == (k : Int)) <;> simp
     rcases hrep with rfl | rfl | rfl | rfl
     all_goals
      go_wp2_with fail
      refine HFt.out.mono ?_
      rintro e wf ⟨rfl, hE, hF⟩
      have HLb := hide (HL.out.fault HGY.out hE hF)
      clear hE hF HFt c0
      go_wp2_with fail
      go_roundw
      case rel => exact .inr ⟨8, j, g', j, acc, ov', HLb.out, by omega, HE4.out⟩
      case measure => rw [rsLeft_bad (c := 8) HLb.out.rd, HMs.out]; omega
    have g42 : ((c : Int) == 42) = false := by rw [beq_eq_false_iff_ne]; omega
    have g43 : ((c : Int) == 43) = false := by rw [beq_eq_false_iff_ne]; omega
    have g63 : ((c : Int) == 63) = false := by rw [beq_eq_false_iff_ne]; omega
    have g123 : ((c : Int) == 123) = false := by rw [beq_eq_false_iff_ne]; omega
    have HPj := hide (HPa.out wb ov' j g' HL.out.rd hj hgj HBr.out)
    have HE4 := hide (show (match (match atomE p ic nl deeper j g' with
      | .bad c pl => .bad c pl
      | .ok t j h => withRep (repE p j) t j h : PR) with
      | .bad c pl => .bad c pl
      | .ok t k q => branchE p ic nl deeper (decide (0 < d)) n k q (acc ++ [t])) = res from by rw [← HE3.out]; unfold pieceE; rw [← HC.out, if_neg h94, if_neg h36, if_neg hrep]; rfl)
    clear HE3 HPa HC hrep h94 h36 h41 h124
    go_upto_region 8 with fail
    clear c0 g41 g94 g36 g42 g43 g63 g123
    go_wp2_with fail
    refine HPj.out.1.mono ?_
    rintro e z hz
    cases hq : atomE p ic nl deeper j g' with
    | bad c2 pl =>
     rw [hq] at hz HE4
     obtain ⟨t, B, cc, ov2, I, G, rfl, hin, hE, hF⟩ := hz
     have hal := (Below.refl z.heap.size z).alloc (Nat.le_refl _) (.cells #[.int .i64 t.hd.kind, .int .u64 t.hd.s0, .int .u64 t.hd.s1, .int .u64 t.hd.s2, .int .u64 t.hd.s3, .slice B t.subs.length cc, .int .i64 t.hd.num, .int .i64 t.hd.min, .int .i64 t.hd.max, .bool t.hd.bare] 27)
     have HZz := hide hF.below.size
     have hF2 := hF.next (Nat.le_trans HBr.out hF.below.size) hal
     have HQ0 := hide (And.intro (hE.next hal) (And.intro (HL.out.fr.trans hF2) (And.intro (hF2.blk_ HL.out.bx (blk_ne6 HL.out.bx HL.out.rd.box (by decide)) (HL.out.rd.apart HL.out.bx (by decide))) (And.intro (HL.out.gx.rdf (B0 := B0) (y := wb) HGR.out hF2) (show T.In (z.alloc (.cells #[.int .i64 t.hd.kind, .int .u64 t.hd.s0, .int .u64 t.hd.s1, .int .u64 t.hd.s2, .int .u64 t.hd.s3, .slice B t.subs.length cc, .int .i64 t.hd.num, .int .i64 t.hd.min, .int .i64 t.hd.max, .bool t.hd.bare] 27)) (fun b => y.heap.size + 1 ≤ b ∧ b < (z.alloc (.cells #[.int .i64 t.hd.kind, .int .u64 t.hd.s0, .int .u64 t.hd.s1, .int .u64 t.hd.s2, .int .u64 t.hd.s3, .slice B t.subs.length cc, .int .i64 t.hd.num, .int .i64 t.hd.min, .int .i64 t.hd.max, .bool t.hd.bare] 27)).heap.size ∧ some b ≠ u3.ownBlock ∧ ov2.ownBlock ≠ some b) t B from hin.same ((same_of_below hal).mono fun b hb => hb.2.1) fun b hb => ⟨by have h1 := HL.out.bx.lt; have h2 := hb.1; omega, Nat.lt_of_lt_of_le hb.2.1 hal.size, fun e => by have h1 := (HL.out.gx.lt b e.symm).2; have h2 := hb.1; omega, hb.2.2⟩)))))
     have hbx := Blk.new z 27 #[.int .i64 t.hd.kind, .int .u64 t.hd.s0, .int .u64 t.hd.s1, .int .u64 t.hd.s2, .int .u64 t.hd.s3, .slice B t.subs.length cc, .int .i64 t.hd.num, .int .i64 t.hd.min, .int .i64 t.hd.max, .bool t.hd.bare]
     have HBw := hide (Nat.le_trans HBr.out hF2.below.size)
     have HBX := hide hbx
     clear hal hin hE hF hF2 hbx hq HPj
     simp only [Hd.cells]
     go_upto_region 9 with fail
     generalize (z.alloc (.cells #[.int .i64 t.hd.kind, .int .u64 t.hd.s0, .int .u64 t.hd.s1, .int .u64 t.hd.s2, .int .u64 t.hd.s3, .slice B t.subs.length cc, .int .i64 t.hd.num, .int .i64 t.hd.min, .int .i64 t.hd.max, .bool t.hd.bare] 27)) = z1 at *
     have c0 := HQ0.out.1.box.cell
     have gc : ((((c2 + 1 : Nat) : Int)) == 0) = false := by rw [beq_eq_false_iff_ne]; omega
     go_upto_region 11 with fail
     clear c0 gc
     have c1 := HBX.out.cell
     have hal := (Below.refl z1.heap.size z1).alloc (Nat.le_refl _) (.cells #[.int .i64 t.hd.kind, .int .u64 t.hd.s0, .int .u64 t.hd.s1, .int .u64 t.hd.s2, .int .u64 t.hd.s3, .slice B t.subs.length cc, .int .i64 t.hd.num, .int .i64 t.hd.min, .int .i64 t.hd.max, .bool t.hd.bare] 27)
     have HQ := hide (And.intro (HQ0.out.1.next hal) (And.intro (HQ0.out.2.1.next HBw.out hal) (And.intro (HQ0.out.2.2.1.next hal) (And.intro (HQ0.out.2.2.2.1.next hal) (HQ0.out.2.2.2.2.same (ok' := fun b => y.heap.size + 1 ≤ b ∧ b < (z1.alloc (.cells #[.int .i64 t.hd.kind, .int .u64 t.hd.s0, .int .u64 t.hd.s1, .int .u64 t.hd.s2, .int .u64 t.hd.s3, .slice B t.subs.length cc, .int .i64 t.hd.num, .int .i64 t.hd.min, .int .i64 t.hd.max, .bool t.hd.bare] 27)).heap.size ∧ some b ≠ u3.ownBlock ∧ ov2.ownBlock ≠ some b) ((same_of_below hal).mono fun b hb => hb.2.1) fun b hb => ⟨hb.1, Nat.lt_of_lt_of_le hb.2.1 hal.size, hb.2.2⟩)))))
     have HBz := hide (fun b (hb : ov2.ownBlock = some b) => (HQ.out.1.lt b hb).2)
     have HBs := hide (show y.heap.size + 1 ≤ (z1.alloc (.cells #[.int .i64 t.hd.kind, .int .u64 t.hd.s0, .int .u64 t.hd.s1, .int .u64 t.hd.s2, .int .u64 t.hd.s3, .slice B t.subs.length cc, .int .i64 t.hd.num, .int .i64 t.hd.min, .int .i64 t.hd.max, .bool t.hd.bare] 27)).heap.size from HQ.out.2.2.1.lt)
     have hll : acc.length < 1000000 := by omega
     clear hal
     go_wp2_with (at_builtin; refine wpList_append_nodeX rfl _ _ rfl (y.heap.size + 1) _ _ acc rfl HQ.out.2.2.2.1 HBz.out (t) B cc z1.heap.size 1 rfl (Blk.new _ _ _) HQ.out.2.2.2.2 hll HBs.out ?_)
     intro v5 w5 hgx5 hg5
     have hap := HQ.out.2.2.2.1.apart
     have hlt := HQ.out.2.2.2.1.lt
     have hgr := HGR.out
     have n1 : u3.ownBlock ≠ some gr := fun e => by have := (hlt gr e).1; omega
     have n2 : u3.ownBlock ≠ some y.heap.size := fun e => by have := (hlt _ e).1; omega
     have HF := hide (show LpS B0 gr p fl d ov y w5 v5 I G ((c2 + 1 : Nat) : Int) pl (acc ++ [t]) ov2 from ⟨HQ.out.1.grown hg5 n1 (by
       by_cases hov : ov2.ownBlock = none
       ·exact .inl hov
       ·refine .inr fun e => ?_
        cases hl : u3.ownBlock with
        | none => rw [hl] at e; exact hov e
        | some b => rw [hl] at e; exact hap b hl e), HQ.out.2.1.grown hg5 (fun b e => by have := (hlt b e).1; omega) HB.out, HQ.out.2.2.1.grown hg5 (fun e => n2 e.symm), hgx5⟩)
     clear hgx5 hg5 hap hlt hgr n1 n2
     clear c1
     go_wp2_with fail
     go_roundw
     case rel => exact .inr ⟨c2, I, G, pl, acc ++ [t], ov2, HF.out, by simp; omega, HE4.out.symm⟩
     case measure => rw [rsLeft_bad HF.out.rd, HMs.out]; omega
    | ok t k q =>
     have hfine := HPj.out.2
     rw [hq] at hz HE4 hfine
     simp only [PR.Fine] at hfine
     obtain ⟨B, cc, ov2, rfl, hin, hE, hF⟩ := hz
     have hal := (Below.refl z.heap.size z).alloc (Nat.le_refl _) (.cells #[.int .i64 t.hd.kind, .int .u64 t.hd.s0, .int .u64 t.hd.s1, .int .u64 t.hd.s2, .int .u64 t.hd.s3, .slice B t.subs.length cc, .int .i64 t.hd.num, .int .i64 t.hd.min, .int .i64 t.hd.max, .bool t.hd.bare] 27)
     have hF2 := hF.next (Nat.le_trans HBr.out hF.below.size) hal
     have HZz := hide (show wb.heap.size ≤ z.heap.size ∧ (z.alloc (.cells #[.int .i64 t.hd.kind, .int .u64 t.hd.s0, .int .u64 t.hd.s1, .int .u64 t.hd.s2, .int .u64 t.hd.s3, .slice B t.subs.length cc, .int .i64 t.hd.num, .int .i64 t.hd.min, .int .i64 t.hd.max, .bool t.hd.bare] 27)).heap.size = z.heap.size + 1 from ⟨hF.below.size, World.size_alloc _ _⟩)
     have hin2 : T.In (z.alloc (.cells #[.int .i64 t.hd.kind, .int .u64 t.hd.s0, .int .u64 t.hd.s1, .int .u64 t.hd.s2, .int .u64 t.hd.s3, .slice B t.subs.length cc, .int .i64 t.hd.num, .int .i64 t.hd.min, .int .i64 t.hd.max, .bool t.hd.bare] 27)) (fun b => (wb.heap.size ≤ b ∧ b ≠ z.heap.size) ∧ b < (z.alloc (.cells #[.int .i64 t.hd.kind, .int .u64 t.hd.s0, .int .u64 t.hd.s1, .int .u64 t.hd.s2, .int .u64 t.hd.s3, .slice B t.subs.length cc, .int .i64 t.hd.num, .int .i64 t.hd.min, .int .i64 t.hd.max, .bool t.hd.bare] 27)).heap.size ∧ ov2.ownBlock ≠ some b) t B := hin.same ((same_of_below hal).mono fun b hb => hb.2.1) fun b hb => ⟨⟨hb.1, by have := hb.2.1; omega⟩, Nat.lt_of_lt_of_le hb.2.1 hal.size, hb.2.2⟩
     have hbx := Blk.new z 27 #[.int .i64 t.hd.kind, .int .u64 t.hd.s0, .int .u64 t.hd.s1, .int .u64 t.hd.s2, .int .u64 t.hd.s3, .slice B t.subs.length cc, .int .i64 t.hd.num, .int .i64 t.hd.min, .int .i64 t.hd.max, .bool t.hd.bare]
     have HQ1 := hide (And.intro (hE.next hal) (And.intro hF2 (And.intro hbx hin2)))
     have HB1 := hide (Nat.le_trans HBr.out hF2.below.size)
     clear hal hin hE hF hF2 hbx hin2 hq HPj
     simp only [Hd.cells]
     go_upto_region 9 with fail
     generalize (z.alloc (.cells #[.int .i64 t.hd.kind, .int .u64 t.hd.s0, .int .u64 t.hd.s1, .int .u64 t.hd.s2, .int .u64 t.hd.s3, .slice B t.subs.length cc, .int .i64 t.hd.num, .int .i64 t.hd.min, .int .i64 t.hd.max, .bool t.hd.bare] 27)) = z1 at *
     have c0 := HQ1.out.1.box.cell
     go_upto_region 10 with fail
     clear c0
     have c1 := HQ1.out.2.2.1.cell
     have HGW := hide (show gr < wb.heap.size from HL.out.rd.box.lt)
     have HRp := hide (refRepeat_any (q := fun b => wb.heap.size ≤ b ∧ b ≠ z.heap.size) (show RdS z1 gr B0 p (k : Int) fl (q : Int) ov2 d 0 0 from HQ1.out.1) hp (by omega) HB1.out (fun b hb => ⟨by have h1 := HZz.out.1; have h2 := HZz.out.2; omega, by have h2 := HZz.out.2; omega⟩) (fun hh => by have := HGW.out; omega) t B cc (by omega) HQ1.out.2.2.2)
     simp only [Hd.cells] at HRp
     go_wp2_with fail
     refine HRp.out.mono ?_
     rintro e z2 hz2
     clear HRp c1
     cases hq2 : withRep (repE p k) t k q with
     | bad c2 pl =>
      simp only [hq2] at hz2 HE4
      obtain ⟨t2, B2, cc2, ov3, I, G, rfl, hin, hE, hF⟩ := hz2
      have HQ2 := hide (And.intro hE (And.intro (HQ1.out.2.1.trans hF) (And.intro (hF.blk_ HQ1.out.2.2.1 (blk_ne6 HQ1.out.2.2.1 HQ1.out.1.box (by decide)) (HQ1.out.1.apart HQ1.out.2.2.1 (by decide))) hin)))
      have HB2 := hide (Nat.le_trans HB1.out hF.below.size)
      clear hE hF hin HQ1 hq2
      go_upto_region 11 with (refine wpList_store_node rfl _ _ rfl z.heap.size _ _ _ _ _ rfl rfl HQ2.out.2.2.1 rfl ?_; intro w6 hrow_w6 hg_w6 hz_w6)
      have hF3 := HQ2.out.2.1.grown hg_w6 (fun g0 hg0 => by rw [← Option.some.inj hg0]; exact HZz.out.1) HBr.out
      have hE3 := HQ2.out.1.grown hg_w6 (fun e => (blk_ne6 HQ2.out.2.2.1 HQ2.out.1.box (by decide)) (Option.some.inj e)) (.inr (HQ2.out.1.apart HQ2.out.2.2.1 (by decide)))
      have HQ0 := hide (And.intro hE3 (And.intro (HL.out.fr.trans hF3) (And.intro (hF3.blk_ HL.out.bx (blk_ne6 HL.out.bx HL.out.rd.box (by decide)) (HL.out.rd.apart HL.out.bx (by decide))) (And.intro (HL.out.gx.rdf (B0 := B0) (y := wb) HGR.out hF3) (show T.In w6 (fun b => y.heap.size + 1 ≤ b ∧ b < w6.heap.size ∧ some b ≠ u3.ownBlock ∧ ov3.ownBlock ≠ some b) t2 B2 from HQ2.out.2.2.2.same (fun b hb => hg_w6.block b hb.2.1 (fun e => hb.1.2 (Option.some.inj e))) fun b hb => ⟨by have h1 := HL.out.bx.lt; have h2 := hb.1.1; omega, Nat.lt_of_lt_of_le hb.2.1 hg_w6.size, fun e => by have h1 := (HL.out.gx.lt b e.symm).2; have h2 := hb.1.1; omega, hb.2.2⟩)))))
      have HBw := hide (Nat.le_trans HBr.out hF3.below.size)
      have HBX := hide hrow_w6
      clear hF3 hE3 hg_w6 hrow_w6 hz_w6 HQ2
      simp only [Hd.cells] at HBX
      have c1 := HBX.out.cell
      have hal := (Below.refl w6.heap.size w6).alloc (Nat.le_refl _) (.cells #[.int .i64 t2.hd.kind, .int .u64 t2.hd.s0, .int .u64 t2.hd.s1, .int .u64 t2.hd.s2, .int .u64 t2.hd.s3, .slice B2 t2.subs.length cc2, .int .i64 t2.hd.num, .int .i64 t2.hd.min, .int .i64 t2.hd.max, .bool t2.hd.bare] 27)
      have HQ := hide (And.intro (HQ0.out.1.next hal) (And.intro (HQ0.out.2.1.next HBw.out hal) (And.intro (HQ0.out.2.2.1.next hal) (And.intro (HQ0.out.2.2.2.1.next hal) (HQ0.out.2.2.2.2.same (ok' := fun b => y.heap.size + 1 ≤ b ∧ b < (w6.alloc (.cells #[.int .i64 t2.hd.kind, .int .u64 t2.hd.s0, .int .u64 t2.hd.s1, .int .u64 t2.hd.s2, .int .u64 t2.hd.s3, .slice B2 t2.subs.length cc2, .int .i64 t2.hd.num, .int .i64 t2.hd.min, .int .i64 t2.hd.max, .bool t2.hd.bare] 27)).heap.size ∧ some b ≠ u3.ownBlock ∧ ov3.ownBlock ≠ some b) ((same_of_below hal).mono fun b hb => hb.2.1) fun b hb => ⟨hb.1, Nat.lt_of_lt_of_le hb.2.1 hal.size, hb.2.2⟩)))))
      have HBz := hide (fun b (hb : ov3.ownBlock = some b) => (HQ.out.1.lt b hb).2)
      have HBs := hide (show y.heap.size + 1 ≤ (w6.alloc (.cells #[.int .i64 t2.hd.kind, .int .u64 t2.hd.s0, .int .u64 t2.hd.s1, .int .u64 t2.hd.s2, .int .u64 t2.hd.s3, .slice B2 t2.subs.length cc2, .int .i64 t2.hd.num, .int .i64 t2.hd.min, .int .i64 t2.hd.max, .bool t2.hd.bare] 27)).heap.size from HQ.out.2.2.1.lt)
      have hll : acc.length < 1000000 := by omega
      clear hal
      go_wp2_with (at_builtin; refine wpList_append_nodeX rfl _ _ rfl (y.heap.size + 1) _ _ acc rfl HQ.out.2.2.2.1 HBz.out (t2) B2 cc2 w6.heap.size 1 rfl (Blk.new _ _ _) HQ.out.2.2.2.2 hll HBs.out ?_)
      intro v5 w5 hgx5 hg5
      have hap := HQ.out.2.2.2.1.apart
      have hlt := HQ.out.2.2.2.1.lt
      have hgr := HGR.out
      have n1 : u3.ownBlock ≠ some gr := fun e => by have := (hlt gr e).1; omega
      have n2 : u3.ownBlock ≠ some y.heap.size := fun e => by have := (hlt _ e).1; omega
      have HF := hide (show LpS B0 gr p fl d ov y w5 v5 I G ((c2 + 1 : Nat) : Int) pl (acc ++ [t2]) ov3 from ⟨HQ.out.1.grown hg5 n1 (by
        by_cases hov : ov3.ownBlock = none
        ·exact .inl hov
        ·refine .inr fun e => ?_
         cases hl : u3.ownBlock with
         | none => rw [hl] at e; exact hov e
         | some b => rw [hl] at e; exact hap b hl e), HQ.out.2.1.grown hg5 (fun b e => by have := (hlt b e).1; omega) HB.out, HQ.out.2.2.1.grown hg5 (fun e => n2 e.symm), hgx5⟩)
      clear hgx5 hg5 hap hlt hgr n1 n2
      clear c1
      go_wp2_with fail
      go_roundw
      case rel => exact .inr ⟨c2, I, G, pl, acc ++ [t2], ov3, HF.out, by simp; omega, HE4.out.symm⟩
      case measure => rw [rsLeft_bad HF.out.rd, HMs.out]; omega
     | ok t2 k2 q2 =>
      have hf2 := withRep_at hfine.2.1 hq2
      simp only [hq2] at hz2 HE4
      obtain ⟨B2, cc2, ov3, rfl, hin, hE, hF⟩ := hz2
      have HQ2 := hide (And.intro hE (And.intro (HQ1.out.2.1.trans hF) (And.intro (hF.blk_ HQ1.out.2.2.1 (blk_ne6 HQ1.out.2.2.1 HQ1.out.1.box (by decide)) (HQ1.out.1.apart HQ1.out.2.2.1 (by decide))) hin)))
      have HB2 := hide (Nat.le_trans HB1.out hF.below.size)
      clear hE hF hin HQ1 hq2
      go_upto_region 11 with (refine wpList_store_node rfl _ _ rfl z.heap.size _ _ _ _ _ rfl rfl HQ2.out.2.2.1 rfl ?_; intro w6 hrow_w6 hg_w6 hz_w6)
      have hF3 := HQ2.out.2.1.grown hg_w6 (fun g0 hg0 => by rw [← Option.some.inj hg0]; exact HZz.out.1) HBr.out
      have hE3 := HQ2.out.1.grown hg_w6 (fun e => (blk_ne6 HQ2.out.2.2.1 HQ2.out.1.box (by decide)) (Option.some.inj e)) (.inr (HQ2.out.1.apart HQ2.out.2.2.1 (by decide)))
      have HQ0 := hide (And.intro hE3 (And.intro (HL.out.fr.trans hF3) (And.intro (hF3.blk_ HL.out.bx (blk_ne6 HL.out.bx HL.out.rd.box (by decide)) (HL.out.rd.apart HL.out.bx (by decide))) (And.intro (HL.out.gx.rdf (B0 := B0) (y := wb) HGR.out hF3) (show T.In w6 (fun b => y.heap.size + 1 ≤ b ∧ b < w6.heap.size ∧ some b ≠ u3.ownBlock ∧ ov3.ownBlock ≠ some b) t2 B2 from HQ2.out.2.2.2.same (fun b hb => hg_w6.block b hb.2.1 (fun e => hb.1.2 (Option.some.inj e))) fun b hb => ⟨by have h1 := HL.out.bx.lt; have h2 := hb.1.1; omega, Nat.lt_of_lt_of_le hb.2.1 hg_w6.size, fun e => by have h1 := (HL.out.gx.lt b e.symm).2; have h2 := hb.1.1; omega, hb.2.2⟩)))))
      have HBw := hide (Nat.le_trans HBr.out hF3.below.size)
      have HBX := hide hrow_w6
      clear hF3 hE3 hg_w6 hrow_w6 hz_w6 HQ2
      simp only [Hd.cells] at HBX
      have c1 := HBX.out.cell
      have hal := (Below.refl w6.heap.size w6).alloc (Nat.le_refl _) (.cells #[.int .i64 t2.hd.kind, .int .u64 t2.hd.s0, .int .u64 t2.hd.s1, .int .u64 t2.hd.s2, .int .u64 t2.hd.s3, .slice B2 t2.subs.length cc2, .int .i64 t2.hd.num, .int .i64 t2.hd.min, .int .i64 t2.hd.max, .bool t2.hd.bare] 27)
      have HQ := hide (And.intro (HQ0.out.1.next hal) (And.intro (HQ0.out.2.1.next HBw.out hal) (And.intro (HQ0.out.2.2.1.next hal) (And.intro (HQ0.out.2.2.2.1.next hal) (HQ0.out.2.2.2.2.same (ok' := fun b => y.heap.size + 1 ≤ b ∧ b < (w6.alloc (.cells #[.int .i64 t2.hd.kind, .int .u64 t2.hd.s0, .int .u64 t2.hd.s1, .int .u64 t2.hd.s2, .int .u64 t2.hd.s3, .slice B2 t2.subs.length cc2, .int .i64 t2.hd.num, .int .i64 t2.hd.min, .int .i64 t2.hd.max, .bool t2.hd.bare] 27)).heap.size ∧ some b ≠ u3.ownBlock ∧ ov3.ownBlock ≠ some b) ((same_of_below hal).mono fun b hb => hb.2.1) fun b hb => ⟨hb.1, Nat.lt_of_lt_of_le hb.2.1 hal.size, hb.2.2⟩)))))
      have HBz := hide (fun b (hb : ov3.ownBlock = some b) => (HQ.out.1.lt b hb).2)
      have HBs := hide (show y.heap.size + 1 ≤ (w6.alloc (.cells #[.int .i64 t2.hd.kind, .int .u64 t2.hd.s0, .int .u64 t2.hd.s1, .int .u64 t2.hd.s2, .int .u64 t2.hd.s3, .slice B2 t2.subs.length cc2, .int .i64 t2.hd.num, .int .i64 t2.hd.min, .int .i64 t2.hd.max, .bool t2.hd.bare] 27)).heap.size from HQ.out.2.2.1.lt)
      have hll : acc.length < 1000000 := by omega
      clear hal
      go_wp2_with (at_builtin; refine wpList_append_nodeX rfl _ _ rfl (y.heap.size + 1) _ _ acc rfl HQ.out.2.2.2.1 HBz.out (t2) B2 cc2 w6.heap.size 1 rfl (Blk.new _ _ _) HQ.out.2.2.2.2 hll HBs.out ?_)
      intro v5 w5 hgx5 hg5
      have hap := HQ.out.2.2.2.1.apart
      have hlt := HQ.out.2.2.2.1.lt
      have hgr := HGR.out
      have n1 : u3.ownBlock ≠ some gr := fun e => by have := (hlt gr e).1; omega
      have n2 : u3.ownBlock ≠ some y.heap.size := fun e => by have := (hlt _ e).1; omega
      have HF := hide (show LpS B0 gr p fl d ov y w5 v5 (k2 : Int) (q2 : Int) 0 0 (acc ++ [t2]) ov3 from ⟨HQ.out.1.grown hg5 n1 (by
        by_cases hov : ov3.ownBlock = none
        ·exact .inl hov
        ·refine .inr fun e => ?_
         cases hl : u3.ownBlock with
         | none => rw [hl] at e; exact hov e
         | some b => rw [hl] at e; exact hap b hl e), HQ.out.2.1.grown hg5 (fun b e => by have := (hlt b e).1; omega) HB.out, HQ.out.2.2.1.grown hg5 (fun e => n2 e.symm), hgx5⟩)
      clear hgx5 hg5 hap hlt hgr n1 n2
      clear c1
      go_wp2_with fail
      go_roundw
      case rel => exact .inl ⟨k2, q2, n, acc ++ [t2], ov3, HF.out, by omega, by omega, by omega, by simp; omega, by omega, HE4.out⟩
      case measure => rw [rsLeft_ok HF.out.rd, HMs.out]; omega
end Go.Proofs.YtfehmfifjidjjaaGreatDoor

/-! ## RefEreH -/
namespace Go.Proofs.YtfehmfifjidjjaaGreatDoor
open Go.RowKit
set_option maxRecDepth 100000 in
set_option maxHeartbeats 4000000 in
theorem refPattern_any {y : World} {gr B0 : Nat} {p : ByteArray} {i : Nat} {fl : Int} {g : Nat} {ov : Value} {d : Nat} {deeper : Option (Nat → Nat → PR)} (hG : GroupR B0 gr p fl d deeper) (hdf : ∀ f, deeper = some f → ∀ i g, i ≤ p.size → (f i g).Fine p i g 0) (h : RdS y gr B0 p (i : Int) fl (g : Int) ov d 0 0) (hp : p.size ≤ 1024) (hi : i ≤ p.size) (hgi : g ≤ i) (hB0 : B0 ≤ y.heap.size) :
  Calls Tryz.prog 50 #[.pointer (some ⟨gr, 0, none⟩)] y (SPost B0 gr p fl d (fun b => y.heap.size ≤ b) ov y (pattE p (!decide (bits .and .i64 fl 2 = 0)) (!decide (bits .and .i64 fl 4 = 0)) deeper (decide (0 < d)) (p.size + 1) i g [])) := by
 have HPc := hide (fun (y' : World) (ov' : Value) (j g' : Nat) (h' : RdS y' gr B0 p (j : Int) fl (g' : Int) ov' d 0 0) (hj : j ≤ p.size) (hgj : g' ≤ j) (hB' : B0 ≤ y'.heap.size) => And.intro (refBranch_any hG hdf h' hp hj hgj hB') (fun t k q => branchE_fine (ic := !decide (bits .and .i64 fl 2 = 0)) (nl := !decide (bits .and .i64 fl 4 = 0)) (deep := decide (0 < d)) hdf (p.size + 1) j g' [] t k q hj))
 clear hG
 obtain ⟨ic, hic⟩ : ∃ ic, ic = !decide (bits .and .i64 fl 2 = 0) := ⟨_, rfl⟩
 obtain ⟨nl, hnl⟩ : ∃ nl, nl = !decide (bits .and .i64 fl 4 = 0) := ⟨_, rfl⟩
 rw [← hic, ← hnl] at HPc ⊢
 clear hic hnl hdf
 have hz0 := Blk.new y 27 zeroCells
 have hbel := (Below.refl y.heap.size y).alloc (Nat.le_refl _) (.cells zeroCells 27)
 have H0 := hide (And.intro (h.next hbel) (And.intro (RdF.of_below (gr := gr) (x := ov.ownBlock) hB0 hbel) hz0))
 have HB := hide hB0
 have HBW := hide (Nat.le_trans hB0 hbel.size)
 have HGY := hide h.box.lt
 clear hz0 hbel h hB0
 unfold zeroCells at *
 have HZ := hide (World.size_alloc y (.cells #[.int .i64 0, .int .u64 0, .int .u64 0, .int .u64 0, .int .u64 0, .slice none 0 0, .int .i64 0, .int .i64 0, .int .i64 0, .bool false] 27))
 obtain ⟨res, hres⟩ : ∃ res, res = pattE p ic nl deeper (decide (0 < d)) (p.size + 1) i g [] := ⟨_, rfl⟩
 rw [← hres]
 rw [pattE_step] at hres
 have HRS := hide hres
 clear hres
 have HGR := hide (show gr < y.heap.size + 1 from Nat.lt_succ_of_lt HGY.out)
 go_enter Tryz.func50, Tryz.ntmps50
 go_upto_region 1 with fail
 generalize (y.alloc (.cells #[.int .i64 0, .int .u64 0, .int .u64 0, .int .u64 0, .int .u64 0, .slice none 0 0, .int .i64 0, .int .i64 0, .int .i64 0, .bool false] 27)) = W at *
 have HP0 := hide (HPc.out W ov i g H0.out.1 hi hgi HBW.out)
 go_cut [3] (fun lv wr => (∃ (j g' n : Nat) (acc : List T) (ov' : Value), LpS B0 gr p fl d ov y wr lv (j : Int) (g' : Int) 0 0 acc ov' ∧ i ≤ j ∧ j ≤ p.size ∧ g' ≤ j ∧ acc.length ≤ j + 1 ∧ acc ≠ [] ∧ p.size ≤ n + j ∧ pattT p ic nl deeper (decide (0 < d)) n j g' acc = res) ∨ (∃ (c : Nat) (I G pl : Int) (acc : List T) (ov' : Value), LpS B0 gr p fl d ov y wr lv I G ((c + 1 : Nat) : Int) pl acc ov' ∧ acc.length ≤ 5000 ∧ acc ≠ [] ∧ res = .bad c pl))
 case first =>
  go_wp2_with fail
  refine HP0.out.1.mono ?_
  rintro e z hz
  cases hq : branchE p ic nl deeper (decide (0 < d)) (p.size + 1) i g [] with
  | bad c2 pl =>
   rw [hq] at hz HRS
   obtain ⟨t, B, cc, ov2, I, G', rfl, hin, hE, hF⟩ := hz
   have hal := (Below.refl z.heap.size z).alloc (Nat.le_refl _) (.cells #[.int .i64 t.hd.kind, .int .u64 t.hd.s0, .int .u64 t.hd.s1, .int .u64 t.hd.s2, .int .u64 t.hd.s3, .slice B t.subs.length cc, .int .i64 t.hd.num, .int .i64 t.hd.min, .int .i64 t.hd.max, .bool t.hd.bare] 27)
   have hWz : y.heap.size + 1 ≤ z.heap.size := Nat.le_trans H0.out.2.2.lt hF.below.size
   have HF := hide (show LpS B0 gr p fl d ov y (z.alloc (.cells #[.int .i64 t.hd.kind, .int .u64 t.hd.s0, .int .u64 t.hd.s1, .int .u64 t.hd.s2, .int .u64 t.hd.s3, .slice B t.subs.length cc, .int .i64 t.hd.num, .int .i64 t.hd.min, .int .i64 t.hd.max, .bool t.hd.bare] 27)) (.slice (some ⟨z.heap.size, 0, none⟩) 1 1) I G' ((c2 + 1 : Nat) : Int) pl [t] ov2 from ⟨hE.next hal, (H0.out.2.1.trans hF).next (Nat.le_trans HB.out (Nat.le_of_lt hWz)) hal, (hF.blk_ H0.out.2.2 (blk_ne6 H0.out.2.2 H0.out.1.box (by decide)) (H0.out.1.apart H0.out.2.2 (by decide))).next hal, GrowX.one hWz (fun b hb => (hE.lt b hb).2) (hin.same (Same.refl _ _) fun b hb => ⟨by have h1 := hb.1; have h2 := H0.out.2.2.lt; omega, hb.2⟩)⟩)
   clear hal hWz hE hF hin hq
   simp only [Hd.cells]
   go_wp2_with fail
   go_meet
   case rel => exact .inr ⟨c2, I, G', pl, [t], ov2, HF.out, by simp, by simp, HRS.out⟩
  | ok t k q =>
   have hfine := HP0.out.2 t k q hq
   rw [hq] at hz HRS
   obtain ⟨B, cc, ov2, rfl, hin, hE, hF⟩ := hz
   have hal := (Below.refl z.heap.size z).alloc (Nat.le_refl _) (.cells #[.int .i64 t.hd.kind, .int .u64 t.hd.s0, .int .u64 t.hd.s1, .int .u64 t.hd.s2, .int .u64 t.hd.s3, .slice B t.subs.length cc, .int .i64 t.hd.num, .int .i64 t.hd.min, .int .i64 t.hd.max, .bool t.hd.bare] 27)
   have hWz : y.heap.size + 1 ≤ z.heap.size := Nat.le_trans H0.out.2.2.lt hF.below.size
   have HF := hide (show LpS B0 gr p fl d ov y (z.alloc (.cells #[.int .i64 t.hd.kind, .int .u64 t.hd.s0, .int .u64 t.hd.s1, .int .u64 t.hd.s2, .int .u64 t.hd.s3, .slice B t.subs.length cc, .int .i64 t.hd.num, .int .i64 t.hd.min, .int .i64 t.hd.max, .bool t.hd.bare] 27)) (.slice (some ⟨z.heap.size, 0, none⟩) 1 1) (k : Int) (q : Int) 0 0 [t] ov2 from ⟨hE.next hal, (H0.out.2.1.trans hF).next (Nat.le_trans HB.out (Nat.le_of_lt hWz)) hal, (hF.blk_ H0.out.2.2 (blk_ne6 H0.out.2.2 H0.out.1.box (by decide)) (H0.out.1.apart H0.out.2.2 (by decide))).next hal, GrowX.one hWz (fun b hb => (hE.lt b hb).2) (hin.same (Same.refl _ _) fun b hb => ⟨by have h1 := hb.1; have h2 := H0.out.2.2.lt; omega, hb.2⟩)⟩)
   clear hal hWz hE hF hin hq
   simp only [Hd.cells]
   go_wp2_with fail
   go_meet
   case rel => exact .inl ⟨k, q, p.size, [t], ov2, HF.out, by omega, by omega, by omega, by simp, by simp, by omega, HRS.out.symm⟩
 case rest =>
 rename World => W1
 clear HP0 HRS
 go_wp2_with fail
 go_loopw [3] (fun lv wr => (∃ (j g' n : Nat) (acc : List T) (ov' : Value), LpS B0 gr p fl d ov y wr lv (j : Int) (g' : Int) 0 0 acc ov' ∧ i ≤ j ∧ j ≤ p.size ∧ g' ≤ j ∧ acc.length ≤ j + 1 ∧ acc ≠ [] ∧ p.size ≤ n + j ∧ pattT p ic nl deeper (decide (0 < d)) n j g' acc = res) ∨ (∃ (c : Nat) (I G pl : Int) (acc : List T) (ov' : Value), LpS B0 gr p fl d ov y wr lv I G ((c + 1 : Nat) : Int) pl acc ov' ∧ acc.length ≤ 5000 ∧ acc ≠ [] ∧ res = .bad c pl)) (fun _ wr => rsLeft gr p wr)
 case atStart => exact hcut
 case round =>
  clear hcut
  rcases hrel with ⟨j, g', n, acc, ov', hlp, hij, hjp, hgj, hac, hne, hn, hbr⟩ | ⟨c, I, G', pl, acc, ov', hlp, hac, hne, hbr⟩
  case inr =>
   have HL := hide hlp
   have HE := hide hbr
   have HBr := hide (Nat.le_trans HB.out hlp.fr.below.size)
   obtain ⟨cd, hcd⟩ : ∃ cd : Int, cd = ((c + 1 : Nat) : Int) := ⟨_, rfl⟩
   have gc : (cd == 0) = false := by rw [beq_eq_false_iff_ne]; omega
   have c0 := hlp.rd.box.cell
   rw [← hcd] at c0
   clear hlp hbr hcd
   go_upto_region 5 with fail
   clear gc c0
   obtain ⟨Al, cl, hlv, hinl⟩ := HL.out.gx.in_
   subst hlv
   have hsq := refSeveral_any 6 acc Al cl _ wr (fun b hb => hb.2.1) hinl (by omega)
   rw [sev_alt _ hne] at hsq
   have HSq := hide hsq
   clear hinl hsq
   go_wp2_with fail
   refine HSq.out.mono ?_
   rintro e wq ⟨B2, c2, rfl, hin2, hbf⟩
   have HL2 := hide (HL.out.next HBr.out hbf)
   have HT2 := hide hin2
   have HZ2 := hide (show y.heap.size + 1 ≤ wr.heap.size ∧ wr.heap.size ≤ wq.heap.size from ⟨HL.out.bx.lt, hbf.size⟩)
   clear hin2 hbf HSq
   go_wp2_with (refine wpList_store_node rfl _ _ rfl y.heap.size _ _ _ _ _ rfl rfl HL2.out.bx rfl ?_; intro w9 hrow9 hg9 hz9)
   refine bodyPost_ret (node_result rfl _ _ y.heap.size _ _ rfl hrow9) rfl ?_
   exact sbad (t := T.alt acc) HE.out HL2.out.rd HL2.out.fr (HT2.out.same (Same.refl _ _) fun b hb => ⟨by have := hb.1; omega, by have h1 := hb.2.1; have h2 := HZ2.out.2; omega, hb.2.2, by have := hb.1; omega⟩) hg9 HL2.out.bx (Nat.le_refl _) HB.out
  case inl =>
   have HL := hide hlp
   have HE := hide hbr
   have HBr := hide (Nat.le_trans HB.out hlp.fr.below.size)
   have HMs := hide (rsLeft_ok hlp.rd)
   have c0 := hlp.rd.box.cell
   have f0 := hlp.rd.box.frozen
   clear hlp hbr
   unfold pattT at HE
   by_cases h124 : pb p j = 124
   case neg =>
    have HE2 := hide (show res = .ok (T.alt acc) j g' from by rw [← HE.out, if_neg h124])
    have HI := hide (refIsZ_any HL.out.rd j 124 (by decide) hp 124 rfl false (decide_eq_false h124))
    clear HE h124
    go_wp2_with fail
    refine HI.out.mono ?_
    rintro e wI ⟨rfl, hwI⟩
    rw [hwI]
    clear hwI wI HI
    go_upto_region 5 with fail
    clear c0 f0
    obtain ⟨Al, cl, hlv, hinl⟩ := HL.out.gx.in_
    subst hlv
    have hsq := refSeveral_any 6 acc Al cl _ wr (fun b hb => hb.2.1) hinl (by omega)
    rw [sev_alt _ hne] at hsq
    have HSq := hide hsq
    clear hinl hsq
    go_wp2_with fail
    refine HSq.out.mono ?_
    rintro e wq ⟨B2, c2, rfl, hin2, hbf⟩
    have HL2 := hide (HL.out.next HBr.out hbf)
    have HT2 := hide hin2
    have HZ2 := hide (show y.heap.size + 1 ≤ wr.heap.size ∧ wr.heap.size ≤ wq.heap.size from ⟨HL.out.bx.lt, hbf.size⟩)
    clear hin2 hbf HSq
    go_wp2_with (refine wpList_store_node rfl _ _ rfl y.heap.size _ _ _ _ _ rfl rfl HL2.out.bx rfl ?_; intro w9 hrow9 hg9 hz9)
    refine bodyPost_ret (node_result rfl _ _ y.heap.size _ _ rfl hrow9) rfl ?_
    exact sok (t := T.alt acc) HE2.out HL2.out.rd HL2.out.fr (HT2.out.same (Same.refl _ _) fun b hb => ⟨by have := hb.1; omega, by have h1 := hb.2.1; have h2 := HZ2.out.2; omega, hb.2.2, by have := hb.1; omega⟩) hg9 HL2.out.bx (Nat.le_refl _) HB.out
   case pos =>
    have hjs : j < p.size := pb_ins h124 (by decide)
    have HI := hide (refIsZ_any HL.out.rd j 124 (by decide) hp 124 rfl true (decide_eq_true h124))
    cases n with
    | zero => omega
    | succ n =>
    have HE2 := hide (show (match branchE p ic nl deeper (decide (0 < d)) (p.size + 1) (j + 1) g' [] with
     | .bad c pl => .bad c pl
     | .ok t k h => pattT p ic nl deeper (decide (0 < d)) n k h (acc ++ [t])) = res from by rw [← HE.out, if_pos h124, pattE_step]; rfl)
    clear HE h124
    go_wp2_with fail
    refine HI.out.mono ?_
    rintro e wI ⟨rfl, hwI⟩
    rw [hwI]
    clear hwI wI HI
    have HE1 := hide (show (j : Int) + 1 = ((j + 1 : Nat) : Int) from rfl)
    go_upto_region 4 with fail
    rw [HE1.out]
    have HS := hide (HL.out.step HGY.out ((j + 1 : Nat) : Int))
    have HBS := hide (show B0 ≤ (wr.setCell ⟨gr, 1, none⟩ (.int .i64 ((j + 1 : Nat) : Int))).heap.size from by rw [World.size_setCell]; exact HBr.out)
    generalize (wr.setCell ⟨gr, 1, none⟩ (.int .i64 ((j + 1 : Nat) : Int))) = ws at *
    clear c0 f0 HL HBr
    have HPj := hide (HPc.out ws ov' (j + 1) g' HS.out.rd (by omega) (by omega) HBS.out)
    go_wp2_with fail
    refine HPj.out.1.mono ?_
    rintro e z hz
    cases hq : branchE p ic nl deeper (decide (0 < d)) (p.size + 1) (j + 1) g' [] with
    | bad c2 pl =>
     rw [hq] at hz HE2
     obtain ⟨t, B, cc, ov2, I, G', rfl, hin, hE, hF⟩ := hz
     have HQ0 := hide (And.intro hE (And.intro (HS.out.fr.trans hF) (And.intro (hF.blk_ HS.out.bx (blk_ne6 HS.out.bx HS.out.rd.box (by decide)) (HS.out.rd.apart HS.out.bx (by decide))) (And.intro (HS.out.gx.rdf (B0 := B0) (y := ws) HGR.out hF) (show T.In z (fun b => y.heap.size + 1 ≤ b ∧ b < z.heap.size ∧ some b ≠ u3.ownBlock ∧ ov2.ownBlock ≠ some b) t B from hin.same (Same.refl _ _) fun b hb => ⟨by have h1 := HS.out.bx.lt; have h2 := hb.1; omega, hb.2.1, fun e => by have h1 := (HS.out.gx.lt b e.symm).2; have h2 := hb.1; omega, hb.2.2⟩)))))
     have HBw := hide (Nat.le_trans HBS.out hF.below.size)
     clear hE hF hin hq HPj
     simp only [Hd.cells]
     have hal := (Below.refl z.heap.size z).alloc (Nat.le_refl _) (.cells #[.int .i64 t.hd.kind, .int .u64 t.hd.s0, .int .u64 t.hd.s1, .int .u64 t.hd.s2, .int .u64 t.hd.s3, .slice B t.subs.length cc, .int .i64 t.hd.num, .int .i64 t.hd.min, .int .i64 t.hd.max, .bool t.hd.bare] 27)
     have HQ := hide (And.intro (HQ0.out.1.next hal) (And.intro (HQ0.out.2.1.next HBw.out hal) (And.intro (HQ0.out.2.2.1.next hal) (And.intro (HQ0.out.2.2.2.1.next hal) (HQ0.out.2.2.2.2.same (ok' := fun b => y.heap.size + 1 ≤ b ∧ b < (z.alloc (.cells #[.int .i64 t.hd.kind, .int .u64 t.hd.s0, .int .u64 t.hd.s1, .int .u64 t.hd.s2, .int .u64 t.hd.s3, .slice B t.subs.length cc, .int .i64 t.hd.num, .int .i64 t.hd.min, .int .i64 t.hd.max, .bool t.hd.bare] 27)).heap.size ∧ some b ≠ u3.ownBlock ∧ ov2.ownBlock ≠ some b) ((same_of_below hal).mono fun b hb => hb.2.1) fun b hb => ⟨hb.1, Nat.lt_of_lt_of_le hb.2.1 hal.size, hb.2.2⟩)))))
     have HBz := hide (fun b (hb : ov2.ownBlock = some b) => (HQ.out.1.lt b hb).2)
     have HBs := hide (show y.heap.size + 1 ≤ (z.alloc (.cells #[.int .i64 t.hd.kind, .int .u64 t.hd.s0, .int .u64 t.hd.s1, .int .u64 t.hd.s2, .int .u64 t.hd.s3, .slice B t.subs.length cc, .int .i64 t.hd.num, .int .i64 t.hd.min, .int .i64 t.hd.max, .bool t.hd.bare] 27)).heap.size from HQ.out.2.2.1.lt)
     have hll : acc.length < 1000000 := by omega
     clear hal
     go_wp2_with (at_builtin; refine wpList_append_nodeX rfl _ _ rfl (y.heap.size + 1) _ _ acc rfl HQ.out.2.2.2.1 HBz.out (t) B cc z.heap.size 1 rfl (Blk.new _ _ _) HQ.out.2.2.2.2 hll HBs.out ?_)
     intro v5 w5 hgx5 hg5
     have hap := HQ.out.2.2.2.1.apart
     have hlt := HQ.out.2.2.2.1.lt
     have hgr := HGR.out
     have n1 : u3.ownBlock ≠ some gr := fun e => by have := (hlt gr e).1; omega
     have n2 : u3.ownBlock ≠ some y.heap.size := fun e => by have := (hlt _ e).1; omega
     have HF := hide (show LpS B0 gr p fl d ov y w5 v5 I G' ((c2 + 1 : Nat) : Int) pl (acc ++ [t]) ov2 from ⟨HQ.out.1.grown hg5 n1 (by
       by_cases hov : ov2.ownBlock = none
       ·exact .inl hov
       ·refine .inr fun e => ?_
        cases hl : u3.ownBlock with
        | none => rw [hl] at e; exact hov e
        | some b => rw [hl] at e; exact hap b hl e), HQ.out.2.1.grown hg5 (fun b e => by have := (hlt b e).1; omega) HB.out, HQ.out.2.2.1.grown hg5 (fun e => n2 e.symm), hgx5⟩)
     clear hgx5 hg5 hap hlt hgr n1 n2
     go_wp2_with fail
     go_roundw
     case rel => exact .inr ⟨c2, I, G', pl, acc ++ [t], ov2, HF.out, by simp; omega, by simp, HE2.out.symm⟩
     case measure => rw [rsLeft_bad HF.out.rd, HMs.out]; omega
    | ok t k q =>
     have hfine := HPj.out.2 t k q hq
     rw [hq] at hz HE2
     obtain ⟨B, cc, ov2, rfl, hin, hE, hF⟩ := hz
     have HQ0 := hide (And.intro hE (And.intro (HS.out.fr.trans hF) (And.intro (hF.blk_ HS.out.bx (blk_ne6 HS.out.bx HS.out.rd.box (by decide)) (HS.out.rd.apart HS.out.bx (by decide))) (And.intro (HS.out.gx.rdf (B0 := B0) (y := ws) HGR.out hF) (show T.In z (fun b => y.heap.size + 1 ≤ b ∧ b < z.heap.size ∧ some b ≠ u3.ownBlock ∧ ov2.ownBlock ≠ some b) t B from hin.same (Same.refl _ _) fun b hb => ⟨by have h1 := HS.out.bx.lt; have h2 := hb.1; omega, hb.2.1, fun e => by have h1 := (HS.out.gx.lt b e.symm).2; have h2 := hb.1; omega, hb.2.2⟩)))))
     have HBw := hide (Nat.le_trans HBS.out hF.below.size)
     clear hE hF hin hq HPj
     simp only [Hd.cells]
     have hal := (Below.refl z.heap.size z).alloc (Nat.le_refl _) (.cells #[.int .i64 t.hd.kind, .int .u64 t.hd.s0, .int .u64 t.hd.s1, .int .u64 t.hd.s2, .int .u64 t.hd.s3, .slice B t.subs.length cc, .int .i64 t.hd.num, .int .i64 t.hd.min, .int .i64 t.hd.max, .bool t.hd.bare] 27)
     have HQ := hide (And.intro (HQ0.out.1.next hal) (And.intro (HQ0.out.2.1.next HBw.out hal) (And.intro (HQ0.out.2.2.1.next hal) (And.intro (HQ0.out.2.2.2.1.next hal) (HQ0.out.2.2.2.2.same (ok' := fun b => y.heap.size + 1 ≤ b ∧ b < (z.alloc (.cells #[.int .i64 t.hd.kind, .int .u64 t.hd.s0, .int .u64 t.hd.s1, .int .u64 t.hd.s2, .int .u64 t.hd.s3, .slice B t.subs.length cc, .int .i64 t.hd.num, .int .i64 t.hd.min, .int .i64 t.hd.max, .bool t.hd.bare] 27)).heap.size ∧ some b ≠ u3.ownBlock ∧ ov2.ownBlock ≠ some b) ((same_of_below hal).mono fun b hb => hb.2.1) fun b hb => ⟨hb.1, Nat.lt_of_lt_of_le hb.2.1 hal.size, hb.2.2⟩)))))
     have HBz := hide (fun b (hb : ov2.ownBlock = some b) => (HQ.out.1.lt b hb).2)
     have HBs := hide (show y.heap.size + 1 ≤ (z.alloc (.cells #[.int .i64 t.hd.kind, .int .u64 t.hd.s0, .int .u64 t.hd.s1, .int .u64 t.hd.s2, .int .u64 t.hd.s3, .slice B t.subs.length cc, .int .i64 t.hd.num, .int .i64 t.hd.min, .int .i64 t.hd.max, .bool t.hd.bare] 27)).heap.size from HQ.out.2.2.1.lt)
     have hll : acc.length < 1000000 := by omega
     clear hal
     go_wp2_with (at_builtin; refine wpList_append_nodeX rfl _ _ rfl (y.heap.size + 1) _ _ acc rfl HQ.out.2.2.2.1 HBz.out (t) B cc z.heap.size 1 rfl (Blk.new _ _ _) HQ.out.2.2.2.2 hll HBs.out ?_)
     intro v5 w5 hgx5 hg5
     have hap := HQ.out.2.2.2.1.apart
     have hlt := HQ.out.2.2.2.1.lt
     have hgr := HGR.out
     have n1 : u3.ownBlock ≠ some gr := fun e => by have := (hlt gr e).1; omega
     have n2 : u3.ownBlock ≠ some y.heap.size := fun e => by have := (hlt _ e).1; omega
     have HF := hide (show LpS B0 gr p fl d ov y w5 v5 (k : Int) (q : Int) 0 0 (acc ++ [t]) ov2 from ⟨HQ.out.1.grown hg5 n1 (by
       by_cases hov : ov2.ownBlock = none
       ·exact .inl hov
       ·refine .inr fun e => ?_
        cases hl : u3.ownBlock with
        | none => rw [hl] at e; exact hov e
        | some b => rw [hl] at e; exact hap b hl e), HQ.out.2.1.grown hg5 (fun b e => by have := (hlt b e).1; omega) HB.out, HQ.out.2.2.1.grown hg5 (fun e => n2 e.symm), hgx5⟩)
     clear hgx5 hg5 hap hlt hgr n1 n2
     go_wp2_with fail
     go_roundw
     case rel => exact .inl ⟨k, q, n, acc ++ [t], ov2, HF.out, by omega, by omega, by omega, by simp; omega, by simp, by omega, HE2.out⟩
     case measure => rw [rsLeft_ok HF.out.rd, HMs.out]; omega
/-- A pattern in which groups may stand: by how deep they already do. -/
theorem refPatt_all {B0 gr : Nat} {p : ByteArray} {fl : Int} (hp : p.size ≤ 1024) : ∀ (k d : Nat), d + k = 32 →
  PatR B0 gr p fl d (deepE p (!decide (bits .and .i64 fl 2 = 0)) (!decide (bits .and .i64 fl 4 = 0)) k (decide (0 < d)))
 | 0, d, hd => fun y ov i g h hi hgi hB => by
  rw [deepE]
  exact refPattern_any (refGroup_any hp (by omega) (.inl ⟨rfl, by omega⟩)) (fun f hf => by cases hf) h hp hi hgi hB
 | k + 1, d, hd => fun y ov i g h hi hgi hB => by
  have ih := refPatt_all hp (B0 := B0) (gr := gr) (fl := fl) k (d + 1) (by omega)
  rw [decide_eq_true (show 0 < d + 1 by omega)] at ih
  have hfine : ∀ i g, i ≤ p.size → (deepE p (!decide (bits .and .i64 fl 2 = 0)) (!decide (bits .and .i64 fl 4 = 0)) k true i g).Fine p i g 0 := fun i g hi => deepE_fine k true i g hi
  rw [deepE]
  exact refPattern_any (refGroup_any hp (by omega) (.inr ⟨_, rfl, by omega, ih, hfine⟩)) (fun f hf => by injection hf with hf; subst hf; exact hfine) h hp hi hgi hB
end Go.Proofs.YtfehmfifjidjjaaGreatDoor

/-! ## RefEreI -/
namespace Go.Proofs.YtfehmfifjidjjaaGreatDoor
open Go.RowKit

theorem Tryz.sizeAns6 : (Tryz.prog.info? 43).map (·.size) = some 13 := by kernel_rfl
def AnsIs (r : PR) (lo : Nat) (e : Ending) (w' : World) : Prop := match r with
 | .ok t _ g => ∃ B c, e = .returned (.agg #[.int .i64 t.hd.kind, .int .u64 t.hd.s0, .int .u64 t.hd.s1, .int .u64 t.hd.s2, .int .u64 t.hd.s3, .slice B t.subs.length c, .int .i64 t.hd.num, .int .i64 t.hd.min, .int .i64 t.hd.max, .bool t.hd.bare, .int .i64 (g : Int), .int .i64 0, .int .i64 0]) ∧ T.In w' (fun b => lo ≤ b ∧ b < w'.heap.size) t B
 | .bad c pl => e = .returned (.agg #[.int .i64 0, .int .u64 0, .int .u64 0, .int .u64 0, .int .u64 0, .slice none 0 0, .int .i64 0, .int .i64 0, .int .i64 0, .bool false, .int .i64 0, .int .i64 ((c + 1 : Nat) : Int), .int .i64 pl])
def DoneIs (r : PR) (lo gr B0 : Nat) (ov : Value) (y : World) (e : Ending) (y' : World) : Prop := AnsIs r lo e y' ∧ RdF gr B0 ov.ownBlock ov.ownBlock y y'
section
variable {r : PR} {lo : Nat} {w w' : World}
theorem ans_bad {c : Nat} {pl : Int} (hr : r = .bad c pl) : AnsIs r lo (.returned (.agg #[.int .i64 0, .int .u64 0, .int .u64 0, .int .u64 0, .int .u64 0, .slice none 0 0, .int .i64 0, .int .i64 0, .int .i64 0, .bool false, .int .i64 0, .int .i64 ((c + 1 : Nat) : Int), .int .i64 pl])) w' := by subst hr; exact rfl
theorem ans_ok {t : T} {j g cc : Nat} {B : Option Addr} (hr : r = .ok t j g) (h : T.In w' (fun b => lo ≤ b ∧ b < w'.heap.size) t B) : AnsIs r lo (.returned (.agg #[.int .i64 t.hd.kind, .int .u64 t.hd.s0, .int .u64 t.hd.s1, .int .u64 t.hd.s2, .int .u64 t.hd.s3, .slice B t.subs.length cc, .int .i64 t.hd.num, .int .i64 t.hd.min, .int .i64 t.hd.max, .bool t.hd.bare, .int .i64 (g : Int), .int .i64 0, .int .i64 0])) w' := by subst hr; exact ⟨B, cc, rfl, h⟩
end
set_option maxRecDepth 100000 in
set_option maxHeartbeats 2000000 in
theorem refDone_bad {y : World} {gr B0 c lo : Nat} {p : ByteArray} {I fl G pl : Int} {ov : Value} {d : Nat} (h : RdS y gr B0 p I fl G ov d ((c + 1 : Nat) : Int) pl) (hB0 : B0 ≤ y.heap.size) (t : T) (B : Option Addr) (cc : Nat) :
  Calls Tryz.prog 46 #[.pointer (some ⟨gr, 0, none⟩), .agg #[.int .i64 t.hd.kind, .int .u64 t.hd.s0, .int .u64 t.hd.s1, .int .u64 t.hd.s2, .int .u64 t.hd.s3, .slice B t.subs.length cc, .int .i64 t.hd.num, .int .i64 t.hd.min, .int .i64 t.hd.max, .bool t.hd.bare]] y (DoneIs (.bad c pl) lo gr B0 ov y) := by
 have hal1 := (Below.refl y.heap.size y).alloc (Nat.le_refl _) (.cells #[.int .i64 t.hd.kind, .int .u64 t.hd.s0, .int .u64 t.hd.s1, .int .u64 t.hd.s2, .int .u64 t.hd.s3, .slice B t.subs.length cc, .int .i64 t.hd.num, .int .i64 t.hd.min, .int .i64 t.hd.max, .bool t.hd.bare] 27)
 have hsz1 : (y.alloc (.cells #[.int .i64 t.hd.kind, .int .u64 t.hd.s0, .int .u64 t.hd.s1, .int .u64 t.hd.s2, .int .u64 t.hd.s3, .slice B t.subs.length cc, .int .i64 t.hd.num, .int .i64 t.hd.min, .int .i64 t.hd.max, .bool t.hd.bare] 27)).heap.size = y.heap.size + 1 := World.size_alloc _ _
 have hal := hal1.alloc hal1.size (.cells #[.int .i64 0, .int .u64 0, .int .u64 0, .int .u64 0, .int .u64 0, .slice none 0 0, .int .i64 0, .int .i64 0, .int .i64 0, .bool false, .int .i64 0, .int .i64 0, .int .i64 0] 43)
 have hR := Blk.new (y.alloc (.cells #[.int .i64 t.hd.kind, .int .u64 t.hd.s0, .int .u64 t.hd.s1, .int .u64 t.hd.s2, .int .u64 t.hd.s3, .slice B t.subs.length cc, .int .i64 t.hd.num, .int .i64 t.hd.min, .int .i64 t.hd.max, .bool t.hd.bare] 27)) 43 #[.int .i64 0, .int .u64 0, .int .u64 0, .int .u64 0, .int .u64 0, .slice none 0 0, .int .i64 0, .int .i64 0, .int .i64 0, .bool false, .int .i64 0, .int .i64 0, .int .i64 0]
 have hT := (Blk.new y 27 #[.int .i64 t.hd.kind, .int .u64 t.hd.s0, .int .u64 t.hd.s1, .int .u64 t.hd.s2, .int .u64 t.hd.s3, .slice B t.subs.length cc, .int .i64 t.hd.num, .int .i64 t.hd.min, .int .i64 t.hd.max, .bool t.hd.bare]).alloc (.cells #[.int .i64 0, .int .u64 0, .int .u64 0, .int .u64 0, .int .u64 0, .slice none 0 0, .int .i64 0, .int .i64 0, .int .i64 0, .bool false, .int .i64 0, .int .i64 0, .int .i64 0] 43)
 rw [hsz1] at hR
 have H0 := hide (And.intro (h.next hal) (And.intro hR (And.intro (RdF.of_below (gr := gr) (x := ov.ownBlock) hB0 hal) hT)))
 have HB := hide hB0
 clear hal1 hsz1 hal hR hT h hB0
 obtain ⟨cd, hcd⟩ : ∃ cd : Int, cd = ((c + 1 : Nat) : Int) := ⟨_, rfl⟩
 have gc : (cd == 0) = false := by rw [beq_eq_false_iff_ne]; omega
 have gn : (cd != 0) = true := by rw [bne_iff_ne]; omega
 go_enter Tryz.func46, Tryz.ntmps46
 go_upto_region 1 with fail
 generalize ((y.alloc (.cells #[.int .i64 t.hd.kind, .int .u64 t.hd.s0, .int .u64 t.hd.s1, .int .u64 t.hd.s2, .int .u64 t.hd.s3, .slice B t.subs.length cc, .int .i64 t.hd.num, .int .i64 t.hd.min, .int .i64 t.hd.max, .bool t.hd.bare] 27)).alloc (.cells #[.int .i64 0, .int .u64 0, .int .u64 0, .int .u64 0, .int .u64 0, .slice none 0 0, .int .i64 0, .int .i64 0, .int .i64 0, .bool false, .int .i64 0, .int .i64 0, .int .i64 0] 43)) = W at *
 have c0 := H0.out.1.box.cell
 rw [← hcd] at c0
 have H0b := hide (And.intro H0.out.1 (And.intro H0.out.2.1 H0.out.2.2.1))
 go_upto_region 4 with fail
 go_still_tail 9, (by kernel_rfl)
 change wpList _ _ _ _ _ W.drew
 generalize hwd : W.drew = wd
 have hbd : Below W.heap.size W wd := by rw [← hwd]; exact (Below.refl _ _).drew
 have HD := hide (And.intro (H0b.out.2.1.next hbd) (H0b.out.2.2.next (Nat.le_trans HB.out H0b.out.2.2.below.size) hbd))
 clear hbd hwd c0
 go_wp2_with (refine wpList_store_row rfl _ _ _ rfl (y.heap.size + 1) 0 _ _ _ rfl rfl HD.out.1 Tryz.sizeAns6 (by simp) (by simp [Value.oneCell']) ?_)
 intro w9 hrow9 hg9 hz9
 have hrow := hrow9.out
 rw [splice_full (by rfl)] at hrow
 go_wp2_with fail
 refine bodyPost_ret (results_cell_row rfl _ _ (y.heap.size + 1) _ _ (0, 0) _ rfl hrow Tryz.underlying43 rfl Tryz.sizeAns6) rfl ?_
 have hfin := HD.out.2.grown hg9 (fun q hq => by rw [← Option.some.inj hq]; omega) HB.out
 exact ⟨ans_bad rfl, hfin⟩
set_option maxRecDepth 100000 in
set_option maxHeartbeats 2000000 in
theorem refDone_ok {y : World} {gr B0 i g lo : Nat} {p : ByteArray} {fl : Int} {ov : Value} {d : Nat} (h : RdS y gr B0 p (i : Int) fl (g : Int) ov d 0 0) (hB0 : B0 ≤ y.heap.size) (hp : p.size ≤ 1024) (t : T) (B : Option Addr) (cc : Nat) (hnd : t.nodes ≤ 1000000) (hin : T.In y (fun b => (lo ≤ b ∧ b ≠ gr) ∧ b < y.heap.size) t B) :
  Calls Tryz.prog 46 #[.pointer (some ⟨gr, 0, none⟩), .agg #[.int .i64 t.hd.kind, .int .u64 t.hd.s0, .int .u64 t.hd.s1, .int .u64 t.hd.s2, .int .u64 t.hd.s3, .slice B t.subs.length cc, .int .i64 t.hd.num, .int .i64 t.hd.min, .int .i64 t.hd.max, .bool t.hd.bare]] y (DoneIs (wholeP p (.ok t i g)) lo gr B0 ov y) := by
 have hal1 := (Below.refl y.heap.size y).alloc (Nat.le_refl _) (.cells #[.int .i64 t.hd.kind, .int .u64 t.hd.s0, .int .u64 t.hd.s1, .int .u64 t.hd.s2, .int .u64 t.hd.s3, .slice B t.subs.length cc, .int .i64 t.hd.num, .int .i64 t.hd.min, .int .i64 t.hd.max, .bool t.hd.bare] 27)
 have hsz1 : (y.alloc (.cells #[.int .i64 t.hd.kind, .int .u64 t.hd.s0, .int .u64 t.hd.s1, .int .u64 t.hd.s2, .int .u64 t.hd.s3, .slice B t.subs.length cc, .int .i64 t.hd.num, .int .i64 t.hd.min, .int .i64 t.hd.max, .bool t.hd.bare] 27)).heap.size = y.heap.size + 1 := World.size_alloc _ _
 have hal := hal1.alloc hal1.size (.cells #[.int .i64 0, .int .u64 0, .int .u64 0, .int .u64 0, .int .u64 0, .slice none 0 0, .int .i64 0, .int .i64 0, .int .i64 0, .bool false, .int .i64 0, .int .i64 0, .int .i64 0] 43)
 have hR := Blk.new (y.alloc (.cells #[.int .i64 t.hd.kind, .int .u64 t.hd.s0, .int .u64 t.hd.s1, .int .u64 t.hd.s2, .int .u64 t.hd.s3, .slice B t.subs.length cc, .int .i64 t.hd.num, .int .i64 t.hd.min, .int .i64 t.hd.max, .bool t.hd.bare] 27)) 43 #[.int .i64 0, .int .u64 0, .int .u64 0, .int .u64 0, .int .u64 0, .slice none 0 0, .int .i64 0, .int .i64 0, .int .i64 0, .bool false, .int .i64 0, .int .i64 0, .int .i64 0]
 have hT := (Blk.new y 27 #[.int .i64 t.hd.kind, .int .u64 t.hd.s0, .int .u64 t.hd.s1, .int .u64 t.hd.s2, .int .u64 t.hd.s3, .slice B t.subs.length cc, .int .i64 t.hd.num, .int .i64 t.hd.min, .int .i64 t.hd.max, .bool t.hd.bare]).alloc (.cells #[.int .i64 0, .int .u64 0, .int .u64 0, .int .u64 0, .int .u64 0, .slice none 0 0, .int .i64 0, .int .i64 0, .int .i64 0, .bool false, .int .i64 0, .int .i64 0, .int .i64 0] 43)
 rw [hsz1] at hR
 have H0 := hide (And.intro (h.next hal) (And.intro hR (And.intro (RdF.of_below (gr := gr) (x := ov.ownBlock) hB0 hal) hT)))
 have HB := hide hB0
 have HIN := hide (show T.In ((y.alloc (.cells #[.int .i64 t.hd.kind, .int .u64 t.hd.s0, .int .u64 t.hd.s1, .int .u64 t.hd.s2, .int .u64 t.hd.s3, .slice B t.subs.length cc, .int .i64 t.hd.num, .int .i64 t.hd.min, .int .i64 t.hd.max, .bool t.hd.bare] 27)).alloc (.cells #[.int .i64 0, .int .u64 0, .int .u64 0, .int .u64 0, .int .u64 0, .slice none 0 0, .int .i64 0, .int .i64 0, .int .i64 0, .bool false, .int .i64 0, .int .i64 0, .int .i64 0] 43)) (fun b => (lo ≤ b ∧ b ≠ gr) ∧ b < y.heap.size) t B from hin.same ((same_of_below hal).mono fun b hb => hb.2) fun b hb => hb)
 have HSW := hide (show y.heap.size + 2 ≤ ((y.alloc (.cells #[.int .i64 t.hd.kind, .int .u64 t.hd.s0, .int .u64 t.hd.s1, .int .u64 t.hd.s2, .int .u64 t.hd.s3, .slice B t.subs.length cc, .int .i64 t.hd.num, .int .i64 t.hd.min, .int .i64 t.hd.max, .bool t.hd.bare] 27)).alloc (.cells #[.int .i64 0, .int .u64 0, .int .u64 0, .int .u64 0, .int .u64 0, .slice none 0 0, .int .i64 0, .int .i64 0, .int .i64 0, .bool false, .int .i64 0, .int .i64 0, .int .i64 0] 43)).heap.size from by rw [World.size_alloc, hsz1]; omega)
 clear hal1 hsz1 hal hR hT h hB0 hin
 obtain ⟨res, hres⟩ : ∃ res, res = wholeP p (.ok t i g) := ⟨_, rfl⟩
 rw [← hres]
 have HRS := hide hres
 clear hres
 go_enter Tryz.func46, Tryz.ntmps46
 go_upto_region 1 with fail
 generalize ((y.alloc (.cells #[.int .i64 t.hd.kind, .int .u64 t.hd.s0, .int .u64 t.hd.s1, .int .u64 t.hd.s2, .int .u64 t.hd.s3, .slice B t.subs.length cc, .int .i64 t.hd.num, .int .i64 t.hd.min, .int .i64 t.hd.max, .bool t.hd.bare] 27)).alloc (.cells #[.int .i64 0, .int .u64 0, .int .u64 0, .int .u64 0, .int .u64 0, .slice none 0 0, .int .i64 0, .int .i64 0, .int .i64 0, .bool false, .int .i64 0, .int .i64 0, .int .i64 0] 43)) = W at *
 have c0 := H0.out.1.box.cell
 have ct := H0.out.2.2.2.cell
 have HSz := hide (refSizeAll_gen t B cc W (.inl hnd) (HIN.out.same (Same.refl _ _) fun b hb => by have h1 := hb.2; have h2 := HSW.out; omega))
 simp only [Hd.cells] at HSz
 go_wp2_with fail
 refine HSz.out.mono ?_
 rintro e w3 ⟨rfl, hb3⟩
 have H3 := hide (And.intro (H0.out.1.next hb3) (And.intro (H0.out.2.1.next hb3) (And.intro (H0.out.2.2.1.next (Nat.le_trans HB.out H0.out.2.2.1.below.size) hb3) (H0.out.2.2.2.next hb3))))
 have HB3 := hide (show B0 ≤ w3.heap.size from Nat.le_trans HB.out H3.out.2.2.1.below.size)
 have HIN3 := hide (show T.In w3 (fun b => (lo ≤ b ∧ b ≠ gr) ∧ b < y.heap.size) t B from HIN.out.same ((same_of_below hb3).mono fun b hb => by have h1 := hb.2; have h2 := HSW.out; omega) fun b hb => hb)
 have HS3 := hide (Nat.le_trans HSW.out hb3.size)
 clear hb3 HSz c0 ct
 generalize hfz : t.fullSize = fz at *
 have HFZ := hide hfz
 clear hfz
 have c0 := H3.out.1.box.cell
 have ct := H3.out.2.2.2.cell
 by_cases hbig : 2000 < fz
 ·have HE := hide (show res = .bad 9 p.size from by rw [HRS.out]; unfold wholeP; simp only; rw [if_pos (by rw [HFZ.out]; exact hbig)])
  have g1 : decide (2000 < fz) = true := decide_eq_true hbig
  have HFt := hide (refFault_any (show RdS w3 gr B0 p (i : Int) fl (g : Int) ov d 0 0 from H3.out.1) HB3.out 10 (p.size : Int))
  clear ct
  go_wp2_with fail
  refine HFt.out.mono ?_
  rintro e w4 ⟨rfl, hE, hF⟩
  have H4 := hide (And.intro hE (And.intro (hF.blk_ H3.out.2.1 (blk_ne6 H3.out.2.1 H3.out.1.box (by decide)) (H3.out.1.apart H3.out.2.1 (by decide))) (H3.out.2.2.1.trans hF)))
  clear hE hF HFt c0 g1
  have c0 := H4.out.1.box.cell
  go_upto_region 4 with fail
  go_still_tail 9, (by kernel_rfl)
  change wpList _ _ _ _ _ w4.drew
  generalize hwd : w4.drew = wd
  have hbd : Below w4.heap.size w4 wd := by rw [← hwd]; exact (Below.refl _ _).drew
  have HD := hide (And.intro (H4.out.2.1.next hbd) (H4.out.2.2.next (Nat.le_trans HB.out H4.out.2.2.below.size) hbd))
  clear hbd hwd c0
  go_wp2_with (refine wpList_store_row rfl _ _ _ rfl (y.heap.size + 1) 0 _ _ _ rfl rfl HD.out.1 Tryz.sizeAns6 (by simp) (by simp [Value.oneCell']) ?_)
  intro w9 hrow9 hg9 hz9
  have hrow := hrow9.out
  rw [splice_full (by rfl)] at hrow
  go_wp2_with fail
  refine bodyPost_ret (results_cell_row rfl _ _ (y.heap.size + 1) _ _ (0, 0) _ rfl hrow Tryz.underlying43 rfl Tryz.sizeAns6) rfl ?_
  have hfin := HD.out.2.grown hg9 (fun q hq => by rw [← Option.some.inj hq]; omega) HB.out
  exact ⟨ans_bad (c := 9) HE.out, hfin⟩
 ·have HE := hide (show res = .ok t i g from by rw [HRS.out]; unfold wholeP; simp only; rw [if_neg (by rw [HFZ.out]; exact hbig)])
  have g1 : decide (2000 < fz) = false := decide_eq_false hbig
  go_upto_region 5 with fail
  go_still_tail 6, (by kernel_rfl)
  change wpList _ _ _ _ _ w3.drew
  generalize hwd : w3.drew = wd
  have hbd : Below w3.heap.size w3 wd := by rw [← hwd]; exact (Below.refl _ _).drew
  have HD := hide (And.intro (H3.out.2.1.next hbd) (And.intro (H3.out.2.2.1.next HB3.out hbd) (show T.In wd (fun b => (lo ≤ b ∧ b ≠ gr) ∧ b < y.heap.size) t B from HIN3.out.same ((same_of_below hbd).mono fun b hb => by have h1 := hb.2; have h2 := HS3.out; omega) fun b hb => hb)))
  have HSd := hide (Nat.le_trans HS3.out hbd.size)
  clear hbd hwd c0 ct
  go_wp2_with (refine wpList_store_row rfl _ _ _ rfl (y.heap.size + 1) 0 _ _ _ rfl rfl HD.out.1 Tryz.sizeAns6 (by simp) (by simp [Value.oneCell']) ?_)
  intro w9 hrow9 hg9 hz9
  have hrow := hrow9.out
  rw [splice_full (by rfl)] at hrow
  go_wp2_with fail
  refine bodyPost_ret (results_cell_row rfl _ _ (y.heap.size + 1) _ _ (0, 0) _ rfl hrow Tryz.underlying43 rfl Tryz.sizeAns6) rfl ?_
  have hfin := HD.out.2.1.grown hg9 (fun q hq => by rw [← Option.some.inj hq]; omega) HB.out
  exact ⟨ans_ok HE.out (HD.out.2.2.same (fun b hb => hg9.block b (by have h1 := hb.2; have h2 := HSd.out; omega) (fun e => by have e := Option.some.inj e; have h1 := hb.2; omega)) fun b hb => ⟨hb.1.1, by have h1 := hb.2; have h2 := HSd.out; have h3 := hg9.size; omega⟩), hfin⟩
set_option maxRecDepth 100000 in
set_option maxHeartbeats 4000000 in
theorem refParse_any (p : ByteArray) (fl : Int) (w : World) :
  Calls Tryz.prog 22 #[.string p, .int .i64 fl] w fun e w' => AnsIs (parseE p (!decide (bits .and .i64 fl 2 = 0)) (!decide (bits .and .i64 fl 4 = 0))) w.heap.size e w' ∧ Below w.heap.size w w' := by
 have hz0 := Blk.new w 43 #[.int .i64 0, .int .u64 0, .int .u64 0, .int .u64 0, .int .u64 0, .slice none 0 0, .int .i64 0, .int .i64 0, .int .i64 0, .bool false, .int .i64 0, .int .i64 0, .int .i64 0]
 have hbel := (Below.refl w.heap.size w).alloc (Nat.le_refl _) (.cells #[.int .i64 0, .int .u64 0, .int .u64 0, .int .u64 0, .int .u64 0, .slice none 0 0, .int .i64 0, .int .i64 0, .int .i64 0, .bool false, .int .i64 0, .int .i64 0, .int .i64 0] 43)
 have H0 := hide (And.intro hbel hz0)
 clear hz0 hbel
 obtain ⟨res, hres⟩ : ∃ res, res = parseE p (!decide (bits .and .i64 fl 2 = 0)) (!decide (bits .and .i64 fl 4 = 0)) := ⟨_, rfl⟩
 rw [← hres]
 have HRS := hide hres
 clear hres
 go_enter Tryz.func22, Tryz.ntmps22
 go_upto_region 1 with fail
 generalize (w.alloc (.cells #[.int .i64 0, .int .u64 0, .int .u64 0, .int .u64 0, .int .u64 0, .slice none 0 0, .int .i64 0, .int .i64 0, .int .i64 0, .bool false, .int .i64 0, .int .i64 0, .int .i64 0] 43)) = W at *
 by_cases hp : 1024 < p.size
 ·have HE := hide (show res = .bad 11 1024 from by rw [HRS.out]; unfold parseE; rw [if_pos hp])
  have g1 : decide ((1024 : Int) < (p.size : Int)) = true := decide_eq_true (by omega)
  go_wp2_with (refine wpList_store_row rfl _ _ _ rfl w.heap.size 0 _ _ _ rfl rfl H0.out.2 Tryz.sizeAns6 (by simp) (by simp [Value.oneCell']) ?_)
  intro w9 hrow9 hg9 hz9
  have hrow := hrow9.out
  rw [splice_full (by rfl)] at hrow
  go_wp2_with fail
  refine bodyPost_ret (results_cell_row rfl _ _ w.heap.size _ _ (0, 0) _ rfl hrow Tryz.underlying43 rfl Tryz.sizeAns6) rfl ?_
  exact ⟨ans_bad (c := 11) HE.out, below_grew H0.out.1 hg9 (Nat.le_refl _) (fun q hq => by rw [← Option.some.inj hq]; exact Nat.le_refl _)⟩
 ·have g1 : decide ((1024 : Int) < (p.size : Int)) = false := decide_eq_false (by omega)
  have HRS2 := hide (show res = wholeP p (deepE p (!decide (bits .and .i64 fl 2 = 0)) (!decide (bits .and .i64 fl 4 = 0)) 32 false 0 0) from by rw [HRS.out]; unfold parseE; rw [if_neg hp])
  have hp2 : p.size ≤ 1024 := by omega
  clear HRS hp
  have hal := (Below.refl W.heap.size W).alloc (Nat.le_refl _) (.cells #[.string p, .int .i64 0, .int .i64 fl, .int .i64 0, .slice none 0 0, .int .i64 0, .int .i64 0] 78)
  have hE : RdS (W.alloc (.cells #[.string p, .int .i64 0, .int .i64 fl, .int .i64 0, .slice none 0 0, .int .i64 0, .int .i64 0] 78)) W.heap.size w.heap.size p ((0 : Nat) : Int) fl ((0 : Nat) : Int) (.slice none 0 0) 0 0 0 := ⟨Blk.new W 78 _, ⟨[], rfl, OwnInts.nil _ _⟩, H0.out.1.size, by decide, by decide⟩
  have HPt := hide (refPatt_all hp2 32 0 rfl _ _ 0 0 hE (Nat.zero_le _) (Nat.le_refl _) (Nat.le_trans H0.out.1.size hal.size))
  have H1 := hide (And.intro hE (And.intro (H0.out.1.trans (hal.mono H0.out.1.size)) (H0.out.2.next hal)))
  have HGR := hide (show w.heap.size < W.heap.size from H0.out.2.lt)
  clear hal hE
  go_upto_region 4 with fail
  have hsz : (W.alloc (.cells #[.string p, .int .i64 0, .int .i64 fl, .int .i64 0, .slice none 0 0, .int .i64 0, .int .i64 0] 78)).heap.size = W.heap.size + 1 := World.size_alloc _ _
  have HSZ := hide hsz
  clear hsz
  generalize (W.alloc (.cells #[.string p, .int .i64 0, .int .i64 fl, .int .i64 0, .slice none 0 0, .int .i64 0, .int .i64 0] 78)) = W1 at *
  generalize W.heap.size = gr at *
  obtain ⟨r, hr⟩ : ∃ r, r = deepE p (!decide (bits .and .i64 fl 2 = 0)) (!decide (bits .and .i64 fl 4 = 0)) 32 false 0 0 := ⟨_, rfl⟩
  have hFin := deepE_fine (p := p) (ic := !decide (bits .and .i64 fl 2 = 0)) (nl := !decide (bits .and .i64 fl 4 = 0)) 32 false 0 0 (Nat.zero_le _)
  rw [show decide (0 < 0) = false from rfl] at HPt
  rw [← hr] at HPt HRS2 hFin
  clear hr
  go_wp2_with fail
  refine HPt.out.mono ?_
  rintro e z hz
  clear HPt
  cases r with
  | bad c pl =>
   have HE2 := hide (show res = .bad c pl from HRS2.out)
   obtain ⟨t, B, cc, ov', I, G', rfl, hin, hE, hF⟩ := hz
   have hal := (Below.refl z.heap.size z).alloc (Nat.le_refl _) (.cells #[.int .i64 t.hd.kind, .int .u64 t.hd.s0, .int .u64 t.hd.s1, .int .u64 t.hd.s2, .int .u64 t.hd.s3, .slice B t.subs.length cc, .int .i64 t.hd.num, .int .i64 t.hd.min, .int .i64 t.hd.max, .bool t.hd.bare] 27)
   have HBz := hide (Nat.le_trans (Nat.le_trans H1.out.2.1.size hF.below.size) hal.size)
   have HS := hide (And.intro (hE.next hal) (And.intro ((hF.blk_ H1.out.2.2 (by have := HGR.out; omega) (by simp [Value.ownBlock])).next hal) (And.intro (H1.out.2.1.trans (hF.below.trans (hal.mono (Nat.le_trans H1.out.2.1.size hF.below.size)))) (Blk.new z 27 #[.int .i64 t.hd.kind, .int .u64 t.hd.s0, .int .u64 t.hd.s1, .int .u64 t.hd.s2, .int .u64 t.hd.s3, .slice B t.subs.length cc, .int .i64 t.hd.num, .int .i64 t.hd.min, .int .i64 t.hd.max, .bool t.hd.bare]))))
   clear hal hin hE hF HRS2 hFin
   simp only [Hd.cells]
   go_upto_region 5 with fail
   generalize (z.alloc (.cells #[.int .i64 t.hd.kind, .int .u64 t.hd.s0, .int .u64 t.hd.s1, .int .u64 t.hd.s2, .int .u64 t.hd.s3, .slice B t.subs.length cc, .int .i64 t.hd.num, .int .i64 t.hd.min, .int .i64 t.hd.max, .bool t.hd.bare] 27)) = z1 at *
   have ct := HS.out.2.2.2.cell
   have HDn := hide (refDone_bad (lo := w.heap.size + 1) HS.out.1 HBz.out t B cc)
   go_wp2_with fail
   refine HDn.out.mono ?_
   rintro e z2 ⟨rfl, hf2⟩
   clear HDn ct
   have HR2 := hide (show Blk z2 w.heap.size 43 #[.int .i64 0, .int .u64 0, .int .u64 0, .int .u64 0, .int .u64 0, .slice none 0 0, .int .i64 0, .int .i64 0, .int .i64 0, .bool false, .int .i64 0, .int .i64 0, .int .i64 0] ∧ Below w.heap.size w z2 from ⟨hf2.blk_ HS.out.2.1 (by have := HGR.out; omega) (HS.out.1.apart HS.out.2.1 (by decide)), HS.out.2.2.1.trans hf2.below⟩)
   go_wp2_with (refine wpList_store_row rfl _ _ _ rfl w.heap.size 0 _ _ _ rfl rfl HR2.out.1 Tryz.sizeAns6 (by simp) (by simp [Value.oneCell']) ?_)
   intro w9 hrow9 hg9 hz9
   have hrow := hrow9.out
   rw [splice_full (by rfl)] at hrow
   go_wp2_with fail
   refine bodyPost_ret (results_cell_row rfl _ _ w.heap.size _ _ (0, 0) _ rfl hrow Tryz.underlying43 rfl Tryz.sizeAns6) rfl ?_
   exact ⟨ans_bad HE2.out, below_grew HR2.out.2 hg9 (Nat.le_refl _) (fun q hq => by rw [← Option.some.inj hq]; exact Nat.le_refl _)⟩
  | ok t i g =>
   obtain ⟨B, cc, ov', rfl, hin, hE, hF⟩ := hz
   simp only [PR.Fine] at hFin
   have hal := (Below.refl z.heap.size z).alloc (Nat.le_refl _) (.cells #[.int .i64 t.hd.kind, .int .u64 t.hd.s0, .int .u64 t.hd.s1, .int .u64 t.hd.s2, .int .u64 t.hd.s3, .slice B t.subs.length cc, .int .i64 t.hd.num, .int .i64 t.hd.min, .int .i64 t.hd.max, .bool t.hd.bare] 27)
   have HBz := hide (Nat.le_trans (Nat.le_trans H1.out.2.1.size hF.below.size) hal.size)
   have HS := hide (And.intro (hE.next hal) (And.intro ((hF.blk_ H1.out.2.2 (by have := HGR.out; omega) (by simp [Value.ownBlock])).next hal) (And.intro (H1.out.2.1.trans (hF.below.trans (hal.mono (Nat.le_trans H1.out.2.1.size hF.below.size)))) (Blk.new z 27 #[.int .i64 t.hd.kind, .int .u64 t.hd.s0, .int .u64 t.hd.s1, .int .u64 t.hd.s2, .int .u64 t.hd.s3, .slice B t.subs.length cc, .int .i64 t.hd.num, .int .i64 t.hd.min, .int .i64 t.hd.max, .bool t.hd.bare]))))
   have HTn := hide (show T.In (z.alloc (.cells #[.int .i64 t.hd.kind, .int .u64 t.hd.s0, .int .u64 t.hd.s1, .int .u64 t.hd.s2, .int .u64 t.hd.s3, .slice B t.subs.length cc, .int .i64 t.hd.num, .int .i64 t.hd.min, .int .i64 t.hd.max, .bool t.hd.bare] 27)) (fun b => (w.heap.size + 1 ≤ b ∧ b ≠ gr) ∧ b < (z.alloc (.cells #[.int .i64 t.hd.kind, .int .u64 t.hd.s0, .int .u64 t.hd.s1, .int .u64 t.hd.s2, .int .u64 t.hd.s3, .slice B t.subs.length cc, .int .i64 t.hd.num, .int .i64 t.hd.min, .int .i64 t.hd.max, .bool t.hd.bare] 27)).heap.size ∧ ov'.ownBlock ≠ some b) t B from hin.same ((same_of_below hal).mono fun b hb => hb.2.1) fun b hb => ⟨by have h1 := hb.1; have h2 := HSZ.out; have h3 := HGR.out; omega, Nat.lt_of_lt_of_le hb.2.1 hal.size, hb.2.2⟩)
   clear hal hin hE hF
   simp only [Hd.cells]
   go_upto_region 5 with fail
   generalize (z.alloc (.cells #[.int .i64 t.hd.kind, .int .u64 t.hd.s0, .int .u64 t.hd.s1, .int .u64 t.hd.s2, .int .u64 t.hd.s3, .slice B t.subs.length cc, .int .i64 t.hd.num, .int .i64 t.hd.min, .int .i64 t.hd.max, .bool t.hd.bare] 27)) = z1 at *
   have ct := HS.out.2.2.2.cell
   have HDn := hide (refDone_ok (lo := w.heap.size + 1) (show RdS z1 gr w.heap.size p (i : Int) fl (g : Int) ov' 0 0 0 from HS.out.1) HBz.out hp2 t B cc (by omega) (HTn.out.same (Same.refl _ _) fun b hb => ⟨hb.1, hb.2.1⟩))
   rw [← HRS2.out] at HDn
   clear HRS2 hFin
   go_wp2_with fail
   refine HDn.out.mono ?_
   rintro e z2 ⟨ha2, hf2⟩
   clear HDn ct
   have HR2 := hide (show Blk z2 w.heap.size 43 #[.int .i64 0, .int .u64 0, .int .u64 0, .int .u64 0, .int .u64 0, .slice none 0 0, .int .i64 0, .int .i64 0, .int .i64 0, .bool false, .int .i64 0, .int .i64 0, .int .i64 0] ∧ Below w.heap.size w z2 from ⟨hf2.blk_ HS.out.2.1 (by have := HGR.out; omega) (HS.out.1.apart HS.out.2.1 (by decide)), HS.out.2.2.1.trans hf2.below⟩)
   cases res with
   | bad c pl =>
    obtain rfl := ha2
    go_wp2_with (refine wpList_store_row rfl _ _ _ rfl w.heap.size 0 _ _ _ rfl rfl HR2.out.1 Tryz.sizeAns6 (by simp) (by simp [Value.oneCell']) ?_)
    intro w9 hrow9 hg9 hz9
    have hrow := hrow9.out
    rw [splice_full (by rfl)] at hrow
    go_wp2_with fail
    refine bodyPost_ret (results_cell_row rfl _ _ w.heap.size _ _ (0, 0) _ rfl hrow Tryz.underlying43 rfl Tryz.sizeAns6) rfl ?_
    exact ⟨ans_bad rfl, below_grew HR2.out.2 hg9 (Nat.le_refl _) (fun q hq => by rw [← Option.some.inj hq]; exact Nat.le_refl _)⟩
   | ok t' i' g'' =>
    obtain ⟨B', cc', rfl, hin'⟩ := ha2
    have HI2 := hide hin'
    clear hin'
    go_wp2_with (refine wpList_store_row rfl _ _ _ rfl w.heap.size 0 _ _ _ rfl rfl HR2.out.1 Tryz.sizeAns6 (by simp) (by simp [Value.oneCell']) ?_)
    intro w9 hrow9 hg9 hz9
    have hrow := hrow9.out
    rw [splice_full (by rfl)] at hrow
    go_wp2_with fail
    refine bodyPost_ret (results_cell_row rfl _ _ w.heap.size _ _ (0, 0) _ rfl hrow Tryz.underlying43 rfl Tryz.sizeAns6) rfl ?_
    exact ⟨ans_ok rfl (HI2.out.same (fun b hb => hg9.block b hb.2 (fun e => by have e := Option.some.inj e; have h1 := hb.1; omega)) fun b hb => ⟨by have := hb.1; omega, Nat.lt_of_lt_of_le hb.2 hg9.size⟩), below_grew HR2.out.2 hg9 (Nat.le_refl _) (fun q hq => by rw [← Option.some.inj hq]; exact Nat.le_refl _)⟩
end Go.Proofs.YtfehmfifjidjjaaGreatDoor
