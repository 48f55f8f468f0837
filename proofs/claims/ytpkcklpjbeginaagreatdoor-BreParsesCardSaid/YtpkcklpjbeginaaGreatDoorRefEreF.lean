/- RefEreF: trawlref06: group. (Printed by gen_refere6f.py.)
RefEreG: trawlref06: branch, pattern. (Printed by gen_refere6g.py.)
RefEreH: trawlref06: pattern, Done, Parse. (Printed by gen_refere6h.py.)
RefEreI: trawlref06: Done, Parse. (Printed by gen_refere6i.py.) -/
import Derived.Test.YtpkcklpjbeginaaGreatDoorRefEreA
import Derived.Test.YtpkcklpjbeginaaGreatDoorEreB
set_option linter.unusedSimpArgs false
set_option linter.unusedVariables false
set_option linter.unnecessarySimpa false

/-! ## RefEreF -/
namespace Go.Proofs.YtpkcklpjbeginaaGreatDoor
open Go.RowKit
end Go.Proofs.YtpkcklpjbeginaaGreatDoor

/-! ## RefEreG -/
namespace Go.Proofs.YtpkcklpjbeginaaGreatDoor
open Go.RowKit

/-- How much is still to be read: none behind a fault. -/
def rsLeft (gr : Nat) (p : ByteArray) (w : World) : Nat := match w.cell? ⟨gr, 1, none⟩, w.cell? ⟨gr, 5, none⟩ with
 | some (.int _ i), some (.int _ 0) => p.size + 1 - i.toNat
 | _, _ => 0
theorem rsLeft_ok {w : World} {gr B0 : Nat} {p : ByteArray} {i : Nat} {fl g : Int} {ov : Value} {d : Nat} (h : RdS w gr B0 p (i : Int) fl g ov d 0 0) : rsLeft gr p w = p.size + 1 - i := by
 unfold rsLeft
 rw [h.box.cell 1, h.box.cell 5]
 simp
theorem rsLeft_bad {w : World} {gr B0 c : Nat} {p : ByteArray} {I fl g pl : Int} {ov : Value} {d : Nat} (h : RdS w gr B0 p I fl g ov d ((c + 1 : Nat) : Int) pl) : rsLeft gr p w = 0 := by
 unfold rsLeft
 rw [h.box.cell 1, h.box.cell 5]
 simp only [List.getElem?_toArray, List.getElem?_cons_succ, List.getElem?_cons_zero]
/-- A loop that builds a list of trees beside the state. -/
structure LpS (B0 gr : Nat) (p : ByteArray) (fl : Int) (d : Nat) (ov : Value) (y : World) (wr : World) (lv : Value) (I G code pl : Int) (acc : List T) (ov' : Value) : Prop where
 rd : RdS wr gr B0 p I fl G ov' d code pl
 fr : RdF gr B0 ov.ownBlock ov'.ownBlock y wr
 bx : Blk wr y.heap.size 27 zeroCells
 gx : GrowX (y.heap.size + 1) ov'.ownBlock wr lv acc
section
variable {B0 gr : Nat} {y wr wr' : World} {p : ByteArray} {fl I G code pl : Int} {d : Nat} {ov ov' lv : Value} {acc : List T}
theorem LpS.next (h : LpS B0 gr p fl d ov y wr lv I G code pl acc ov') (hB : B0 ≤ wr.heap.size) (hb : Below wr.heap.size wr wr') : LpS B0 gr p fl d ov y wr' lv I G code pl acc ov' := ⟨h.rd.next hb, h.fr.next hB hb, h.bx.next hb, h.gx.next hb⟩
/-- The place is moved. -/
theorem LpS.step (h : LpS B0 gr p fl d ov y wr lv I G code pl acc ov') (hgr : gr < y.heap.size) (J : Int) : LpS B0 gr p fl d ov y (wr.setCell ⟨gr, 1, none⟩ (.int .i64 J)) lv J G code pl acc ov' :=
 ⟨h.rd.set 1 _, h.fr.set h.rd.base 1 (.int .i64 J), h.bx.far (p := ⟨gr, 1, none⟩) (show y.heap.size ≠ gr by omega) (.int .i64 J), h.gx.rdf (B0 := B0) (y := wr) (by omega) ((RdF.refl gr B0 ov'.ownBlock wr).set h.rd.base 1 (.int .i64 J))⟩
/-- A fault is set. -/
theorem LpS.fault {wr2 : World} {code2 pl2 : Int} (h : LpS B0 gr p fl d ov y wr lv I G code pl acc ov') (hgr : gr < y.heap.size) (hE : RdS wr2 gr B0 p I fl G ov' d code2 pl2) (hF : RdF gr B0 ov'.ownBlock ov'.ownBlock wr wr2) : LpS B0 gr p fl d ov y wr2 lv I G code2 pl2 acc ov' :=
 ⟨hE, h.fr.trans hF, hF.blk_ h.bx (by omega) (h.rd.apart h.bx (by decide)), h.gx.rdf (B0 := B0) (y := wr) (by omega) hF⟩
end
end Go.Proofs.YtpkcklpjbeginaaGreatDoor

/-! ## RefEreH -/
namespace Go.Proofs.YtpkcklpjbeginaaGreatDoor
open Go.RowKit
end Go.Proofs.YtpkcklpjbeginaaGreatDoor

/-! ## RefEreI -/
namespace Go.Proofs.YtpkcklpjbeginaaGreatDoor
open Go.RowKit

theorem Tryz.sizeAns6 : (Tryz.prog.info? 43).map (·.size) = some 13 := by kernel_rfl
def AnsIs (r : PR) (lo : Nat) (e : Ending) (w' : World) : Prop := match r with
 | .ok t _ g => ∃ B c, e = .returned (.agg #[.int .i64 t.hd.kind, .int .u64 t.hd.s0, .int .u64 t.hd.s1, .int .u64 t.hd.s2, .int .u64 t.hd.s3, .slice B t.subs.length c, .int .i64 t.hd.num, .int .i64 t.hd.min, .int .i64 t.hd.max, .bool t.hd.bare, .int .i64 (g : Int), .int .i64 0, .int .i64 0]) ∧ T.In w' (fun b => lo ≤ b ∧ b < w'.heap.size) t B
 | .bad c pl => e = .returned (.agg #[.int .i64 0, .int .u64 0, .int .u64 0, .int .u64 0, .int .u64 0, .slice none 0 0, .int .i64 0, .int .i64 0, .int .i64 0, .bool false, .int .i64 0, .int .i64 ((c + 1 : Nat) : Int), .int .i64 pl])
def DoneIs (r : PR) (lo gr B0 : Nat) (ov : Value) (y : World) (e : Ending) (y' : World) : Prop := AnsIs r lo e y' ∧ RdF gr B0 ov.ownBlock ov.ownBlock y y'
section
variable {r : PR} {lo : Nat} {w w' : World}
theorem ans_bad {c : Nat} {pl : Int} (hr : r = .bad c pl) : AnsIs r lo (.returned (.agg #[.int .i64 0, .int .u64 0, .int .u64 0, .int .u64 0, .int .u64 0, .slice none 0 0, .int .i64 0, .int .i64 0, .int .i64 0, .bool false, .int .i64 0, .int .i64 ((c + 1 : Nat) : Int), .int .i64 pl])) w' := by subst hr; exact rfl
theorem ans_ok {t : T} {j g cc : Nat} {B : Option Addr} (hr : r = .ok t j g) (h : T.In w' (fun b => lo ≤ b ∧ b < w'.heap.size) t B) : AnsIs r lo (.returned (.agg #[.int .i64 t.hd.kind, .int .u64 t.hd.s0, .int .u64 t.hd.s1, .int .u64 t.hd.s2, .int .u64 t.hd.s3, .slice B t.subs.length cc, .int .i64 t.hd.num, .int .i64 t.hd.min, .int .i64 t.hd.max, .bool t.hd.bare, .int .i64 (g : Int), .int .i64 0, .int .i64 0])) w' := by subst hr; exact ⟨B, cc, rfl, h⟩
end
set_option maxRecDepth 100000 in
set_option maxHeartbeats 2000000 in
theorem refDone_bad {y : World} {gr B0 c lo : Nat} {p : ByteArray} {I fl G pl : Int} {ov : Value} {d : Nat} (h : RdS y gr B0 p I fl G ov d ((c + 1 : Nat) : Int) pl) (hB0 : B0 ≤ y.heap.size) (t : T) (B : Option Addr) (cc : Nat) :
  Calls Tryz.prog 47 #[.pointer (some ⟨gr, 0, none⟩), .agg #[.int .i64 t.hd.kind, .int .u64 t.hd.s0, .int .u64 t.hd.s1, .int .u64 t.hd.s2, .int .u64 t.hd.s3, .slice B t.subs.length cc, .int .i64 t.hd.num, .int .i64 t.hd.min, .int .i64 t.hd.max, .bool t.hd.bare]] y (DoneIs (.bad c pl) lo gr B0 ov y) := by
 have hal1 := (Below.refl y.heap.size y).alloc (Nat.le_refl _) (.cells #[.int .i64 t.hd.kind, .int .u64 t.hd.s0, .int .u64 t.hd.s1, .int .u64 t.hd.s2, .int .u64 t.hd.s3, .slice B t.subs.length cc, .int .i64 t.hd.num, .int .i64 t.hd.min, .int .i64 t.hd.max, .bool t.hd.bare] 27)
 have hsz1 : (y.alloc (.cells #[.int .i64 t.hd.kind, .int .u64 t.hd.s0, .int .u64 t.hd.s1, .int .u64 t.hd.s2, .int .u64 t.hd.s3, .slice B t.subs.length cc, .int .i64 t.hd.num, .int .i64 t.hd.min, .int .i64 t.hd.max, .bool t.hd.bare] 27)).heap.size = y.heap.size + 1 := World.size_alloc _ _
 have hal := hal1.alloc hal1.size (.cells #[.int .i64 0, .int .u64 0, .int .u64 0, .int .u64 0, .int .u64 0, .slice none 0 0, .int .i64 0, .int .i64 0, .int .i64 0, .bool false, .int .i64 0, .int .i64 0, .int .i64 0] 43)
 have hR := Blk.new (y.alloc (.cells #[.int .i64 t.hd.kind, .int .u64 t.hd.s0, .int .u64 t.hd.s1, .int .u64 t.hd.s2, .int .u64 t.hd.s3, .slice B t.subs.length cc, .int .i64 t.hd.num, .int .i64 t.hd.min, .int .i64 t.hd.max, .bool t.hd.bare] 27)) 43 #[.int .i64 0, .int .u64 0, .int .u64 0, .int .u64 0, .int .u64 0, .slice none 0 0, .int .i64 0, .int .i64 0, .int .i64 0, .bool false, .int .i64 0, .int .i64 0, .int .i64 0]
 have hT := (Blk.new y 27 #[.int .i64 t.hd.kind, .int .u64 t.hd.s0, .int .u64 t.hd.s1, .int .u64 t.hd.s2, .int .u64 t.hd.s3, .slice B t.subs.length cc, .int .i64 t.hd.num, .int .i64 t.hd.min, .int .i64 t.hd.max, .bool t.hd.bare]).alloc (.cells #[.int .i64 0, .int .u64 0, .int .u64 0, .int .u64 0, .int .u64 0, .slice none 0 0, .int .i64 0, .int .i64 0, .int .i64 0, .bool false, .int .i64 0, .int .i64 0, .int .i64 0] 43)
 rw [hsz1] at hR
 have H0 := hide (And.intro (h.next hal) (And.intro hR (And.intro (RdF.of_below (gr := gr) (x := ov.ownBlock) hB0 hal) hT)))
 have HB := hide hB0
 clear hal1 hsz1 hal hR hT h hB0
 obtain ⟨cd, hcd⟩ : ∃ cd : Int, cd = ((c + 1 : Nat) : Int) := ⟨_, rfl⟩
 have gc : (cd == 0) = false := by rw [beq_eq_false_iff_ne]; omega
 have gn : (cd != 0) = true := by rw [bne_iff_ne]; omega
 go_enter Tryz.func47, Tryz.ntmps47
 go_upto_region 1 with fail
 generalize ((y.alloc (.cells #[.int .i64 t.hd.kind, .int .u64 t.hd.s0, .int .u64 t.hd.s1, .int .u64 t.hd.s2, .int .u64 t.hd.s3, .slice B t.subs.length cc, .int .i64 t.hd.num, .int .i64 t.hd.min, .int .i64 t.hd.max, .bool t.hd.bare] 27)).alloc (.cells #[.int .i64 0, .int .u64 0, .int .u64 0, .int .u64 0, .int .u64 0, .slice none 0 0, .int .i64 0, .int .i64 0, .int .i64 0, .bool false, .int .i64 0, .int .i64 0, .int .i64 0] 43)) = W at *
 have c0 := H0.out.1.box.cell
 rw [← hcd] at c0
 have H0b := hide (And.intro H0.out.1 (And.intro H0.out.2.1 H0.out.2.2.1))
 go_upto_region 4 with fail
 go_still_tail 9, (by kernel_rfl)
 change wpList _ _ _ _ _ W.drew
 generalize hwd : W.drew = wd
 have hbd : Below W.heap.size W wd := by rw [← hwd]; exact (Below.refl _ _).drew
 have HD := hide (And.intro (H0b.out.2.1.next hbd) (H0b.out.2.2.next (Nat.le_trans HB.out H0b.out.2.2.below.size) hbd))
 clear hbd hwd c0
 go_wp2_with (refine wpList_store_row rfl _ _ _ rfl (y.heap.size + 1) 0 _ _ _ rfl rfl HD.out.1 Tryz.sizeAns6 (by simp) (by simp [Value.oneCell']) ?_)
 intro w9 hrow9 hg9 hz9
 have hrow := hrow9.out
 rw [splice_full (by rfl)] at hrow
 go_wp2_with fail
 refine bodyPost_ret (results_cell_row rfl _ _ (y.heap.size + 1) _ _ (0, 0) _ rfl hrow Tryz.underlying43 rfl Tryz.sizeAns6) rfl ?_
 have hfin := HD.out.2.grown hg9 (fun q hq => by rw [← Option.some.inj hq]; omega) HB.out
 exact ⟨ans_bad rfl, hfin⟩
set_option maxRecDepth 100000 in
set_option maxHeartbeats 2000000 in
theorem refDone_ok {y : World} {gr B0 i g lo : Nat} {p : ByteArray} {fl : Int} {ov : Value} {d : Nat} (h : RdS y gr B0 p (i : Int) fl (g : Int) ov d 0 0) (hB0 : B0 ≤ y.heap.size) (hp : p.size ≤ 1024) (t : T) (B : Option Addr) (cc : Nat) (hnd : t.nodes ≤ 1000000) (hin : T.In y (fun b => (lo ≤ b ∧ b ≠ gr) ∧ b < y.heap.size) t B) :
  Calls Tryz.prog 47 #[.pointer (some ⟨gr, 0, none⟩), .agg #[.int .i64 t.hd.kind, .int .u64 t.hd.s0, .int .u64 t.hd.s1, .int .u64 t.hd.s2, .int .u64 t.hd.s3, .slice B t.subs.length cc, .int .i64 t.hd.num, .int .i64 t.hd.min, .int .i64 t.hd.max, .bool t.hd.bare]] y (DoneIs (wholeP p (.ok t i g)) lo gr B0 ov y) := by
 have hal1 := (Below.refl y.heap.size y).alloc (Nat.le_refl _) (.cells #[.int .i64 t.hd.kind, .int .u64 t.hd.s0, .int .u64 t.hd.s1, .int .u64 t.hd.s2, .int .u64 t.hd.s3, .slice B t.subs.length cc, .int .i64 t.hd.num, .int .i64 t.hd.min, .int .i64 t.hd.max, .bool t.hd.bare] 27)
 have hsz1 : (y.alloc (.cells #[.int .i64 t.hd.kind, .int .u64 t.hd.s0, .int .u64 t.hd.s1, .int .u64 t.hd.s2, .int .u64 t.hd.s3, .slice B t.subs.length cc, .int .i64 t.hd.num, .int .i64 t.hd.min, .int .i64 t.hd.max, .bool t.hd.bare] 27)).heap.size = y.heap.size + 1 := World.size_alloc _ _
 have hal := hal1.alloc hal1.size (.cells #[.int .i64 0, .int .u64 0, .int .u64 0, .int .u64 0, .int .u64 0, .slice none 0 0, .int .i64 0, .int .i64 0, .int .i64 0, .bool false, .int .i64 0, .int .i64 0, .int .i64 0] 43)
 have hR := Blk.new (y.alloc (.cells #[.int .i64 t.hd.kind, .int .u64 t.hd.s0, .int .u64 t.hd.s1, .int .u64 t.hd.s2, .int .u64 t.hd.s3, .slice B t.subs.length cc, .int .i64 t.hd.num, .int .i64 t.hd.min, .int .i64 t.hd.max, .bool t.hd.bare] 27)) 43 #[.int .i64 0, .int .u64 0, .int .u64 0, .int .u64 0, .int .u64 0, .slice none 0 0, .int .i64 0, .int .i64 0, .int .i64 0, .bool false, .int .i64 0, .int .i64 0, .int .i64 0]
 have hT := (Blk.new y 27 #[.int .i64 t.hd.kind, .int .u64 t.hd.s0, .int .u64 t.hd.s1, .int .u64 t.hd.s2, .int .u64 t.hd.s3, .slice B t.subs.length cc, .int .i64 t.hd.num, .int .i64 t.hd.min, .int .i64 t.hd.max, .bool t.hd.bare]).alloc (.cells #[.int .i64 0, .int .u64 0, .int .u64 0, .int .u64 0, .int .u64 0, .slice none 0 0, .int .i64 0, .int .i64 0, .int .i64 0, .bool false, .int .i64 0, .int .i64 0, .int .i64 0] 43)
 rw [hsz1] at hR
 have H0 := hide (And.intro (h.next hal) (And.intro hR (And.intro (RdF.of_below (gr := gr) (x := ov.ownBlock) hB0 hal) hT)))
 have HB := hide hB0
 have HIN := hide (show T.In ((y.alloc (.cells #[.int .i64 t.hd.kind, .int .u64 t.hd.s0, .int .u64 t.hd.s1, .int .u64 t.hd.s2, .int .u64 t.hd.s3, .slice B t.subs.length cc, .int .i64 t.hd.num, .int .i64 t.hd.min, .int .i64 t.hd.max, .bool t.hd.bare] 27)).alloc (.cells #[.int .i64 0, .int .u64 0, .int .u64 0, .int .u64 0, .int .u64 0, .slice none 0 0, .int .i64 0, .int .i64 0, .int .i64 0, .bool false, .int .i64 0, .int .i64 0, .int .i64 0] 43)) (fun b => (lo ≤ b ∧ b ≠ gr) ∧ b < y.heap.size) t B from hin.same ((same_of_below hal).mono fun b hb => hb.2) fun b hb => hb)
 have HSW := hide (show y.heap.size + 2 ≤ ((y.alloc (.cells #[.int .i64 t.hd.kind, .int .u64 t.hd.s0, .int .u64 t.hd.s1, .int .u64 t.hd.s2, .int .u64 t.hd.s3, .slice B t.subs.length cc, .int .i64 t.hd.num, .int .i64 t.hd.min, .int .i64 t.hd.max, .bool t.hd.bare] 27)).alloc (.cells #[.int .i64 0, .int .u64 0, .int .u64 0, .int .u64 0, .int .u64 0, .slice none 0 0, .int .i64 0, .int .i64 0, .int .i64 0, .bool false, .int .i64 0, .int .i64 0, .int .i64 0] 43)).heap.size from by rw [World.size_alloc, hsz1]; omega)
 clear hal1 hsz1 hal hR hT h hB0 hin
 obtain ⟨res, hres⟩ : ∃ res, res = wholeP p (.ok t i g) := ⟨_, rfl⟩
 rw [← hres]
 have HRS := hide hres
 clear hres
 go_enter Tryz.func47, Tryz.ntmps47
 go_upto_region 1 with fail
 generalize ((y.alloc (.cells #[.int .i64 t.hd.kind, .int .u64 t.hd.s0, .int .u64 t.hd.s1, .int .u64 t.hd.s2, .int .u64 t.hd.s3, .slice B t.subs.length cc, .int .i64 t.hd.num, .int .i64 t.hd.min, .int .i64 t.hd.max, .bool t.hd.bare] 27)).alloc (.cells #[.int .i64 0, .int .u64 0, .int .u64 0, .int .u64 0, .int .u64 0, .slice none 0 0, .int .i64 0, .int .i64 0, .int .i64 0, .bool false, .int .i64 0, .int .i64 0, .int .i64 0] 43)) = W at *
 have c0 := H0.out.1.box.cell
 have ct := H0.out.2.2.2.cell
 have HSz := hide (refSizeAll_gen t B cc W (.inl hnd) (HIN.out.same (Same.refl _ _) fun b hb => by have h1 := hb.2; have h2 := HSW.out; omega))
 simp only [Hd.cells] at HSz
 go_wp2_with fail
 refine HSz.out.mono ?_
 rintro e w3 ⟨rfl, hb3⟩
 have H3 := hide (And.intro (H0.out.1.next hb3) (And.intro (H0.out.2.1.next hb3) (And.intro (H0.out.2.2.1.next (Nat.le_trans HB.out H0.out.2.2.1.below.size) hb3) (H0.out.2.2.2.next hb3))))
 have HB3 := hide (show B0 ≤ w3.heap.size from Nat.le_trans HB.out H3.out.2.2.1.below.size)
 have HIN3 := hide (show T.In w3 (fun b => (lo ≤ b ∧ b ≠ gr) ∧ b < y.heap.size) t B from HIN.out.same ((same_of_below hb3).mono fun b hb => by have h1 := hb.2; have h2 := HSW.out; omega) fun b hb => hb)
 have HS3 := hide (Nat.le_trans HSW.out hb3.size)
 clear hb3 HSz c0 ct
 generalize hfz : t.fullSize = fz at *
 have HFZ := hide hfz
 clear hfz
 have c0 := H3.out.1.box.cell
 have ct := H3.out.2.2.2.cell
 by_cases hbig : 2000 < fz
 ·have HE := hide (show res = .bad 9 p.size from by rw [HRS.out]; unfold wholeP; simp only; rw [if_pos (by rw [HFZ.out]; exact hbig)])
  have g1 : decide (2000 < fz) = true := decide_eq_true hbig
  have HFt := hide (refFault_any (show RdS w3 gr B0 p (i : Int) fl (g : Int) ov d 0 0 from H3.out.1) HB3.out 10 (p.size : Int))
  clear ct
  go_wp2_with fail
  refine HFt.out.mono ?_
  rintro e w4 ⟨rfl, hE, hF⟩
  have H4 := hide (And.intro hE (And.intro (hF.blk_ H3.out.2.1 (blk_ne6 H3.out.2.1 H3.out.1.box (by decide)) (H3.out.1.apart H3.out.2.1 (by decide))) (H3.out.2.2.1.trans hF)))
  clear hE hF HFt c0 g1
  have c0 := H4.out.1.box.cell
  go_upto_region 4 with fail
  go_still_tail 9, (by kernel_rfl)
  change wpList _ _ _ _ _ w4.drew
  generalize hwd : w4.drew = wd
  have hbd : Below w4.heap.size w4 wd := by rw [← hwd]; exact (Below.refl _ _).drew
  have HD := hide (And.intro (H4.out.2.1.next hbd) (H4.out.2.2.next (Nat.le_trans HB.out H4.out.2.2.below.size) hbd))
  clear hbd hwd c0
  go_wp2_with (refine wpList_store_row rfl _ _ _ rfl (y.heap.size + 1) 0 _ _ _ rfl rfl HD.out.1 Tryz.sizeAns6 (by simp) (by simp [Value.oneCell']) ?_)
  intro w9 hrow9 hg9 hz9
  have hrow := hrow9.out
  rw [splice_full (by rfl)] at hrow
  go_wp2_with fail
  refine bodyPost_ret (results_cell_row rfl _ _ (y.heap.size + 1) _ _ (0, 0) _ rfl hrow Tryz.underlying43 rfl Tryz.sizeAns6) rfl ?_
  have hfin := HD.out.2.grown hg9 (fun q hq => by rw [← Option.some.inj hq]; omega) HB.out
  exact ⟨ans_bad (c := 9) HE.out, hfin⟩
 ·have HE := hide (show res = .ok t i g from by rw [HRS.out]; unfold wholeP; simp only; rw [if_neg (by rw [HFZ.out]; exact hbig)])
  have g1 : decide (2000 < fz) = false := decide_eq_false hbig
  go_upto_region 5 with fail
  go_still_tail 6, (by kernel_rfl)
  change wpList _ _ _ _ _ w3.drew
  generalize hwd : w3.drew = wd
  have hbd : Below w3.heap.size w3 wd := by rw [← hwd]; exact (Below.refl _ _).drew
  have HD := hide (And.intro (H3.out.2.1.next hbd) (And.intro (H3.out.2.2.1.next HB3.out hbd) (show T.In wd (fun b => (lo ≤ b ∧ b ≠ gr) ∧ b < y.heap.size) t B from HIN3.out.same ((same_of_below hbd).mono fun b hb => by have h1 := hb.2; have h2 := HS3.out; omega) fun b hb => hb)))
  have HSd := hide (Nat.le_trans HS3.out hbd.size)
  clear hbd hwd c0 ct
  go_wp2_with (refine wpList_store_row rfl _ _ _ rfl (y.heap.size + 1) 0 _ _ _ rfl rfl HD.out.1 Tryz.sizeAns6 (by simp) (by simp [Value.oneCell']) ?_)
  intro w9 hrow9 hg9 hz9
  have hrow := hrow9.out
  rw [splice_full (by rfl)] at hrow
  go_wp2_with fail
  refine bodyPost_ret (results_cell_row rfl _ _ (y.heap.size + 1) _ _ (0, 0) _ rfl hrow Tryz.underlying43 rfl Tryz.sizeAns6) rfl ?_
  have hfin := HD.out.2.1.grown hg9 (fun q hq => by rw [← Option.some.inj hq]; omega) HB.out
  exact ⟨ans_ok HE.out (HD.out.2.2.same (fun b hb => hg9.block b (by have h1 := hb.2; have h2 := HSd.out; omega) (fun e => by have e := Option.some.inj e; have h1 := hb.2; omega)) fun b hb => ⟨hb.1.1, by have h1 := hb.2; have h2 := HSd.out; have h3 := hg9.size; omega⟩), hfin⟩
end Go.Proofs.YtpkcklpjbeginaaGreatDoor
