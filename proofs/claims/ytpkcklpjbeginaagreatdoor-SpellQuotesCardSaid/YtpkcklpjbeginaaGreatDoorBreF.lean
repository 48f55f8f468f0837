/- BreF: bre: pattern. (Printed by gen_bref.py.)
BreG: bre: Parse.
Lives7: trawllaw07.lives: what the law looks at ahead. (Printed by gen_law7.py.) -/
import Derived.Test.YtpkcklpjbeginaaGreatDoorBreE
import Derived.Test.YtpkcklpjbeginaaGreatDoorEreB
import Derived.Deep.RegionHeld3
set_option linter.unusedSimpArgs false
set_option linter.unusedVariables false
set_option linter.unnecessarySimpa false

/-! ## BreF -/
namespace Go.Proofs.YtpkcklpjbeginaaGreatDoor
open Go.RowKit

/-- How much is still to be read. -/
def rbLeft (gr : Nat) (p : ByteArray) (w : World) : Nat := match w.cell? ⟨gr, 1, none⟩ with
 | some (.int _ i) => p.size + 1 - i.toNat
 | _ => 0
theorem rbLeft_at {w : World} {gr B0 : Nat} {p : ByteArray} {i : Nat} {fl : Int} {g n : Nat} (h : RdB w gr B0 p i fl g n) : rbLeft gr p w = p.size + 1 - i := by
 unfold rbLeft
 rw [h.box.cell 1]
 simp
/-- A loop that builds a list of trees beside the reader. -/
structure LpB (B0 gr : Nat) (p : ByteArray) (fl : Int) (n : Nat) (y : World) (wr : World) (lv : Value) (j g : Nat) (acc : List T) : Prop where
 rd : RdB wr gr B0 p j fl g n
 fr : RdF gr B0 none none y wr
 bx : Blk wr y.heap.size 27 zeroCells
 gx : GrowX (y.heap.size + 1) none wr lv acc
section
variable {B0 gr n : Nat} {y wr wr' : World} {p : ByteArray} {fl : Int} {j g : Nat} {lv : Value} {acc : List T}
theorem LpB.next (h : LpB B0 gr p fl n y wr lv j g acc) (hB : B0 ≤ wr.heap.size) (hb : Below wr.heap.size wr wr') : LpB B0 gr p fl n y wr' lv j g acc := ⟨h.rd.next hb, h.fr.next hB hb, h.bx.next hb, h.gx.next hb⟩
theorem LpB.step (h : LpB B0 gr p fl n y wr lv j g acc) (hgr : gr < y.heap.size) (k : Nat) : LpB B0 gr p fl n y (wr.setCell ⟨gr, 1, none⟩ (.int .i64 (k : Int))) lv k g acc :=
 ⟨h.rd.set 1 _, h.fr.set h.rd.base 1 (.int .i64 (k : Int)), h.bx.far (p := ⟨gr, 1, none⟩) (show y.heap.size ≠ gr by omega) (.int .i64 (k : Int)), h.gx.rdf (B0 := B0) (y := wr) (by omega) ((RdF.refl gr B0 none wr).set h.rd.base 1 (.int .i64 (k : Int)))⟩
end
/-- What pattern answers: as EPB; the tree is its caller's own. -/
def EPBO (a : Nat → Addr) (gr B0 : Nat) (p : ByteArray) (fl : Int) (n : Nat) (y : World) (r : PR) (e : Ending) (y' : World) : Prop :=
 EPB a gr B0 p fl n y r e y' ∧ ∀ t j h, r = .ok t j h → ∃ B c, e = .returned (.agg (t.hd.cells (.slice B t.subs.length c)).toArray) ∧ OwnB y' y.heap.size none t B
/-- Does a dollar sign stand next, and nothing behind it? -/
theorem dollar_text {p : ByteArray} {j : Nat} (hj : j ≤ p.size) : p.extract j p.size = ⟨#[36]⟩ ↔ pb p j = 36 ∧ j + 1 = p.size := by
 have hs : (p.extract j p.size).size = p.size - j := by rw [ByteArray.size_extract]; omega
 constructor
 ·intro e
  rw [e] at hs
  have h1 : (⟨#[36]⟩ : ByteArray).size = 1 := rfl
  have h2 : pb (p.extract j p.size) 0 = 36 := by rw [e]; rfl
  rw [pb_extract _ _ _ _ (Nat.le_refl _), if_pos (by omega)] at h2
  exact ⟨h2, by omega⟩
 ·rintro ⟨h1, h2⟩
  apply ByteArray.ext
  apply Array.toList_inj.1
  have hl : (p.extract j p.size).data.toList.length = 1 := by rw [data_len, hs]; omega
  have h0 := data_at (p.extract j p.size) 0
  rw [pb_extract _ _ _ _ (Nat.le_refl _), if_pos (by omega), Nat.add_zero, h1, if_pos (by omega)] at h0
  match hm : (p.extract j p.size).data.toList, hl with
  | [b], _ => rw [hm] at h0; simp only [List.getElem?_cons_zero] at h0; rw [Option.some.inj h0]; rfl
theorem dollar_bool {p : ByteArray} {j : Nat} (hj : j ≤ p.size) : ((p.extract j p.size).toList == [36]) = decide (pb p j = 36 ∧ j + 1 = p.size) := by
 rw [Bool.eq_iff_iff, beq_iff_eq, decide_eq_true_iff, ← dollar_text hj]
 constructor
 ·intro e
  apply ByteArray.ext
  apply Array.toList_inj.1
  rw [← ByteArray.toList_eq]
  exact e
 ·intro e
  rw [e, ByteArray.toList_eq]
set_option maxRecDepth 100000 in
set_option maxHeartbeats 4000000 in
theorem brePattern_any {y : World} {gr B0 : Nat} {p : ByteArray} {i : Nat} {fl : Int} {g n : Nat} {a : Nat → Addr} {m : Int} {deeper : Option (Nat → Nat → PR)} (hG : GroupB a m gr B0 p fl n deeper) (hdf : DFine p deeper) (h : RdB y gr B0 p i fl g n) (hp : p.size ≤ 1024) (hi : i ≤ p.size) (hgi : g ≤ i) (hB : B0 ≤ y.heap.size) (hm : ∀ y', Below B0 y y' → B5 y' a m) :
  Calls Tryz.prog 43 #[.pointer (some ⟨gr, 0, none⟩)] y (EPBO a gr B0 p fl n y (pattB p (!decide (bits .and .i64 fl 2 = 0)) (!decide (bits .and .i64 fl 4 = 0)) deeper (decide (0 < n)) (p.size + 1) true true i g [])) := by
 have HPc := hide (fun (y' : World) (star : Bool) (j g' : Nat) (h' : RdB y' gr B0 p j fl g' n) (hj : j < p.size) (hgj : g' ≤ j) (hB' : B0 ≤ y'.heap.size) (hm' : ∀ y2, Below B0 y' y2 → B5 y2 a m) => And.intro (brePiece_any (star := star) hG (fun f hf i g hi => (hdf f hf).1 i g hi) (atomB_fine hdf star hj) h' hp hj hgj hB' hm') (pieceB_fine (ic := !decide (bits .and .i64 fl 2 = 0)) (nl := !decide (bits .and .i64 fl 4 = 0)) hdf star (i := j) (g := g') hj))
 clear hG
 have HGY := hide h.box.lt
 have hz0 := Blk.new y 27 zeroCells
 have hbel := (Below.refl y.heap.size y).alloc (Nat.le_refl _) (.cells zeroCells 27)
 have H0 := hide (And.intro (h.next hbel) (And.intro (RdF.of_below (gr := gr) (x := none) hB hbel) hz0))
 have HB := hide hB
 have HM := hide hm
 have HBW := hide (Nat.le_trans hB hbel.size)
 have HZW := hide (show y.heap.size + 1 ≤ (y.alloc (.cells zeroCells 27)).heap.size from Nat.le_of_eq (World.size_alloc y (.cells zeroCells 27)).symm)
 clear hz0 hbel h hB hm
 unfold zeroCells at *
 obtain ⟨ic, hic⟩ : ∃ ic, ic = !decide (bits .and .i64 fl 2 = 0) := ⟨_, rfl⟩
 obtain ⟨nl, hnl⟩ : ∃ nl, nl = !decide (bits .and .i64 fl 4 = 0) := ⟨_, rfl⟩
 rw [← hic, ← hnl] at HPc ⊢
 clear hic hnl hdf
 obtain ⟨res, hres⟩ : ∃ res, res = pattB p ic nl deeper (decide (0 < n)) (p.size + 1) true true i g [] := ⟨_, rfl⟩
 rw [← hres]
 have HRS := hide hres
 clear hres
 have HGR := hide (show gr < y.heap.size + 1 from Nat.lt_succ_of_lt HGY.out)
 go_enter Tryz.func43, Tryz.ntmps43
 go_upto_region 1 with fail
 generalize (y.alloc (.cells #[.int .i64 0, .int .u64 0, .int .u64 0, .int .u64 0, .int .u64 0, .slice none 0 0, .int .i64 0, .int .i64 0, .int .i64 0, .bool false] 27)) = W at *
 go_wp2_with fail
 go_loopw [3, 4, 5] (fun lv sv fv wr => (∃ (j g' k : Nat) (acc : List T) (front star : Bool), sv = .bool star ∧ fv = .bool front ∧ LpB B0 gr p fl n y wr lv j g' acc ∧ i ≤ j ∧ j ≤ p.size ∧ g' ≤ j ∧ acc.length ≤ j ∧ TL.nodes acc ≤ 4 * j ∧ p.size + 1 ≤ k + j ∧ pattB p ic nl deeper (decide (0 < n)) k front star j g' acc = res)) (fun _ _ _ wr => rbLeft gr p wr)
 case atStart => exact ⟨i, g, p.size + 1, [], true, true, rfl, rfl, ⟨H0.out.1, H0.out.2.1, H0.out.2.2, GrowX.nil _ _ _⟩, Nat.le_refl _, hi, hgi, Nat.zero_le _, by simp [TL.nodes], by omega, HRS.out.symm⟩
 case round =>
  obtain ⟨j, g', k, acc, front, star, rfl, rfl, hlp, hij, hjp, hgj, hac, hnd, hk, hbr⟩ := hrel
  have HL := hide hlp
  have HE := hide hbr
  have HBr := hide (Nat.le_trans HB.out hlp.fr.below.size)
  have HMs := hide (rbLeft_at hlp.rd)
  clear hlp hbr HRS H0
  cases k with
  | zero => omega
  | succ k =>
  rw [pattB] at HE
  obtain ⟨cb, hcb⟩ : ∃ cb : Bool, cb = (decide (j < p.size) && !(decide (0 < n) && begins p j [92, 41])) := ⟨_, rfl⟩
  have HCB := hide hcb
  clear hcb
  go_upto_region 4 with fail
  go_cut [27] (fun v27 wx => v27 = .bool cb ∧ Below wr.heap.size wr wx)
  case first =>
   have HHs := hide (fun (x : Later wr) => breHas_any (show RdB x.val gr B0 p j fl g' n from HL.out.rd.next x.2) hp hjp [92, 41] (by decide) ⟨#[92, 41]⟩ rfl)
   have c0 := fun (x : Later wr) => (HL.out.rd.next x.2).box.cell
   obtain ⟨bh, hbh⟩ : ∃ bh, bh = begins p j [92, 41] := ⟨_, rfl⟩
   rw [← hbh] at HHs HCB
   clear hbh HE
   by_cases hj : j < p.size
   case neg =>
    have g1 : decide ((j : Int) < (p.size : Int)) = false := decide_eq_false (by omega)
    have q1 : decide (j < p.size) = false := decide_eq_false hj
    have HX := hide (show cb = false from by rw [HCB.out, q1]; rfl)
    refine wp_region_later (by kernel_rfl) (by kernel_rfl) ?_
    repeat (go_big_quiet_step (with_reducible exact calls_later (HHs.out _)))
    refine wpQuiet_nil ?_
    intro w6 hw6
    obtain ⟨x, hxe⟩ := hw6
    have hbq : Below wr.heap.size wr w6 := hxe ▸ x.2
    have HBQ := hide hbq
    clear hxe x c0 HHs hbq
    go_wp2_with fail
    go_meet
    case rel => exact ⟨by rw [HX.out], HBQ.out⟩
   case pos =>
   have g1 : decide ((j : Int) < (p.size : Int)) = true := decide_eq_true (by omega)
   have q1 : decide (j < p.size) = true := decide_eq_true hj
   by_cases hdn : 0 < n
   case neg =>
    have g2 : decide ((0 : Int) < (n : Int)) = false := decide_eq_false (by omega)
    have q2 : decide (0 < n) = false := decide_eq_false hdn
    have HX := hide (show cb = true from by rw [HCB.out, q1, q2]; rfl)
    refine wp_region_later (by kernel_rfl) (by kernel_rfl) ?_
    repeat (go_big_quiet_step (with_reducible exact calls_later (HHs.out _)))
    refine wpQuiet_nil ?_
    intro w6 hw6
    obtain ⟨x, hxe⟩ := hw6
    have hbq : Below wr.heap.size wr w6 := hxe ▸ x.2
    have HBQ := hide hbq
    clear hxe x c0 HHs hbq
    go_wp2_with fail
    go_meet
    case rel => exact ⟨by rw [HX.out], HBQ.out⟩
   case pos =>
   have g2 : decide ((0 : Int) < (n : Int)) = true := decide_eq_true (by omega)
   have q2 : decide (0 < n) = true := decide_eq_true hdn
   cases bh with
   | false =>
    have HX := hide (show cb = true from by rw [HCB.out, q1, q2]; rfl)
    refine wp_region_later (by kernel_rfl) (by kernel_rfl) ?_
    repeat (go_big_quiet_step (with_reducible exact calls_later (HHs.out _)))
    refine wpQuiet_nil ?_
    intro w6 hw6
    obtain ⟨x, hxe⟩ := hw6
    have hbq : Below wr.heap.size wr w6 := hxe ▸ x.2
    have HBQ := hide hbq
    clear hxe x c0 HHs hbq
    go_wp2_with fail
    go_meet
    case rel => exact ⟨by rw [HX.out], HBQ.out⟩
   | true =>
    have HX := hide (show cb = false from by rw [HCB.out, q1, q2]; rfl)
    refine wp_region_later (by kernel_rfl) (by kernel_rfl) ?_
    repeat (go_big_quiet_step (with_reducible exact calls_later (HHs.out _)))
    refine wpQuiet_nil ?_
    intro w6 hw6
    obtain ⟨x, hxe⟩ := hw6
    have hbq : Below wr.heap.size wr w6 := hxe ▸ x.2
    have HBQ := hide hbq
    clear hxe x c0 HHs hbq
    go_wp2_with fail
    go_meet
    case rel => exact ⟨by rw [HX.out], HBQ.out⟩
  case rest =>
  rename World => wa
  obtain ⟨hv27, hbq⟩ := hcut
  subst hv27
  have HLa := hide (HL.out.next HBr.out hbq)
  have HBa := hide (Nat.le_trans HBr.out hbq.size)
  clear hbq HL HBr
  cases cb with
  | false =>
   have HE2 := hide (show res = .ok (T.seq acc) j g' from by
    rw [← HE.out, if_pos]
    have h1 := HCB.out
    simp only [begins, Bool.and_true] at h1
    by_cases hj : j < p.size
    ·refine .inr ?_
     rw [decide_eq_true hj] at h1
     simp only [Bool.true_and] at h1
     have h2 : (decide (0 < n) && (decide (pb p j = 92) && decide (pb p (j + 1) = 41))) = true := by
      cases hc : (decide (0 < n) && (decide (pb p j = 92) && decide (pb p (j + 1) = 41))) with
      | true => rfl
      | false => rw [hc] at h1; cases h1
     simp only [Bool.and_eq_true, decide_eq_true_eq] at h2
     exact ⟨decide_eq_true h2.1, h2.2.1, h2.2.2⟩
    ·exact .inl hj)
   go_upto_region 15 with fail
   obtain ⟨Al, cl, hlv, hinl⟩ := HLa.out.gx.in_
   subst hlv
   have HSq := hide (seq_any acc Al cl wa (by omega) (TL.In.same (Same.refl _ _) (fun b hb => hb.2.1) hinl))
   clear hinl
   go_wp2_with fail
   refine HSq.out.mono ?_
   intro e wq hfr
   obtain ⟨B2, c2, rfl, ⟨howb, hin2⟩, hbf⟩ := fresh_own (x := none) hfr (fun b hb => by cases hb)
   have HL2 := hide (HLa.out.next HBa.out hbf)
   have HOW := hide (And.intro howb hin2)
   have HZ2 := hide (show y.heap.size + 1 ≤ wa.heap.size from HLa.out.bx.lt)
   clear howb hin2 hbf hfr HSq
   go_wp2_with (refine wpList_store_node rfl _ _ rfl y.heap.size _ _ _ _ _ rfl rfl HL2.out.bx rfl ?_; intro w9 hrow9 hg9 hz9)
   refine bodyPost_ret (node_result rfl _ _ y.heap.size _ _ rfl hrow9) rfl ?_
   refine ⟨bok (t := T.seq acc) HE2.out HL2.out.rd HL2.out.fr ((show T.In wq (fun b => wa.heap.size ≤ b ∧ b < wq.heap.size ∧ none ≠ some b) (T.seq acc) B2 from HOW.out.2).same (Same.refl _ _) fun b hb => ⟨by have h1 := hb.1; have h2 := HZ2.out; omega, hb.2.1, fun e => by cases e⟩) hg9 HL2.out.bx HB.out, fun t2 j2 h2 e2 => ?_⟩
   rw [HE2.out] at e2
   injection e2 with e3
   subst e3
   exact ⟨B2, c2, rfl, (HOW.out.1.grown hg9 HZ2.out).lower (by have := HZ2.out; omega)⟩
  | true =>
  have hcont : j < p.size ∧ ¬ (decide (0 < n) = true ∧ pb p j = 92 ∧ pb p (j + 1) = 41) := by
   have h1 := HCB.out.symm
   simp only [begins, Bool.and_true, Bool.and_eq_true, decide_eq_true_eq] at h1
   refine ⟨h1.1, fun hh => ?_⟩
   have h2 := h1.2
   rw [hh.1, decide_eq_true hh.2.1, decide_eq_true hh.2.2] at h2
   cases h2
  have hj := hcont.1
  have HE2 := hide ((if_neg (fun hh => hh.elim (fun h1 => h1 hj) hcont.2)).symm.trans HE.out)
  clear hcont HE HCB
  obtain ⟨fb, hfb⟩ : ∃ fb : Bool, fb = (front && decide (pb p j = 94)) := ⟨_, rfl⟩
  have HFB := hide hfb
  clear hfb
  go_upto_region 6 with fail
  go_cut [34] (fun v34 wx => v34 = .bool fb ∧ Below wa.heap.size wa wx)
  case first =>
   cases front with
   | false =>
    have HX := hide (show fb = false from HFB.out)
    go_wp2_with fail
    go_meet
    case rel => exact ⟨by rw [HX.out], Below.refl _ _⟩
   | true =>
    have HX := hide (show begins p j [94] = fb from by rw [HFB.out]; simp [begins])
    have HHs := hide (breHas_any HLa.out.rd hp hjp [94] (by decide) ⟨#[94]⟩ rfl)
    rw [HX.out] at HHs
    go_wp2_with fail
    refine HHs.out.mono ?_
    rintro e wx ⟨rfl, hbx⟩
    have HBX := hide hbx
    clear hbx HHs
    go_wp2_with fail
    go_meet
    case rel => exact ⟨rfl, HBX.out⟩
  case rest =>
  rename World => wb
  obtain ⟨hv34, hbq⟩ := hcut
  subst hv34
  have HLb := hide (HLa.out.next HBa.out hbq)
  have HBb := hide (Nat.le_trans HBa.out hbq.size)
  clear hbq HLa HBa
  cases fb with
  | true =>
   have hff := HFB.out.symm
   rw [Bool.and_eq_true] at hff
   have HE3 := hide (show pattB p ic nl deeper (decide (0 < n)) k false star (j + 1) g' (acc ++ [begT]) = res from by rw [← HE2.out, if_pos ⟨hff.1, of_decide_eq_true hff.2⟩])
   clear hff HE2 HFB
   have c5 := HLb.out.rd.box.cell
   have f5 := HLb.out.rd.box.frozen
   have HE1 := hide (show (j : Int) + 1 = ((j + 1 : Nat) : Int) from rfl)
   go_upto_region 8 with fail
   rw [HE1.out]
   have HS := hide (HLb.out.step HGY.out (j + 1))
   have HBw := hide (show B0 ≤ (wb.setCell ⟨gr, 1, none⟩ (.int .i64 ((j + 1 : Nat) : Int))).heap.size from by rw [World.size_setCell]; exact HBb.out)
   generalize (wb.setCell ⟨gr, 1, none⟩ (.int .i64 ((j + 1 : Nat) : Int))) = ws at *
   clear c5 f5 HLb HBb HPc 
   have HQ0 := hide (And.intro HS.out.rd (And.intro HS.out.fr (And.intro HS.out.bx (And.intro HS.out.gx (show T.In ws (fun b => y.heap.size + 1 ≤ b ∧ b < ws.heap.size ∧ some b ≠ u3.ownBlock ∧ none ≠ some b) begT none from T.In_iff.2 trivial)))))
   have hal := (Below.refl ws.heap.size ws).alloc (Nat.le_refl _) (.cells #[.int .i64 3, .int .u64 0, .int .u64 0, .int .u64 0, .int .u64 0, .slice none 0 0, .int .i64 0, .int .i64 0, .int .i64 0, .bool false] 27)
   have HQ := hide (And.intro (HQ0.out.1.next hal) (And.intro (HQ0.out.2.1.next HBw.out hal) (And.intro (HQ0.out.2.2.1.next hal) (And.intro (HQ0.out.2.2.2.1.next hal) (HQ0.out.2.2.2.2.same (ok' := fun b => y.heap.size + 1 ≤ b ∧ b < (ws.alloc (.cells #[.int .i64 3, .int .u64 0, .int .u64 0, .int .u64 0, .int .u64 0, .slice none 0 0, .int .i64 0, .int .i64 0, .int .i64 0, .bool false] 27)).heap.size ∧ some b ≠ u3.ownBlock ∧ none ≠ some b) ((same_of_below hal).mono fun b hb => hb.2.1) fun b hb => ⟨hb.1, Nat.lt_of_lt_of_le hb.2.1 hal.size, hb.2.2⟩)))))
   have HBs := hide (show y.heap.size + 1 ≤ (ws.alloc (.cells #[.int .i64 3, .int .u64 0, .int .u64 0, .int .u64 0, .int .u64 0, .slice none 0 0, .int .i64 0, .int .i64 0, .int .i64 0, .bool false] 27)).heap.size from HQ.out.2.2.1.lt)
   have hll : acc.length < 1000000 := by omega
   clear hal
   go_wp2_with (at_builtin; refine wpList_append_nodeX rfl _ _ rfl (y.heap.size + 1) none _ acc rfl HQ.out.2.2.2.1 (fun b hb => by cases hb) (begT) none 0 ws.heap.size 1 rfl (Blk.new _ _ _) HQ.out.2.2.2.2 hll HBs.out ?_)
   intro v5 w5 hgx5 hg5
   have hlt := HQ.out.2.2.2.1.lt
   have hgr := HGR.out
   have n1 : u3.ownBlock ≠ some gr := fun e => by have := (hlt gr e).1; omega
   have n2 : u3.ownBlock ≠ some y.heap.size := fun e => by have := (hlt _ e).1; omega
   have HF := hide (show LpB B0 gr p fl n y w5 v5 (j + 1) g' (acc ++ [begT]) from ⟨HQ.out.1.grown hg5 n1 (.inl rfl), HQ.out.2.1.grown hg5 (fun b e => by have := (hlt b e).1; omega) HB.out, HQ.out.2.2.1.grown hg5 (fun e => n2 e.symm), hgx5⟩)
   clear hgx5 hg5 hlt hgr n1 n2
   go_wp2_with fail
   go_roundw
   case rel => exact ⟨j + 1, g', k, acc ++ [begT], false, star, rfl, rfl, HF.out, by omega, by omega, by omega, by simp; omega, by rw [TL.nodes_snoc]; simp only [begT, T.nodes, TL.nodes]; omega, by omega, HE3.out⟩
   case measure => rw [rbLeft_at HF.out.rd, HMs.out]; omega
  | false =>
  have hnf : ¬ (front = true ∧ pb p j = 94) := fun hh => by have h1 := HFB.out; rw [hh.1, decide_eq_true hh.2] at h1; cases h1
  have HE3 := hide ((if_neg hnf).symm.trans HE2.out)
  clear hnf
  clear HE2 HFB
  have c0 := HLb.out.rd.box.cell
  obtain ⟨s, hs⟩ : ∃ s, s = p.extract j p.size := ⟨_, rfl⟩
  obtain ⟨sd, hsd⟩ : ∃ sd : Bool, sd = decide (pb p j = 36 ∧ j + 1 = p.size) := ⟨_, rfl⟩
  have hdb : (s.toList == [36]) = sd := by rw [hs, dollar_bool hjp, hsd]
  have HSD := hide hsd
  have hse := hs.symm
  have k1 : (j : Int) ≤ (p.size : Int) := by omega
  clear hs hsd
  go_upto_region 10 with fail
  go_big_quiet (fail)
  have hbq := below_drewN6 (Below.refl wb.heap.size wb) nq
  have HLc := hide (HLb.out.next HBb.out hbq)
  have HBc := hide (Nat.le_trans HBb.out hbq.size)
  clear c0 hbq HLb HBb k1 hse
  generalize wb.drewN nq = wc at *
  cases sd with
  | true =>
   have h36 := of_decide_eq_true HSD.out.symm
   have HE4 := hide (show pattB p ic nl deeper (decide (0 < n)) k false false (j + 1) g' (acc ++ [endT]) = res from by rw [← HE3.out, if_pos ⟨h36.1, .inl h36.2⟩])
   clear HE3 HSD h36
   have c5 := HLc.out.rd.box.cell
   have f5 := HLc.out.rd.box.frozen
   have HE1 := hide (show (j : Int) + 1 = ((j + 1 : Nat) : Int) from rfl)
   go_upto_region 13 with fail
   rw [HE1.out]
   have HS := hide (HLc.out.step HGY.out (j + 1))
   have HBw := hide (show B0 ≤ (wc.setCell ⟨gr, 1, none⟩ (.int .i64 ((j + 1 : Nat) : Int))).heap.size from by rw [World.size_setCell]; exact HBc.out)
   generalize (wc.setCell ⟨gr, 1, none⟩ (.int .i64 ((j + 1 : Nat) : Int))) = ws at *
   clear c5 f5 HLc HBc HPc hdb 
   have HQ0 := hide (And.intro HS.out.rd (And.intro HS.out.fr (And.intro HS.out.bx (And.intro HS.out.gx (show T.In ws (fun b => y.heap.size + 1 ≤ b ∧ b < ws.heap.size ∧ some b ≠ u3.ownBlock ∧ none ≠ some b) endT none from T.In_iff.2 trivial)))))
   have hal := (Below.refl ws.heap.size ws).alloc (Nat.le_refl _) (.cells #[.int .i64 4, .int .u64 0, .int .u64 0, .int .u64 0, .int .u64 0, .slice none 0 0, .int .i64 0, .int .i64 0, .int .i64 0, .bool false] 27)
   have HQ := hide (And.intro (HQ0.out.1.next hal) (And.intro (HQ0.out.2.1.next HBw.out hal) (And.intro (HQ0.out.2.2.1.next hal) (And.intro (HQ0.out.2.2.2.1.next hal) (HQ0.out.2.2.2.2.same (ok' := fun b => y.heap.size + 1 ≤ b ∧ b < (ws.alloc (.cells #[.int .i64 4, .int .u64 0, .int .u64 0, .int .u64 0, .int .u64 0, .slice none 0 0, .int .i64 0, .int .i64 0, .int .i64 0, .bool false] 27)).heap.size ∧ some b ≠ u3.ownBlock ∧ none ≠ some b) ((same_of_below hal).mono fun b hb => hb.2.1) fun b hb => ⟨hb.1, Nat.lt_of_lt_of_le hb.2.1 hal.size, hb.2.2⟩)))))
   have HBs := hide (show y.heap.size + 1 ≤ (ws.alloc (.cells #[.int .i64 4, .int .u64 0, .int .u64 0, .int .u64 0, .int .u64 0, .slice none 0 0, .int .i64 0, .int .i64 0, .int .i64 0, .bool false] 27)).heap.size from HQ.out.2.2.1.lt)
   have hll : acc.length < 1000000 := by omega
   clear hal
   go_wp2_with (at_builtin; refine wpList_append_nodeX rfl _ _ rfl (y.heap.size + 1) none _ acc rfl HQ.out.2.2.2.1 (fun b hb => by cases hb) (endT) none 0 ws.heap.size 1 rfl (Blk.new _ _ _) HQ.out.2.2.2.2 hll HBs.out ?_)
   intro v5 w5 hgx5 hg5
   have hlt := HQ.out.2.2.2.1.lt
   have hgr := HGR.out
   have n1 : u3.ownBlock ≠ some gr := fun e => by have := (hlt gr e).1; omega
   have n2 : u3.ownBlock ≠ some y.heap.size := fun e => by have := (hlt _ e).1; omega
   have HF := hide (show LpB B0 gr p fl n y w5 v5 (j + 1) g' (acc ++ [endT]) from ⟨HQ.out.1.grown hg5 n1 (.inl rfl), HQ.out.2.1.grown hg5 (fun b e => by have := (hlt b e).1; omega) HB.out, HQ.out.2.2.1.grown hg5 (fun e => n2 e.symm), hgx5⟩)
   clear hgx5 hg5 hlt hgr n1 n2
   go_wp2_with fail
   go_roundw
   case rel => exact ⟨j + 1, g', k, acc ++ [endT], false, false, rfl, rfl, HF.out, by omega, by omega, by omega, by simp; omega, by rw [TL.nodes_snoc]; simp only [endT, T.nodes, TL.nodes]; omega, by omega, HE4.out⟩
   case measure => rw [rbLeft_at HF.out.rd, HMs.out]; omega
  | false =>
  obtain ⟨db, hdb2⟩ : ∃ db, db = begins p j [36, 92, 41] := ⟨_, rfl⟩
  have HHs := hide (breHas_any HLc.out.rd hp hjp [36, 92, 41] (by decide) ⟨#[36, 92, 41]⟩ rfl)
  rw [← hdb2] at HHs
  have HDB := hide hdb2
  clear hdb2
  go_wp2_with fail
  refine HHs.out.mono ?_
  rintro e wd ⟨rfl, hbd⟩
  have HLd := hide (HLc.out.next HBc.out hbd)
  have HBd := hide (Nat.le_trans HBc.out hbd.size)
  clear hbd HHs HLc HBc hdb
  cases db with
  | true =>
   have h36 := HDB.out.symm
   simp only [begins, Bool.and_true, Bool.and_eq_true, decide_eq_true_eq] at h36
   have HE4 := hide (show pattB p ic nl deeper (decide (0 < n)) k false false (j + 1) g' (acc ++ [endT]) = res from by rw [← HE3.out, if_pos ⟨h36.1, .inr ⟨h36.2.1, h36.2.2⟩⟩])
   clear HE3 HSD HDB h36
   have c5 := HLd.out.rd.box.cell
   have f5 := HLd.out.rd.box.frozen
   have HE1 := hide (show (j : Int) + 1 = ((j + 1 : Nat) : Int) from rfl)
   go_upto_region 13 with fail
   rw [HE1.out]
   have HS := hide (HLd.out.step HGY.out (j + 1))
   have HBw := hide (show B0 ≤ (wd.setCell ⟨gr, 1, none⟩ (.int .i64 ((j + 1 : Nat) : Int))).heap.size from by rw [World.size_setCell]; exact HBd.out)
   generalize (wd.setCell ⟨gr, 1, none⟩ (.int .i64 ((j + 1 : Nat) : Int))) = ws at *
   clear c5 f5 HLd HBd HPc 
   have HQ0 := hide (And.intro HS.out.rd (And.intro HS.out.fr (And.intro HS.out.bx (And.intro HS.out.gx (show T.In ws (fun b => y.heap.size + 1 ≤ b ∧ b < ws.heap.size ∧ some b ≠ u3.ownBlock ∧ none ≠ some b) endT none from T.In_iff.2 trivial)))))
   have hal := (Below.refl ws.heap.size ws).alloc (Nat.le_refl _) (.cells #[.int .i64 4, .int .u64 0, .int .u64 0, .int .u64 0, .int .u64 0, .slice none 0 0, .int .i64 0, .int .i64 0, .int .i64 0, .bool false] 27)
   have HQ := hide (And.intro (HQ0.out.1.next hal) (And.intro (HQ0.out.2.1.next HBw.out hal) (And.intro (HQ0.out.2.2.1.next hal) (And.intro (HQ0.out.2.2.2.1.next hal) (HQ0.out.2.2.2.2.same (ok' := fun b => y.heap.size + 1 ≤ b ∧ b < (ws.alloc (.cells #[.int .i64 4, .int .u64 0, .int .u64 0, .int .u64 0, .int .u64 0, .slice none 0 0, .int .i64 0, .int .i64 0, .int .i64 0, .bool false] 27)).heap.size ∧ some b ≠ u3.ownBlock ∧ none ≠ some b) ((same_of_below hal).mono fun b hb => hb.2.1) fun b hb => ⟨hb.1, Nat.lt_of_lt_of_le hb.2.1 hal.size, hb.2.2⟩)))))
   have HBs := hide (show y.heap.size + 1 ≤ (ws.alloc (.cells #[.int .i64 4, .int .u64 0, .int .u64 0, .int .u64 0, .int .u64 0, .slice none 0 0, .int .i64 0, .int .i64 0, .int .i64 0, .bool false] 27)).heap.size from HQ.out.2.2.1.lt)
   have hll : acc.length < 1000000 := by omega
   clear hal
   go_wp2_with (at_builtin; refine wpList_append_nodeX rfl _ _ rfl (y.heap.size + 1) none _ acc rfl HQ.out.2.2.2.1 (fun b hb => by cases hb) (endT) none 0 ws.heap.size 1 rfl (Blk.new _ _ _) HQ.out.2.2.2.2 hll HBs.out ?_)
   intro v5 w5 hgx5 hg5
   have hlt := HQ.out.2.2.2.1.lt
   have hgr := HGR.out
   have n1 : u3.ownBlock ≠ some gr := fun e => by have := (hlt gr e).1; omega
   have n2 : u3.ownBlock ≠ some y.heap.size := fun e => by have := (hlt _ e).1; omega
   have HF := hide (show LpB B0 gr p fl n y w5 v5 (j + 1) g' (acc ++ [endT]) from ⟨HQ.out.1.grown hg5 n1 (.inl rfl), HQ.out.2.1.grown hg5 (fun b e => by have := (hlt b e).1; omega) HB.out, HQ.out.2.2.1.grown hg5 (fun e => n2 e.symm), hgx5⟩)
   clear hgx5 hg5 hlt hgr n1 n2
   go_wp2_with fail
   go_roundw
   case rel => exact ⟨j + 1, g', k, acc ++ [endT], false, false, rfl, rfl, HF.out, by omega, by omega, by omega, by simp; omega, by rw [TL.nodes_snoc]; simp only [endT, T.nodes, TL.nodes]; omega, by omega, HE4.out⟩
   case measure => rw [rbLeft_at HF.out.rd, HMs.out]; omega
  | false =>
  have hno : ¬ (pb p j = 36 ∧ (j + 1 = p.size ∨ (pb p (j + 1) = 92 ∧ pb p (j + 2) = 41))) := by
   rintro ⟨h1, h2 | h2⟩
   ·have h3 := HSD.out; rw [decide_eq_true ⟨h1, h2⟩] at h3; cases h3
   ·have h3 := HDB.out; simp [begins, h1, h2] at h3
  have HE4 := hide ((if_neg hno).symm.trans HE3.out)
  have HPj := hide (HPc.out wd star j g' HLd.out.rd hj hgj HBd.out (fun y' hy => HM.out y' (HLd.out.fr.below.trans hy)))
  clear HE3 HSD HDB hno HPc
  go_wp2_with fail
  refine HPj.out.1.mono ?_
  intro e z hz
  cases hq : pieceB p ic nl deeper star j g' with
  | bad c pl =>
   rw [hq] at hz
   simp only [hq] at HE4
   have HPn := hide (PanB.from hz HLd.out.fr)
   obtain ⟨gf, rfl, hfi, hff⟩ := hz
   clear hfi hff hq HPj
   unfold faultV
   go_wp2_with fail
   refine ⟨rfl, ?_⟩
   exact ⟨bbad HE4.out.symm HPn.out, fun t2 j2 h2 e2 => by rw [← HE4.out] at e2; cases e2⟩
  | ok t k2 q =>
   have hfine := HPj.out.2
   rw [hq] at hz hfine
   simp only [hq] at HE4
   simp only [PR.Fine] at hfine
   obtain ⟨B, cc, rfl, hin, hE, hF⟩ := hz
   have HQ0 := hide (And.intro hE (And.intro (HLd.out.fr.trans hF) (And.intro (hF.blk_ HLd.out.bx (blk_ne6 HLd.out.bx HLd.out.rd.box (by decide)) (by simp)) (And.intro (HLd.out.gx.rdf (B0 := B0) (y := wd) HGR.out hF) (show T.In z (fun b => y.heap.size + 1 ≤ b ∧ b < z.heap.size ∧ some b ≠ u3.ownBlock ∧ none ≠ some b) t B from hin.same (Same.refl _ _) fun b hb => ⟨by have h1 := HLd.out.bx.lt; have h2 := hb.1; omega, hb.2, fun e => by have h1 := (HLd.out.gx.lt b e.symm).2; have h2 := hb.1; omega, fun e => by cases e⟩)))))
   have HBw := hide (Nat.le_trans HBd.out hF.below.size)
   clear hin hE hF hq HPj
   simp only [Hd.cells]
   have hal := (Below.refl z.heap.size z).alloc (Nat.le_refl _) (.cells #[.int .i64 t.hd.kind, .int .u64 t.hd.s0, .int .u64 t.hd.s1, .int .u64 t.hd.s2, .int .u64 t.hd.s3, .slice B t.subs.length cc, .int .i64 t.hd.num, .int .i64 t.hd.min, .int .i64 t.hd.max, .bool t.hd.bare] 27)
   have HQ := hide (And.intro (HQ0.out.1.next hal) (And.intro (HQ0.out.2.1.next HBw.out hal) (And.intro (HQ0.out.2.2.1.next hal) (And.intro (HQ0.out.2.2.2.1.next hal) (HQ0.out.2.2.2.2.same (ok' := fun b => y.heap.size + 1 ≤ b ∧ b < (z.alloc (.cells #[.int .i64 t.hd.kind, .int .u64 t.hd.s0, .int .u64 t.hd.s1, .int .u64 t.hd.s2, .int .u64 t.hd.s3, .slice B t.subs.length cc, .int .i64 t.hd.num, .int .i64 t.hd.min, .int .i64 t.hd.max, .bool t.hd.bare] 27)).heap.size ∧ some b ≠ u3.ownBlock ∧ none ≠ some b) ((same_of_below hal).mono fun b hb => hb.2.1) fun b hb => ⟨hb.1, Nat.lt_of_lt_of_le hb.2.1 hal.size, hb.2.2⟩)))))
   have HBs := hide (show y.heap.size + 1 ≤ (z.alloc (.cells #[.int .i64 t.hd.kind, .int .u64 t.hd.s0, .int .u64 t.hd.s1, .int .u64 t.hd.s2, .int .u64 t.hd.s3, .slice B t.subs.length cc, .int .i64 t.hd.num, .int .i64 t.hd.min, .int .i64 t.hd.max, .bool t.hd.bare] 27)).heap.size from HQ.out.2.2.1.lt)
   have hll : acc.length < 1000000 := by omega
   clear hal
   go_wp2_with (at_builtin; refine wpList_append_nodeX rfl _ _ rfl (y.heap.size + 1) none _ acc rfl HQ.out.2.2.2.1 (fun b hb => by cases hb) (t) B cc z.heap.size 1 rfl (Blk.new _ _ _) HQ.out.2.2.2.2 hll HBs.out ?_)
   intro v5 w5 hgx5 hg5
   have hlt := HQ.out.2.2.2.1.lt
   have hgr := HGR.out
   have n1 : u3.ownBlock ≠ some gr := fun e => by have := (hlt gr e).1; omega
   have n2 : u3.ownBlock ≠ some y.heap.size := fun e => by have := (hlt _ e).1; omega
   have HF := hide (show LpB B0 gr p fl n y w5 v5 k2 q (acc ++ [t]) from ⟨HQ.out.1.grown hg5 n1 (.inl rfl), HQ.out.2.1.grown hg5 (fun b e => by have := (hlt b e).1; omega) HB.out, HQ.out.2.2.1.grown hg5 (fun e => n2 e.symm), hgx5⟩)
   clear hgx5 hg5 hlt hgr n1 n2
   go_wp2_with fail
   go_roundw
   case rel => exact ⟨k2, q, k, acc ++ [t], false, false, rfl, rfl, HF.out, by omega, by omega, by omega, by simp; omega, by rw [TL.nodes_snoc]; omega, by omega, HE4.out⟩
   case measure => rw [rbLeft_at HF.out.rd, HMs.out]; omega
end Go.Proofs.YtpkcklpjbeginaaGreatDoor

/-! ## BreG -/
namespace Go.Proofs.YtpkcklpjbeginaaGreatDoor
open Go.RowKit

/-- A pattern in which groups may stand: by how deep they already do. -/
theorem brePatt_all {gr B0 : Nat} {p : ByteArray} {fl : Int} {a : Nat → Addr} {m : Int} (hp : p.size ≤ 1024) : ∀ (k n : Nat), n + k = 32 →
  PattB a m gr B0 p fl n (deepB p (!decide (bits .and .i64 fl 2 = 0)) (!decide (bits .and .i64 fl 4 = 0)) k (decide (0 < n)))
 | 0, n, hk => fun y i g h hi hgi hB hm => by
  rw [deepB]
  exact (brePattern_any (breGroup_any (by omega) hp (.inl ⟨rfl, by omega⟩)) (fun f e => by cases e) h hp hi hgi hB hm).mono fun e y' hh => hh.1
 | k + 1, n, hk => fun y i g h hi hgi hB hm => by
  have ih := brePatt_all hp k (n + 1) (by omega) (gr := gr) (B0 := B0) (fl := fl) (a := a) (m := m)
  rw [decide_eq_true (show 0 < n + 1 by omega)] at ih
  rw [deepB]
  exact (brePattern_any (breGroup_any (by omega) hp (.inr ⟨_, rfl, by omega, ih, fun i g hi => deepB_fine k true i g hi⟩)) (deepB_dfine k) h hp hi hgi hB hm).mono fun e y' hh => hh.1
/-- The whole pattern: its tree is the caller's own. -/
theorem brePatt_top {gr B0 : Nat} {p : ByteArray} {fl : Int} {a : Nat → Addr} {m : Int} (hp : p.size ≤ 1024) (y : World) (h : RdB y gr B0 p 0 fl 0 0) (hB : B0 ≤ y.heap.size) (hm : ∀ y', Below B0 y y' → B5 y' a m) :
  Calls Tryz.prog 43 #[.pointer (some ⟨gr, 0, none⟩)] y (EPBO a gr B0 p fl 0 y (deepB p (!decide (bits .and .i64 fl 2 = 0)) (!decide (bits .and .i64 fl 4 = 0)) 32 false 0 0)) := by
 have ih := brePatt_all hp 31 1 rfl (gr := gr) (B0 := B0) (fl := fl) (a := a) (m := m)
 exact brePattern_any (n := 0) (breGroup_any (by omega) hp (.inr ⟨_, rfl, by omega, ih, fun i g hi => deepB_fine 31 true i g hi⟩)) (deepB_dfine 31) h hp (Nat.zero_le _) (Nat.le_refl _) hB hm
theorem Tryz.assertB (v : Value) (w : World) : (Instr.typeAssert (.iface 72 v) 20 72 true).run Tryz.prog w = .ok (.tuple #[v, .bool true]) w := by
 simp [Instr.typeAssert, run_underlying Tryz.underlying72, go_sem, Result.andThen]
/-- What lies in the three result variables. -/
def Res3 (w : World) (g4 g5 g6 : Nat) (c4 : Array Value) (v5 v6 : Value) : Prop := Blk w g4 27 c4 ∧ Blk w g5 3 #[v5] ∧ Blk w g6 32 #[v6]
set_option maxRecDepth 100000 in
set_option maxHeartbeats 2000000 in
/-- The deferred closure behind a panic of the reader's. -/
theorem breCatch_pan (g4 g5 g6 gf : Nat) (older : List PanicEntry) (w : World) (c4 : Array Value) (v5 v6 : Value) (h : Res3 w g4 g5 g6 c4 v5 v6) (hc4 : c4.size = 10) (hd : g4 < g5 ∧ g5 < g6) :
  CallsD Tryz.prog 42 #[.pointer (some ⟨g4, 0, none⟩), .pointer (some ⟨g5, 0, none⟩), .pointer (some ⟨g6, 0, none⟩)] (.panicking ({ v := .iface 72 (.agg #[(.iface 83 (.pointer (some ⟨gf, 0, none⟩)))]), recovered := false } :: older)) w fun e u' w' =>
   e = .returned (.tuple #[]) ∧ u' = .panicking ({ v := .iface 72 (.agg #[(.iface 83 (.pointer (some ⟨gf, 0, none⟩)))]), recovered := true } :: older) ∧ Res3 w' g4 g5 g6 #[.int .i64 0, .int .u64 0, .int .u64 0, .int .u64 0, .int .u64 0, .slice none 0 0, .int .i64 0, .int .i64 0, .int .i64 0, .bool false] (.int .i64 0) (.iface 83 (.pointer (some ⟨gf, 0, none⟩))) ∧ Only (fun b => b = g4 ∨ b = g5 ∨ b = g6) w w' := by
 have hn0 := fun w => run_eql_iface_nil (P := Tryz.prog) (w := w) 20 (by kernel_rfl) 72 (.agg #[(.iface 83 (.pointer (some ⟨gf, 0, none⟩)))])
 have hta := fun w => Tryz.assertB (.agg #[(.iface 83 (.pointer (some ⟨gf, 0, none⟩)))]) w
 have H0 := hide h
 have HD := hide (And.intro hd hc4)
 clear h hd hc4
 refine callsD_of_wpS Tryz.func42 rfl fun c₀ cs hu => ?_
 apply wpS_seq
 apply wpS_region
 have hrep : (Array.replicate 12 undef : Array Value) = #[undef, undef, undef, undef, undef, undef, undef, undef, undef, undef, undef, undef] := rfl
 simp [wpOpsS, go_sem, recoverD, hu, Tryz.ntmps42, Exit.thenS, hrep]
 refine wpS_of_wp ?_
 go_upto_region 7 with fail
 have hal := (Below.refl w.heap.size w).alloc (Nat.le_refl _) (.cells #[(.iface 83 (.pointer (some ⟨gf, 0, none⟩)))] 72)
 have hbx := Blk.new w 72 #[(.iface 83 (.pointer (some ⟨gf, 0, none⟩)))]
 have H1 := hide (And.intro (H0.out.1.next hal) (And.intro (H0.out.2.1.next hal) (H0.out.2.2.next hal)))
 have HAL := hide hal
 have HLT := hide (And.intro H0.out.1.lt (And.intro H0.out.2.1.lt H0.out.2.2.lt))
 clear hal
 generalize (w.alloc (.cells #[(.iface 83 (.pointer (some ⟨gf, 0, none⟩)))] 72)) = W at *
 refine wp_region_mix (fun z => Blk z w.heap.size 72 #[(.iface 83 (.pointer (some ⟨gf, 0, none⟩)))]) [] (by kernel_rfl) (fun hcl => ?_)
 generalize hz0 : W.drew = z0
 have hbd : Below W.heap.size W z0 := by rw [← hz0]; exact (Below.refl _ _).drew
 have hS : Blk z0 w.heap.size 72 #[(.iface 83 (.pointer (some ⟨gf, 0, none⟩)))] := hbx.next hbd
 have H2 := hide (And.intro (H1.out.1.next hbd) (And.intro (H1.out.2.1.next hbd) (H1.out.2.2.next hbd)))
 have HB2 := hide (HAL.out.trans (hbd.mono HAL.out.size))
 clear hz0 hbd hbx
 refine wpAnyT_free (i := 0) hcl rfl (by kernel_rfl) (v := ?_) (fun _ _ _ h => h) hS (Or.inl ⟨rfl, fun w' _ => ?_⟩) (fun hcl => ?_)
 rotate_left
 ·go_simp
  with_reducible rfl
 simp only [List.getElem_toArray, List.getElem_cons_zero, List.getElem_cons_succ, Act.put, List.setIfInBounds_toArray, List.set_cons_zero, List.set_cons_succ]
 refine wpAnyT_free (i := 1) hcl rfl (by kernel_rfl) (v := ?_) (fun _ _ _ h => h) hS (Or.inl ⟨rfl, fun w' _ => ?_⟩) (fun hcl => ?_)
 rotate_left
 ·go_simp
  with_reducible rfl
 simp only [List.getElem_toArray, List.getElem_cons_zero, List.getElem_cons_succ, Act.put, List.setIfInBounds_toArray, List.set_cons_zero, List.set_cons_succ]
 refine wpAnyT_take (i := 2) hcl rfl (by kernel_rfl) (v := ?_) (fun _ _ _ h => h) hS (Or.inl ⟨rfl, fun w' hS => ?_⟩) (fun hcl => ?_)
 rotate_left
 ·skip
  have cr : ∀ i : Nat, _ = _ := hS.cell
  go_simp
  with_reducible rfl
 simp only [List.getElem_toArray, List.getElem_cons_zero, List.getElem_cons_succ, Act.put, List.setIfInBounds_toArray, List.set_cons_zero, List.set_cons_succ]
 have HS0 := hide hS
 clear hS
 refine wpAnyT_step (i := 3) hcl rfl (by kernel_rfl) (fun hcl => ?_)
 simp only [List.getElem_toArray, List.getElem_cons_zero, List.getElem_cons_succ, Act.put, List.setIfInBounds_toArray, List.set_cons_zero, List.set_cons_succ]
 refine wpList_store_node rfl _ _ rfl g4 _ ⟨0, 0, 0, 0, 0, 0, 0, 0, false⟩ none 0 0 rfl rfl H2.out.1 HD.out.2 ?_
 intro w9 hrow9 hg9 hz9
 refine wpList_nil ?_
 have H3 := hide (And.intro (show Blk w9 g4 27 #[.int .i64 0, .int .u64 0, .int .u64 0, .int .u64 0, .int .u64 0, .slice none 0 0, .int .i64 0, .int .i64 0, .int .i64 0, .bool false] from hrow9) (And.intro (H2.out.2.1.grown hg9 (fun e => by have := Option.some.inj e; have := HD.out.1; omega)) (And.intro (H2.out.2.2.grown hg9 (fun e => by have := Option.some.inj e; have := HD.out.1; omega)) (And.intro (HS0.out.grown hg9 (fun e => by have := Option.some.inj e; have := HLT.out.1; omega)) (Only.of_grown (bs := fun b => b = g4) hg9 (fun q hq => (Option.some.inj hq).symm))))))
 refine ⟨H3.out.2.2.2.1, ?_⟩
 clear hrow9 hg9 hz9 HS0
 refine wpAnyT_step (i := 4) hcl rfl (by kernel_rfl) (fun hcl => ?_)
 simp only [List.getElem_toArray, List.getElem_cons_zero, List.getElem_cons_succ, Act.put, List.setIfInBounds_toArray, List.set_cons_zero, List.set_cons_succ]
 have c5 := H3.out.2.1.cell
 have f5 := H3.out.2.1.frozen
 go_wp2_with fail
 have H4 := hide (And.intro (H3.out.1.far (p := ⟨g5, 0, none⟩) (show g4 ≠ g5 by have := HD.out.1; omega) (.int .i64 0)) (And.intro (H3.out.2.1.set_ 0 (.int .i64 0)) (And.intro (H3.out.2.2.1.far (p := ⟨g5, 0, none⟩) (show g6 ≠ g5 by have := HD.out.1; omega) (.int .i64 0)) (And.intro (H3.out.2.2.2.1.far (p := ⟨g5, 0, none⟩) (show w.heap.size ≠ g5 by have := HLT.out; omega) (.int .i64 0)) ((Only.refl (fun b => b = g5) w9).setCell (p := ⟨g5, 0, none⟩) (.inl rfl) (.int .i64 0))))))
 refine ⟨H4.out.2.2.2.1, ?_⟩
 clear c5 f5
 generalize (w9.setCell ⟨g5, 0, none⟩ (.int .i64 0)) = w10 at *
 refine wpAnyT_step (i := 5) hcl rfl (by kernel_rfl) (fun hcl => ?_)
 simp only [List.getElem_toArray, List.getElem_cons_zero, List.getElem_cons_succ, Act.put, List.setIfInBounds_toArray, List.set_cons_zero, List.set_cons_succ]
 have c6 := H4.out.2.2.1.cell
 have f6 := H4.out.2.2.1.frozen
 go_wp2_with fail
 have H5 := hide (And.intro (H4.out.1.far (p := ⟨g6, 0, none⟩) (show g4 ≠ g6 by have := HD.out.1; omega) (.iface 83 (.pointer (some ⟨gf, 0, none⟩)))) (And.intro (H4.out.2.1.far (p := ⟨g6, 0, none⟩) (show g5 ≠ g6 by have := HD.out.1; omega) (.iface 83 (.pointer (some ⟨gf, 0, none⟩)))) (And.intro (H4.out.2.2.1.set_ 0 (.iface 83 (.pointer (some ⟨gf, 0, none⟩)))) (And.intro (H4.out.2.2.2.1.far (p := ⟨g6, 0, none⟩) (show w.heap.size ≠ g6 by have := HLT.out; omega) (.iface 83 (.pointer (some ⟨gf, 0, none⟩)))) ((Only.refl (fun b => b = g6) w10).setCell (p := ⟨g6, 0, none⟩) (.inl rfl) (.iface 83 (.pointer (some ⟨gf, 0, none⟩))))))))
 refine ⟨H5.out.2.2.2.1, ?_⟩
 clear c6 f6
 generalize (w10.setCell ⟨g6, 0, none⟩ (.iface 83 (.pointer (some ⟨gf, 0, none⟩)))) = w11 at *
 refine wpAnyT_done (by kernel_rfl) ?_ _
 have hon : Only (fun b => b = g4 ∨ b = g5 ∨ b = g6) w w11 := ((((Only.of_below HB2.out).trans (H3.out.2.2.2.2.mono fun b _ h => .inl h)).trans (H4.out.2.2.2.2.mono fun b _ h => .inr (.inl h)))).trans (H5.out.2.2.2.2.mono fun b _ h => .inr (.inr h))
 have HR := hide (And.intro (show Res3 w11 g4 g5 g6 #[.int .i64 0, .int .u64 0, .int .u64 0, .int .u64 0, .int .u64 0, .slice none 0 0, .int .i64 0, .int .i64 0, .int .i64 0, .bool false] (.int .i64 0) (.iface 83 (.pointer (some ⟨gf, 0, none⟩))) from ⟨H5.out.1, H5.out.2.1, H5.out.2.2.1⟩) hon)
 clear hon H5 H4 H3 H2 H1 HLT HB2
 go_wp2_with fail
 cases c₀
 simp_all [bodyPostS, results, Tryz.results42]
 exact HR.out
set_option maxRecDepth 100000 in
set_option maxHeartbeats 2000000 in
/-- The deferred closure behind a return: nothing to do. -/
theorem breCatch_idle (g4 g5 g6 : Nat) (w : World) :
  CallsD Tryz.prog 42 #[.pointer (some ⟨g4, 0, none⟩), .pointer (some ⟨g5, 0, none⟩), .pointer (some ⟨g6, 0, none⟩)] .returning w fun e u' w' => e = .returned (.tuple #[]) ∧ u' = .returning ∧ w' = w := by
 have hn0 := fun w => run_eql_nil_nil_at (P := Tryz.prog) (w := w) 20 (by kernel_rfl)
 refine callsD_of_wpS Tryz.func42 rfl fun c₀ cs hu => ?_
 apply wpS_seq
 apply wpS_region
 have hrep : (Array.replicate 12 undef : Array Value) = #[undef, undef, undef, undef, undef, undef, undef, undef, undef, undef, undef, undef] := rfl
 simp [wpOpsS, go_sem, recoverD, hu, Tryz.ntmps42, Exit.thenS, hrep]
 refine wpS_of_wp ?_
 go_wp2_with fail
 cases c₀
 simp_all [bodyPostS, results, Tryz.results42]
set_option maxHeartbeats 1000000 in
/-- The three result variables are read. -/
theorem res3_run {tmps : Array Value} {w : World} {g4 g5 g6 : Nat} {h : Hd} {v v6 : Value} {z : Int} (hr : Res3 w g4 g5 g6 (h.cells v).toArray (.int .i64 z) v6) (t4 : tmps[4]?.getD undef = .pointer (some ⟨g4, 0, none⟩)) (t5 : tmps[5]?.getD undef = .pointer (some ⟨g5, 0, none⟩)) (t6 : tmps[6]?.getD undef = .pointer (some ⟨g6, 0, none⟩)) :
  (results Tryz.f17 tmps).run Tryz.prog w = .ok (.tuple #[.agg (h.cells v).toArray, .int .i64 z, v6]) w := by
 have c4 := hr.1.cell
 have c5 := hr.2.1.cell
 have c6 := hr.2.2.cell
 simp only [Hd.cells] at c4 ⊢
 simp [results, Tryz.results17, go_sem, t4, t5, t6, c4, c5, c6]
theorem ownB_set {w : World} {lo : Nat} {x : Option Nat} {t : T} {B : Option Addr} (h : OwnB w lo x t B) {p : Addr} (hp : p.block < lo) (v : Value) : OwnB (w.setCell p v) lo x t B := by
 obtain ⟨bs, h1, h2, h3⟩ := h
 exact ⟨bs, h1.same fun b hm => ((Only.refl (fun b => b = p.block) w).setCell (p := p) (.inl rfl) v).block b (h3 b hm).2 (fun e => by have := (h3 b hm).1; omega), h2, fun b hm => ⟨(h3 b hm).1, by have := (h3 b hm).2; simpa [World.size_setCell] using this⟩⟩
set_option maxRecDepth 100000 in
set_option maxHeartbeats 4000000 in
theorem breParse_any (p : ByteArray) (fl : Int) (a : Nat → Addr) (m : Int) (w : World) (hB5 : B5 w a m) :
  Calls Tryz.prog 17 #[.string p, .int .i64 fl] w (ParseIs (parseB p (!decide (bits .and .i64 fl 2 = 0)) (!decide (bits .and .i64 fl 4 = 0))) a w) := by
 have hmf : ∀ (fn : Fn) (first cap : Array Value) (w : World), (Instr.makeFunc fn first cap).run Tryz.prog w = .ok (.func fn first cap) w := fun _ _ _ _ => rfl
 have hb1 := (Below.refl w.heap.size w).alloc (Nat.le_refl _) (.cells #[.int .i64 0, .int .u64 0, .int .u64 0, .int .u64 0, .int .u64 0, .slice none 0 0, .int .i64 0, .int .i64 0, .int .i64 0, .bool false] 27)
 have hb2 := hb1.alloc hb1.size (.cells #[.int .i64 0] 3)
 have hb3 := hb2.alloc hb2.size (.cells #[.nilIface] 32)
 have hz1 : (w.alloc (.cells #[.int .i64 0, .int .u64 0, .int .u64 0, .int .u64 0, .int .u64 0, .slice none 0 0, .int .i64 0, .int .i64 0, .int .i64 0, .bool false] 27)).heap.size = w.heap.size + 1 := World.size_alloc _ _
 have hz2 : ((w.alloc (.cells #[.int .i64 0, .int .u64 0, .int .u64 0, .int .u64 0, .int .u64 0, .slice none 0 0, .int .i64 0, .int .i64 0, .int .i64 0, .bool false] 27)).alloc (.cells #[.int .i64 0] 3)).heap.size = w.heap.size + 2 := by rw [World.size_alloc, hz1]
 have hz3 : (((w.alloc (.cells #[.int .i64 0, .int .u64 0, .int .u64 0, .int .u64 0, .int .u64 0, .slice none 0 0, .int .i64 0, .int .i64 0, .int .i64 0, .bool false] 27)).alloc (.cells #[.int .i64 0] 3)).alloc (.cells #[.nilIface] 32)).heap.size = w.heap.size + 3 := by rw [World.size_alloc, hz2]
 have h4 := ((Blk.new w 27 #[.int .i64 0, .int .u64 0, .int .u64 0, .int .u64 0, .int .u64 0, .slice none 0 0, .int .i64 0, .int .i64 0, .int .i64 0, .bool false]).alloc (.cells #[.int .i64 0] 3)).alloc (.cells #[.nilIface] 32)
 have h5 := (Blk.new (w.alloc (.cells #[.int .i64 0, .int .u64 0, .int .u64 0, .int .u64 0, .int .u64 0, .slice none 0 0, .int .i64 0, .int .i64 0, .int .i64 0, .bool false] 27)) 3 #[.int .i64 0]).alloc (.cells #[.nilIface] 32)
 have h6 := Blk.new ((w.alloc (.cells #[.int .i64 0, .int .u64 0, .int .u64 0, .int .u64 0, .int .u64 0, .slice none 0 0, .int .i64 0, .int .i64 0, .int .i64 0, .bool false] 27)).alloc (.cells #[.int .i64 0] 3)) 32 #[.nilIface]
 rw [hz1] at h5
 rw [hz2] at h6
 have H0 := hide (And.intro hb3 (show Res3 (((w.alloc (.cells #[.int .i64 0, .int .u64 0, .int .u64 0, .int .u64 0, .int .u64 0, .slice none 0 0, .int .i64 0, .int .i64 0, .int .i64 0, .bool false] 27)).alloc (.cells #[.int .i64 0] 3)).alloc (.cells #[.nilIface] 32)) w.heap.size (w.heap.size + 1) (w.heap.size + 2) #[.int .i64 0, .int .u64 0, .int .u64 0, .int .u64 0, .int .u64 0, .slice none 0 0, .int .i64 0, .int .i64 0, .int .i64 0, .bool false] (.int .i64 0) .nilIface from ⟨h4, h5, h6⟩))
 have HZ := hide hz3
 have HM := hide (fun (y' : World) (hb : Below w.heap.size w y') => hB5.below hb)
 clear hb1 hb2 hb3 hz1 hz2 hz3 h4 h5 h6 hB5
 obtain ⟨res, hres⟩ : ∃ res, res = parseB p (!decide (bits .and .i64 fl 2 = 0)) (!decide (bits .and .i64 fl 4 = 0)) := ⟨_, rfl⟩
 rw [← hres]
 have HRS := hide hres
 clear hres
 go_enter_defers Tryz.func17, Tryz.ntmps17
 go_upto_region 1 with fail
 have H0b := hide (show Below w.heap.size w (((w.alloc (.cells #[.int .i64 0, .int .u64 0, .int .u64 0, .int .u64 0, .int .u64 0, .slice none 0 0, .int .i64 0, .int .i64 0, .int .i64 0, .bool false] 27)).alloc (.cells #[.int .i64 0] 3)).alloc (.cells #[.nilIface] 32)) ∧ Res3 (((w.alloc (.cells #[.int .i64 0, .int .u64 0, .int .u64 0, .int .u64 0, .int .u64 0, .slice none 0 0, .int .i64 0, .int .i64 0, .int .i64 0, .bool false] 27)).alloc (.cells #[.int .i64 0] 3)).alloc (.cells #[.nilIface] 32)) w.heap.size (w.heap.size + 1) (w.heap.size + 1 + 1) #[.int .i64 0, .int .u64 0, .int .u64 0, .int .u64 0, .int .u64 0, .slice none 0 0, .int .i64 0, .int .i64 0, .int .i64 0, .bool false] (.int .i64 0) .nilIface from H0.out)
 clear H0
 generalize (((w.alloc (.cells #[.int .i64 0, .int .u64 0, .int .u64 0, .int .u64 0, .int .u64 0, .slice none 0 0, .int .i64 0, .int .i64 0, .int .i64 0, .bool false] 27)).alloc (.cells #[.int .i64 0] 3)).alloc (.cells #[.nilIface] 32)) = W at *
 obtain ⟨g4, hg4⟩ : ∃ g4, g4 = w.heap.size := ⟨_, rfl⟩
 have HG4 := hide hg4
 rw [← hg4] at H0b HZ ⊢
 clear hg4
 obtain ⟨g5, hg5⟩ : ∃ g5, g5 = g4 + 1 := ⟨_, rfl⟩
 rw [← hg5] at H0b ⊢
 obtain ⟨g6, hg6⟩ : ∃ g6, g6 = g5 + 1 := ⟨_, rfl⟩
 rw [← hg6] at H0b ⊢
 have hne : g4 < g5 ∧ g5 < g6 ∧ g6 < W.heap.size := ⟨by omega, by omega, by have := HZ.out; omega⟩
 clear hg5 hg6
 by_cases hp : 1024 < p.size
 ·have HE := hide (show res = .bad 11 1024 from by rw [HRS.out]; unfold parseB; rw [if_pos hp])
  have g1 : decide ((1024 : Int) < (p.size : Int)) = true := decide_eq_true (by omega)
  have ce := (HM.out _ (HG4.out ▸ H0b.out.1)).errs.var 2 (by decide)
  have HF := hide (fault_any 1024 (a (sentVar 11)) W)
  go_wp2_with fail
  refine HF.out.mono ?_
  rintro e w1 ⟨gf, rfl, hgf, hfb, hb⟩
  have H1 := hide (And.intro (H0b.out.1.trans (hb.mono (by omega : g4 ≤ W.heap.size))) (And.intro (H0b.out.2.1.next hb) (And.intro (H0b.out.2.2.1.next hb) (And.intro (H0b.out.2.2.2.next hb) hfb))))
  have HN := hide hne
  clear ce hb hgf hfb HF
  unfold faultV
  go_wp2_with (refine wpList_store_node rfl _ _ rfl g4 _ ⟨0, 0, 0, 0, 0, 0, 0, 0, false⟩ none 0 0 rfl rfl H1.out.2.1 rfl ?_; intro w9 hrow9 hg9 hz9; have hb5 := H1.out.2.2.1.grown hg9 (fun e => by have := Option.some.inj e; have := HN.out; omega); have hb6 := H1.out.2.2.2.1.grown hg9 (fun e => by have := Option.some.inj e; have := HN.out; omega); have c5 := hb5.cell; have f5 := hb5.frozen; have c6 := hb6.cell; have f6 := hb6.frozen)
  refine ⟨_, res3_run (h := ⟨0, 0, 0, 0, 0, 0, 0, 0, false⟩) (v := .slice none 0 0) (g4 := g4) (g5 := g5) (g6 := g6) (z := 0) (v6 := (.iface 83 (.pointer (some ⟨gf, 0, none⟩)))) ⟨(hrow9.far (p := ⟨g5, 0, none⟩) (show g4 ≠ g5 by have := HN.out; omega) _).far (p := ⟨g6, 0, none⟩) (show g4 ≠ g6 by have := HN.out; omega) _, (hb5.set_ 0 _).far (p := ⟨g6, 0, none⟩) (show g5 ≠ g6 by have := HN.out; omega) _, (hb6.far (p := ⟨g5, 0, none⟩) (show g6 ≠ g5 by have := HN.out; omega) _).set_ 0 _⟩ rfl rfl rfl, ?_⟩
  have hbl : Below g4 w w9 := below_grew H1.out.1 hg9 (Nat.le_of_eq HG4.out) (fun q hq => by rw [← Option.some.inj hq]; exact Nat.le_refl _)
  have hfi := ((Blk.grown H1.out.2.2.2.2 hg9 (fun e => (blk_ne6 H1.out.2.2.2.2 H1.out.2.1 (by decide)) (Option.some.inj e))).far (p := ⟨g5, 0, none⟩) (blk_ne6 (Blk.grown H1.out.2.2.2.2 hg9 (fun e => (blk_ne6 H1.out.2.2.2.2 H1.out.2.1 (by decide)) (Option.some.inj e))) hb5 (by decide)) (.int .i64 0)).far (p := ⟨g6, 0, none⟩) (blk_ne6 (Blk.grown H1.out.2.2.2.2 hg9 (fun e => (blk_ne6 H1.out.2.2.2.2 H1.out.2.1 (by decide)) (Option.some.inj e))) hb6 (by decide)) (.iface 83 (.pointer (some ⟨gf, 0, none⟩)))
  refine parseIs_bad HE.out hfi ?_
  rw [← HG4.out]
  exact (hbl.setCell (p := ⟨g5, 0, none⟩) (show g4 ≤ g5 by have := HN.out; omega) _).setCell (p := ⟨g6, 0, none⟩) (show g4 ≤ g6 by have := HN.out; omega) _
 ·have hp2 : p.size ≤ 1024 := by omega
  have g1 : decide ((1024 : Int) < (p.size : Int)) = false := decide_eq_false (by omega)
  have HRS2 := hide (show res = wholeP p (deepB p (!decide (bits .and .i64 fl 2 = 0)) (!decide (bits .and .i64 fl 4 = 0)) 32 false 0 0) from by rw [HRS.out]; unfold parseB; rw [if_neg hp])
  clear HRS hp
  have hal := (Below.refl W.heap.size W).alloc (Nat.le_refl _) (.cells #[.string p, .int .i64 0, .int .i64 fl, .int .i64 0, .int .i64 0] 75)
  have hE : RdB (W.alloc (.cells #[.string p, .int .i64 0, .int .i64 fl, .int .i64 0, .int .i64 0] 75)) W.heap.size g4 p 0 fl 0 0 := ⟨Blk.new W 75 _, ⟨[], rfl, OwnInts.nil _ _⟩, by omega, by decide, by decide⟩
  have hw1 : Below g4 w (W.alloc (.cells #[.string p, .int .i64 0, .int .i64 fl, .int .i64 0, .int .i64 0] 75)) := H0b.out.1.trans (hal.mono (by omega))
  have HPt := hide (brePatt_top hp2 _ hE (by have := hal.size; omega) (fun y' hy => HM.out y' (HG4.out ▸ (hw1.trans hy))))
  have H1 := hide (And.intro hE (And.intro hw1 (And.intro (H0b.out.2.1.next hal) (And.intro (H0b.out.2.2.1.next hal) (H0b.out.2.2.2.next hal)))))
  have HN := hide hne
  clear hal hE hw1 H0b
  go_upto_region 5 with fail
  generalize (W.alloc (.cells #[.string p, .int .i64 0, .int .i64 fl, .int .i64 0, .int .i64 0] 75)) = W1 at *
  generalize W.heap.size = gr at *
  have hFin := deepB_fine (p := p) (ic := !decide (bits .and .i64 fl 2 = 0)) (nl := !decide (bits .and .i64 fl 4 = 0)) 32 false 0 0 (Nat.zero_le _)
  obtain ⟨r, hr⟩ : ∃ r, r = deepB p (!decide (bits .and .i64 fl 2 = 0)) (!decide (bits .and .i64 fl 4 = 0)) 32 false 0 0 := ⟨_, rfl⟩
  rw [← hr] at HPt HRS2 hFin
  clear hr g1
  go_wp2_with fail
  refine HPt.out.mono ?_
  rintro e z ⟨hz, hown⟩
  clear HPt
  cases r with
  | bad c pl =>
   have HE := hide (show res = .bad c pl from HRS2.out)
   obtain ⟨gf, rfl, hfi, hff⟩ := hz
   have H2 := hide (And.intro (H1.out.2.1.trans hff.below) (And.intro (show Res3 z g4 g5 g6 #[.int .i64 0, .int .u64 0, .int .u64 0, .int .u64 0, .int .u64 0, .slice none 0 0, .int .i64 0, .int .i64 0, .int .i64 0, .bool false] (.int .i64 0) .nilIface from ⟨hff.blk_ H1.out.2.2.1 (by have := HN.out; omega) (by simp), hff.blk_ H1.out.2.2.2.1 (by have := HN.out; omega) (by simp), hff.blk_ H1.out.2.2.2.2 (by have := HN.out; omega) (by simp)⟩) hfi))
   clear hfi hff hown
   unfold faultV
   go_wp2_with fail
   refine leaves_cons (f := 42) (args := #[.pointer (some ⟨g4, 0, none⟩), .pointer (some ⟨g5, 0, none⟩), .pointer (some ⟨g6, 0, none⟩)]) (by simp) (by simp [go_sem]) ?_
   refine (breCatch_pan g4 g5 g6 gf [] z _ _ _ H2.out.2.1 rfl (by have := HN.out; omega)).mono ?_
   rintro e u' w' ⟨rfl, rfl, hres3, hon⟩
   have HFi := hide (show FaultIs a w' gf _ _ from (hon.block gf H2.out.2.2.lt (fun h => by
    rcases h with h | h | h
    ·exact blk_ne6 H2.out.2.2 H2.out.2.1.1 (by decide) h
    ·exact blk_ne6 H2.out.2.2 H2.out.2.1.2.1 (by decide) h
    ·exact blk_ne6 H2.out.2.2 H2.out.2.1.2.2 (by decide) h)).trans H2.out.2.2)
   have hbl : Below g4 w w' := H2.out.1.trans (hon.below (B := g4) (by have := H2.out.2.1.1.lt; omega) (fun b hb => by have := HN.out; rcases hb with h | h | h <;> omega))
   refine ⟨_, res3_run (h := ⟨0, 0, 0, 0, 0, 0, 0, 0, false⟩) (v := .slice none 0 0) hres3 rfl rfl rfl, ?_⟩
   refine parseIs_bad HE.out HFi.out ?_
   rw [← HG4.out]
   exact hbl
  | ok t j q =>
   obtain ⟨B, c, rfl, hown2⟩ := hown t j q rfl
   obtain ⟨B', c', heq, hin, hE, hF⟩ := hz
   have H2 := hide (And.intro hE (And.intro (H1.out.2.1.trans hF.below) (And.intro (hF.blk_ H1.out.2.2.1 (by have := HN.out; omega) (by simp)) (And.intro (hF.blk_ H1.out.2.2.2.1 (by have := HN.out; omega) (by simp)) (hF.blk_ H1.out.2.2.2.2 (by have := HN.out; omega) (by simp))))))
   have HOw := hide hown2
   simp only [PR.Fine] at hFin
   have hnd : t.nodes ≤ 100000 := by omega
   have HZ1 := hide (show g6 < W1.heap.size ∧ W1.heap.size ≤ z.heap.size from ⟨H1.out.2.2.2.2.lt, hF.below.size⟩)
   clear hown2 heq hin hE hF hFin
   go_upto_region 6 with (refine wpList_store_node rfl _ _ rfl g4 _ _ _ _ _ rfl rfl H2.out.2.2.1 rfl ?_; intro w3 hrow_w3 hg_w3 hz_w3)
   have H3 := hide (And.intro (H2.out.1.grown hg_w3 (fun e => by have := Option.some.inj e; have := HN.out; omega) (.inl rfl)) (And.intro (below_grew H2.out.2.1 hg_w3 (Nat.le_of_eq HG4.out) (fun q hq => by rw [← Option.some.inj hq]; exact Nat.le_refl _)) (And.intro hrow_w3 (And.intro (H2.out.2.2.2.1.grown hg_w3 (fun e => by have := Option.some.inj e; have := HN.out; omega)) (H2.out.2.2.2.2.grown hg_w3 (fun e => by have := Option.some.inj e; have := HN.out; omega))))))
   have HO3 := hide (show OwnB w3 W1.heap.size none t B from HOw.out.grown hg_w3 (by have := HN.out; have := HZ1.out; omega))
   have HZ3 := hide (show W1.heap.size ≤ w3.heap.size from by have := HZ1.out; rw [hz_w3]; omega)
   clear hrow_w3 hg_w3 hz_w3 H2 HOw H1
   have HSz := hide (Size_any t B c w3 (by omega) (by
    obtain ⟨bs, h1, h2, h3⟩ := HO3.out
    exact h1.in_ fun b hb => (h3 b hb).2))
   go_wp2_with (refine wpList_load_node rfl _ rfl g4 _ _ rfl H3.out.2.2.1 ?_)
   refine HSz.out.mono ?_
   rintro e w4 ⟨rfl, hb4⟩
   have H4 := hide (And.intro (H3.out.1.next hb4) (And.intro (H3.out.2.1.trans (hb4.mono (by have := HN.out; have := HZ1.out; have := HZ3.out; omega))) (And.intro (H3.out.2.2.1.next hb4) (And.intro (H3.out.2.2.2.1.next hb4) (H3.out.2.2.2.2.next hb4)))))
   have HO4 := hide (HO3.out.next hb4)
   have HZ4 := hide (Nat.le_trans HZ3.out hb4.size)
   clear hb4 HSz H3 HO3
   generalize hfz : t.fullSize = fz at *
   have HFZ := hide hfz
   clear hfz
   by_cases hbig : 2000 < fz
   ·have HE := hide (show res = .bad 9 (p.size : Int) from by rw [HRS2.out]; unfold wholeP; simp only; rw [if_pos (by rw [HFZ.out]; exact hbig)])
    have g1 : decide (2000 < fz) = true := decide_eq_true hbig
    have ceq := (HM.out _ (HG4.out ▸ H4.out.2.1)).errs.var 12 (by decide)
    go_wp2_with fail
    refine (breFail_any (gr := gr) (B0 := g4) (by have := HN.out; have := HZ1.out; have := HZ4.out; omega) a 9 (p.size : Int)).mono ?_
    rintro e wf ⟨gf, rfl, hfi, hff⟩
    have H2 := hide (And.intro (H4.out.2.1.trans hff.below) (And.intro (show Res3 wf g4 g5 g6 (t.hd.cells (.slice B t.subs.length c)).toArray (.int .i64 0) .nilIface from ⟨hff.blk_ H4.out.2.2.1 (by have := HN.out; omega) (by simp), hff.blk_ H4.out.2.2.2.1 (by have := HN.out; omega) (by simp), hff.blk_ H4.out.2.2.2.2 (by have := HN.out; omega) (by simp)⟩) hfi))
    clear hfi hff ceq
    unfold faultV
    go_wp2_with fail
    refine leaves_cons (f := 42) (args := #[.pointer (some ⟨g4, 0, none⟩), .pointer (some ⟨g5, 0, none⟩), .pointer (some ⟨g6, 0, none⟩)]) (by simp) (by simp [go_sem]) ?_
    refine (breCatch_pan g4 g5 g6 gf [] wf _ _ _ H2.out.2.1 rfl (by have := HN.out; omega)).mono ?_
    rintro e u' w' ⟨rfl, rfl, hres3, hon⟩
    have HFi := hide (show FaultIs a w' gf _ _ from (hon.block gf H2.out.2.2.lt (fun h => by
     rcases h with h | h | h
     ·exact blk_ne6 H2.out.2.2 H2.out.2.1.1 (by decide) h
     ·exact blk_ne6 H2.out.2.2 H2.out.2.1.2.1 (by decide) h
     ·exact blk_ne6 H2.out.2.2 H2.out.2.1.2.2 (by decide) h)).trans H2.out.2.2)
    have hbl : Below g4 w w' := H2.out.1.trans (hon.below (B := g4) (by have := H2.out.2.1.1.lt; omega) (fun b hb => by have := HN.out; rcases hb with h | h | h <;> omega))
    refine ⟨_, res3_run (h := ⟨0, 0, 0, 0, 0, 0, 0, 0, false⟩) (v := .slice none 0 0) hres3 rfl rfl rfl, ?_⟩
    refine parseIs_bad HE.out HFi.out ?_
    rw [← HG4.out]
    exact hbl
   ·have HE := hide (show res = .ok t j q from by rw [HRS2.out]; unfold wholeP; simp only; rw [if_neg (by rw [HFZ.out]; exact hbig)])
    have g1 : decide (2000 < fz) = false := decide_eq_false hbig
    go_upto_region 8 with fail
    have HLT := hide (And.intro H4.out.2.2.1.lt (And.intro H4.out.2.2.2.1.lt H4.out.2.2.2.2.lt))
    have HGR := hide (And.intro (show gr ≠ g4 from blk_ne6 H4.out.1.box H4.out.2.2.1 (by decide)) (And.intro (show gr ≠ g5 from blk_ne6 H4.out.1.box H4.out.2.2.2.1 (by decide)) (show gr ≠ g6 from blk_ne6 H4.out.1.box H4.out.2.2.2.2 (by decide))))
    refine wp_region_noPanic ?_
    refine wp_region_mix (fun z => Blk z g4 27 (t.hd.cells (.slice B t.subs.length c)).toArray ∧ Blk z gr 75 #[.string p, .int .i64 (j : Int), .int .i64 fl, .int .i64 (q : Int), .int .i64 ((0 : Nat) : Int)]) [] (by kernel_rfl) (fun hcl => ?_)
    generalize hz0 : w4.drew = z0
    have hbd : Below w4.heap.size w4 z0 := by rw [← hz0]; exact (Below.refl _ _).drew
    have hS : Blk z0 g4 27 (t.hd.cells (.slice B t.subs.length c)).toArray ∧ Blk z0 gr 75 #[.string p, .int .i64 (j : Int), .int .i64 fl, .int .i64 (q : Int), .int .i64 ((0 : Nat) : Int)] := ⟨H4.out.2.2.1.next hbd, H4.out.1.box.next hbd⟩
    have H5 := hide (And.intro (H4.out.2.1.trans (hbd.mono (by have := H4.out.2.1.size; have := HG4.out; omega))) (And.intro (H4.out.2.2.2.1.next hbd) (H4.out.2.2.2.2.next hbd)))
    have HO5 := hide (HO4.out.next hbd)
    have HZ5 := hide (Nat.le_trans HZ4.out hbd.size)
    clear hz0 hbd
    refine wpAnyT_take (i := 0) hcl rfl (by kernel_rfl) (v := .agg (t.hd.cells (.slice B t.subs.length c)).toArray) (fun _ _ _ h => h) hS (Or.inl ⟨rfl, fun w' hS => run_load_cells _ _ rfl ⟨g4, 0, none⟩ rfl (t.hd.cells (.slice B t.subs.length c)) _ Tryz.underlying27 rfl (by rw [Tryz.sizeNode]; rfl) (fun j u hu => by rw [Addr.add_lit, Nat.zero_add, hS.1.cell]; simpa using hu)⟩) (fun hcl => ?_)
    simp only [List.getElem_toArray, List.getElem_cons_zero, List.getElem_cons_succ, Act.put, List.setIfInBounds_toArray, List.set_cons_zero, List.set_cons_succ]
    refine wpAnyT_free (i := 1) hcl rfl (by kernel_rfl) (v := ?_) (fun _ _ _ h => h) hS (Or.inl ⟨rfl, fun w' _ => ?_⟩) (fun hcl => ?_)
    rotate_left
    ·go_simp
     with_reducible rfl
    simp only [List.getElem_toArray, List.getElem_cons_zero, List.getElem_cons_succ, Act.put, List.setIfInBounds_toArray, List.set_cons_zero, List.set_cons_succ]
    refine wpAnyT_free (i := 2) hcl rfl (by kernel_rfl) (v := ?_) (fun _ _ _ h => h) hS (Or.inl ⟨rfl, fun w' _ => ?_⟩) (fun hcl => ?_)
    rotate_left
    ·go_simp
     with_reducible rfl
    simp only [List.getElem_toArray, List.getElem_cons_zero, List.getElem_cons_succ, Act.put, List.setIfInBounds_toArray, List.set_cons_zero, List.set_cons_succ]
    refine wpAnyT_free (i := 3) hcl rfl (by kernel_rfl) (v := ?_) (fun _ _ _ h => h) hS (Or.inl ⟨rfl, fun w' _ => ?_⟩) (fun hcl => ?_)
    rotate_left
    ·go_simp
     with_reducible rfl
    simp only [List.getElem_toArray, List.getElem_cons_zero, List.getElem_cons_succ, Act.put, List.setIfInBounds_toArray, List.set_cons_zero, List.set_cons_succ]
    refine wpAnyT_take (i := 4) hcl rfl (by kernel_rfl) (v := ?_) (fun _ _ _ h => h) hS (Or.inl ⟨rfl, fun w' hS => ?_⟩) (fun hcl => ?_)
    rotate_left
    ·skip
     have cr : ∀ i : Nat, _ = _ := hS.2.cell
     go_simp
     with_reducible rfl
    simp only [List.getElem_toArray, List.getElem_cons_zero, List.getElem_cons_succ, Act.put, List.setIfInBounds_toArray, List.set_cons_zero, List.set_cons_succ]
    have HS0 := hide hS
    clear hS
    refine wpAnyT_step (i := 5) hcl rfl (by kernel_rfl) (fun hcl => ?_)
    simp only [List.getElem_toArray, List.getElem_cons_zero, List.getElem_cons_succ, Act.put, List.setIfInBounds_toArray, List.set_cons_zero, List.set_cons_succ]
    refine wpList_store_node rfl _ _ rfl g4 _ t.hd B t.subs.length c rfl rfl HS0.out.1 rfl ?_
    intro w9 hrow9 hg9 hz9
    refine wpList_nil ?_
    have H6 := hide (And.intro (show Blk w9 g4 27 (t.hd.cells (.slice B t.subs.length c)).toArray from hrow9) (And.intro (HS0.out.2.grown hg9 (fun e => HGR.out.1 (Option.some.inj e))) (And.intro (H5.out.2.1.grown hg9 (fun e => by have := Option.some.inj e; have := HN.out; omega)) (And.intro (H5.out.2.2.grown hg9 (fun e => by have := Option.some.inj e; have := HN.out; omega)) (below_grew H5.out.1 hg9 (Nat.le_of_eq HG4.out) (fun q hq => by rw [← Option.some.inj hq]; exact Nat.le_refl _))))))
    have HO6 := hide (show OwnB w9 W1.heap.size none t B from HO5.out.grown hg9 (by have := HN.out; have := HZ1.out; omega))
    refine ⟨⟨H6.out.1, H6.out.2.1⟩, ?_⟩
    clear hrow9 hg9 hz9 HS0 H5 HO5
    refine wpAnyT_step (i := 6) hcl rfl (by kernel_rfl) (fun hcl => ?_)
    simp only [List.getElem_toArray, List.getElem_cons_zero, List.getElem_cons_succ, Act.put, List.setIfInBounds_toArray, List.set_cons_zero, List.set_cons_succ]
    have c5 := H6.out.2.2.1.cell
    have f5 := H6.out.2.2.1.frozen
    go_wp2_with fail
    have H7 := hide (And.intro (H6.out.1.far (p := ⟨g5, 0, none⟩) (show g4 ≠ g5 by have := HN.out; omega) (.int .i64 (q : Int))) (And.intro (H6.out.2.1.far (p := ⟨g5, 0, none⟩) HGR.out.2.1 (.int .i64 (q : Int))) (And.intro (H6.out.2.2.1.set_ 0 (.int .i64 (q : Int))) (And.intro (H6.out.2.2.2.1.far (p := ⟨g5, 0, none⟩) (show g6 ≠ g5 by have := HN.out; omega) (.int .i64 (q : Int))) (H6.out.2.2.2.2.setCell (p := ⟨g5, 0, none⟩) (show g4 ≤ g5 by have := HN.out; omega) (.int .i64 (q : Int)))))))
    have HO7 := hide (ownB_set HO6.out (p := ⟨g5, 0, none⟩) (show g5 < W1.heap.size by have := HN.out; have := HZ1.out; omega) (.int .i64 (q : Int)))
    refine ⟨⟨H7.out.1, H7.out.2.1⟩, ?_⟩
    clear c5 f5 H6 HO6
    generalize (w9.setCell ⟨g5, 0, none⟩ (.int .i64 (q : Int))) = w10 at *
    refine wpAnyT_step (i := 7) hcl rfl (by kernel_rfl) (fun hcl => ?_)
    simp only [List.getElem_toArray, List.getElem_cons_zero, List.getElem_cons_succ, Act.put, List.setIfInBounds_toArray, List.set_cons_zero, List.set_cons_succ]
    have c6 := H7.out.2.2.2.1.cell
    have f6 := H7.out.2.2.2.1.frozen
    go_wp2_with fail
    have H8 := hide (And.intro (H7.out.1.far (p := ⟨g6, 0, none⟩) (show g4 ≠ g6 by have := HN.out; omega) .nilIface) (And.intro (H7.out.2.1.far (p := ⟨g6, 0, none⟩) HGR.out.2.2 .nilIface) (And.intro (H7.out.2.2.1.far (p := ⟨g6, 0, none⟩) (show g5 ≠ g6 by have := HN.out; omega) .nilIface) (And.intro (H7.out.2.2.2.1.set_ 0 .nilIface) (H7.out.2.2.2.2.setCell (p := ⟨g6, 0, none⟩) (show g4 ≤ g6 by have := HN.out; omega) .nilIface)))))
    have HO8 := hide (ownB_set HO7.out (p := ⟨g6, 0, none⟩) (show g6 < W1.heap.size by have := HZ1.out; omega) .nilIface)
    refine ⟨⟨H8.out.1, H8.out.2.1⟩, ?_⟩
    clear c6 f6 H7 HO7
    generalize (w10.setCell ⟨g6, 0, none⟩ .nilIface) = w11 at *
    refine wpAnyT_done (by kernel_rfl) ?_ _
    have HR := hide (show Res3 w11 g4 g5 g6 (t.hd.cells (.slice B t.subs.length c)).toArray (.int .i64 (q : Int)) .nilIface from ⟨H8.out.1, H8.out.2.2.1, H8.out.2.2.2.1⟩)
    refine NoPanic.normal ?_
    go_wp2_with fail
    refine leaves_cons (f := 42) (args := #[.pointer (some ⟨g4, 0, none⟩), .pointer (some ⟨g5, 0, none⟩), .pointer (some ⟨g6, 0, none⟩)]) (by simp) (by simp [go_sem]) ?_
    refine (breCatch_idle g4 g5 g6 w11).mono ?_
    rintro e u' w' ⟨rfl, rfl, rfl⟩
    refine ⟨_, res3_run (h := t.hd) (v := .slice B t.subs.length c) (z := (q : Int)) (v6 := .nilIface) HR.out rfl rfl rfl, ?_⟩
    refine parseIs_ok HE.out (HO8.out.lower (by have := HZ1.out; have := HN.out; have := HG4.out; omega)) ?_
    rw [← HG4.out]
    exact H8.out.2.2.2.2

end Go.Proofs.YtpkcklpjbeginaaGreatDoor

/-! ## Lives7 -/
namespace Go.Proofs.YtpkcklpjbeginaaGreatDoor
open Go.RowKit

end Go.Proofs.YtpkcklpjbeginaaGreatDoor
