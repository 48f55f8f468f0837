/- bre: pattern. (Printed by gen_bref.py.) -/
import Derived.Test.YtfehmfifjidjjaaDoorBreE
import Derived.Test.YtfehmfifjidjjaaDoorEreB
set_option linter.unusedSimpArgs false
set_option linter.unusedVariables false
namespace Go.Proofs.YtfehmfifjidjjaaDoor
open Go.RowKit

/-- How much is still to be read. -/
def rbLeft (gr : Nat) (p : ByteArray) (w : World) : Nat := match w.cell? ⟨gr, 1, none⟩ with
  | some (.int _ i) => p.size + 1 - i.toNat
  | _ => 0
theorem rbLeft_at {w : World} {gr B0 : Nat} {p : ByteArray} {i : Nat} {fl : Int} {g n : Nat} (h : RdB w gr B0 p i fl g n) : rbLeft gr p w = p.size + 1 - i := by
  unfold rbLeft
  rw [h.box.cell 1]
  simp
/-- A loop that builds a list of trees beside the reader. -/
structure LpB (B0 gr : Nat) (p : ByteArray) (fl : Int) (n : Nat) (y : World) (wr : World) (lv : Value) (j g : Nat) (acc : List T) : Prop where
  rd : RdB wr gr B0 p j fl g n
  fr : RdF gr B0 none none y wr
  bx : Blk wr y.heap.size 28 zeroCells
  gx : GrowX (y.heap.size + 1) none wr lv acc
section
variable {B0 gr n : Nat} {y wr wr' : World} {p : ByteArray} {fl : Int} {j g : Nat} {lv : Value} {acc : List T}
theorem LpB.next (h : LpB B0 gr p fl n y wr lv j g acc) (hB : B0 ≤ wr.heap.size) (hb : Below wr.heap.size wr wr') : LpB B0 gr p fl n y wr' lv j g acc := ⟨h.rd.next hb, h.fr.next hB hb, h.bx.next hb, h.gx.next hb⟩
theorem LpB.step (h : LpB B0 gr p fl n y wr lv j g acc) (hgr : gr < y.heap.size) (k : Nat) : LpB B0 gr p fl n y (wr.setCell ⟨gr, 1, none⟩ (.int .i64 (k : Int))) lv k g acc :=
  ⟨h.rd.set 1 _, h.fr.set h.rd.base 1 (.int .i64 (k : Int)), h.bx.far (p := ⟨gr, 1, none⟩) (show y.heap.size ≠ gr by omega) (.int .i64 (k : Int)), h.gx.rdf (B0 := B0) (y := wr) (by omega) ((RdF.refl gr B0 none wr).set h.rd.base 1 (.int .i64 (k : Int)))⟩
end
/-- What pattern answers: as EPB; the tree is its caller's own. -/
def EPBO (a : Nat → Addr) (gr B0 : Nat) (p : ByteArray) (fl : Int) (n : Nat) (y : World) (r : PR) (e : Ending) (y' : World) : Prop :=
  EPB a gr B0 p fl n y r e y' ∧ ∀ t j h, r = .ok t j h → ∃ B c, e = .returned (.agg (t.hd.cells (.slice B t.subs.length c)).toArray) ∧ OwnB y' y.heap.size none t B
/-- Does a dollar sign stand next, and nothing behind it? -/
theorem dollar_text {p : ByteArray} {j : Nat} (hj : j ≤ p.size) : p.extract j p.size = ⟨#[36]⟩ ↔ pb p j = 36 ∧ j + 1 = p.size := by
  have hs : (p.extract j p.size).size = p.size - j := by rw [ByteArray.size_extract]; omega
  constructor
  · intro e
    rw [e] at hs
    have h1 : (⟨#[36]⟩ : ByteArray).size = 1 := rfl
    have h2 : pb (p.extract j p.size) 0 = 36 := by rw [e]; rfl
    rw [pb_extract _ _ _ _ (Nat.le_refl _), if_pos (by omega)] at h2
    exact ⟨h2, by omega⟩
  · rintro ⟨h1, h2⟩
    apply ByteArray.ext
    apply Array.toList_inj.1
    have hl : (p.extract j p.size).data.toList.length = 1 := by rw [data_len, hs]; omega
    have h0 := data_at (p.extract j p.size) 0
    rw [pb_extract _ _ _ _ (Nat.le_refl _), if_pos (by omega), Nat.add_zero, h1, if_pos (by omega)] at h0
    match hm : (p.extract j p.size).data.toList, hl with
    | [b], _ => rw [hm] at h0; simp only [List.getElem?_cons_zero] at h0; rw [Option.some.inj h0]; rfl
theorem dollar_bool {p : ByteArray} {j : Nat} (hj : j ≤ p.size) : ((p.extract j p.size).toList == [36]) = decide (pb p j = 36 ∧ j + 1 = p.size) := by
  rw [Bool.eq_iff_iff, beq_iff_eq, decide_eq_true_iff, ← dollar_text hj]
  constructor
  · intro e
    apply ByteArray.ext
    apply Array.toList_inj.1
    rw [← ByteArray.toList_eq]
    exact e
  · intro e
    rw [e, ByteArray.toList_eq]
set_option maxRecDepth 100000 in
set_option maxHeartbeats 4000000 in
theorem brePattern_any {y : World} {gr B0 : Nat} {p : ByteArray} {i : Nat} {fl : Int} {g n : Nat} {a : Nat → Addr} {m : Int} {deeper : Option (Nat → Nat → PR)} (hG : GroupB a m gr B0 p fl n deeper) (hdf : DFine p deeper) (h : RdB y gr B0 p i fl g n) (hp : p.size ≤ 1024) (hi : i ≤ p.size) (hgi : g ≤ i) (hB : B0 ≤ y.heap.size) (hm : ∀ y', Below B0 y y' → B5 y' a m) :
    Calls Tryd.prog 18 #[.pointer (some ⟨gr, 0, none⟩)] y (EPBO a gr B0 p fl n y (pattB p (!decide (bits .and .i64 fl 2 = 0)) (!decide (bits .and .i64 fl 4 = 0)) deeper (decide (0 < n)) (p.size + 1) true true i g [])) := by
  have HPc := hide (fun (y' : World) (star : Bool) (j g' : Nat) (h' : RdB y' gr B0 p j fl g' n) (hj : j < p.size) (hgj : g' ≤ j) (hB' : B0 ≤ y'.heap.size) (hm' : ∀ y2, Below B0 y' y2 → B5 y2 a m) => And.intro (brePiece_any (star := star) hG (fun f hf i g hi => (hdf f hf).1 i g hi) (atomB_fine hdf star hj) h' hp hj hgj hB' hm') (pieceB_fine (ic := !decide (bits .and .i64 fl 2 = 0)) (nl := !decide (bits .and .i64 fl 4 = 0)) hdf star (i := j) (g := g') hj))
  clear hG
  have HGY := hide h.box.lt
  have hz0 := Blk.new y 28 zeroCells
  have hbel := (Below.refl y.heap.size y).alloc (Nat.le_refl _) (.cells zeroCells 28)
  have H0 := hide (And.intro (h.next hbel) (And.intro (RdF.of_below (gr := gr) (x := none) hB hbel) hz0))
  have HB := hide hB
  have HM := hide hm
  have HBW := hide (Nat.le_trans hB hbel.size)
  have HZW := hide (show y.heap.size + 1 ≤ (y.alloc (.cells zeroCells 28)).heap.size from Nat.le_of_eq (World.size_alloc y (.cells zeroCells 28)).symm)
  clear hz0 hbel h hB hm
  unfold zeroCells at *
  obtain ⟨ic, hic⟩ : ∃ ic, ic = !decide (bits .and .i64 fl 2 = 0) := ⟨_, rfl⟩
  obtain ⟨nl, hnl⟩ : ∃ nl, nl = !decide (bits .and .i64 fl 4 = 0) := ⟨_, rfl⟩
  rw [← hic, ← hnl] at HPc ⊢
  clear hic hnl hdf
  obtain ⟨res, hres⟩ : ∃ res, res = pattB p ic nl deeper (decide (0 < n)) (p.size + 1) true true i g [] := ⟨_, rfl⟩
  rw [← hres]
  have HRS := hide hres
  clear hres
  have HGR := hide (show gr < y.heap.size + 1 from Nat.lt_succ_of_lt HGY.out)
  go_enter Tryd.func18, Tryd.ntmps18
  go_upto_region 1 with fail
  generalize (y.alloc (.cells #[.int .i64 0, .int .u64 0, .int .u64 0, .int .u64 0, .int .u64 0, .slice none 0 0, .int .i64 0, .int .i64 0, .int .i64 0, .bool false] 28)) = W at *
  go_wp2_with fail
  go_loopw [3, 4, 5] (fun lv sv fv wr => (∃ (j g' k : Nat) (acc : List T) (front star : Bool), sv = .bool star ∧ fv = .bool front ∧ LpB B0 gr p fl n y wr lv j g' acc ∧ i ≤ j ∧ j ≤ p.size ∧ g' ≤ j ∧ acc.length ≤ j ∧ TL.nodes acc ≤ 4 * j ∧ p.size + 1 ≤ k + j ∧ pattB p ic nl deeper (decide (0 < n)) k front star j g' acc = res)) (fun _ _ _ wr => rbLeft gr p wr)
  case atStart => exact ⟨i, g, p.size + 1, [], true, true, rfl, rfl, ⟨H0.out.1, H0.out.2.1, H0.out.2.2, GrowX.nil _ _ _⟩, Nat.le_refl _, hi, hgi, Nat.zero_le _, by simp [TL.nodes], by omega, HRS.out.symm⟩
  case round =>
    obtain ⟨j, g', k, acc, front, star, rfl, rfl, hlp, hij, hjp, hgj, hac, hnd, hk, hbr⟩ := hrel
    have HL := hide hlp
    have HE := hide hbr
    have HBr := hide (Nat.le_trans HB.out hlp.fr.below.size)
    have HMs := hide (rbLeft_at hlp.rd)
    clear hlp hbr HRS H0
    cases k with
    | zero => omega
    | succ k =>
    rw [pattB] at HE
    obtain ⟨cb, hcb⟩ : ∃ cb : Bool, cb = (decide (j < p.size) && !(decide (0 < n) && begins p j [92, 41])) := ⟨_, rfl⟩
    have HCB := hide hcb
    clear hcb
    go_upto_region 4 with fail
    go_cut [27] (fun v27 wx => v27 = .bool cb ∧ Below wr.heap.size wr wx)
    case first =>
      have HHs := hide (fun (x : Later wr) => breHas_any (show RdB x.val gr B0 p j fl g' n from HL.out.rd.next x.2) hp hjp [92, 41] (by decide) ⟨#[92, 41]⟩ rfl)
      have c0 := fun (x : Later wr) => (HL.out.rd.next x.2).box.cell
      obtain ⟨bh, hbh⟩ : ∃ bh, bh = begins p j [92, 41] := ⟨_, rfl⟩
      rw [← hbh] at HHs HCB
      clear hbh HE
      by_cases hj : j < p.size
      case neg =>
        have g1 : decide ((j : Int) < (p.size : Int)) = false := decide_eq_false (by omega)
        have q1 : decide (j < p.size) = false := decide_eq_false hj
        have HX := hide (show cb = false from by rw [HCB.out, q1]; rfl)
        refine wp_region_later (by kernel_rfl) (by kernel_rfl) ?_
        repeat (go_big_quiet_step (with_reducible exact calls_later (HHs.out _)))
        refine wpQuiet_nil ?_
        intro w6 hw6
        obtain ⟨x, hxe⟩ := hw6
        have hbq : Below wr.heap.size wr w6 := hxe ▸ x.2
        have HBQ := hide hbq
        clear hxe x c0 HHs hbq
        go_wp2_with fail
        go_meet
        case rel => exact ⟨by rw [HX.out], HBQ.out⟩
      case pos =>
      have g1 : decide ((j : Int) < (p.size : Int)) = true := decide_eq_true (by omega)
      have q1 : decide (j < p.size) = true := decide_eq_true hj
      by_cases hdn : 0 < n
      case neg =>
        have g2 : decide ((0 : Int) < (n : Int)) = false := decide_eq_false (by omega)
        have q2 : decide (0 < n) = false := decide_eq_false hdn
        have HX := hide (show cb = true from by rw [HCB.out, q1, q2]; rfl)
        refine wp_region_later (by kernel_rfl) (by kernel_rfl) ?_
        repeat (go_big_quiet_step (with_reducible exact calls_later (HHs.out _)))
        refine wpQuiet_nil ?_
        intro w6 hw6
        obtain ⟨x, hxe⟩ := hw6
        have hbq : Below wr.heap.size wr w6 := hxe ▸ x.2
        have HBQ := hide hbq
        clear hxe x c0 HHs hbq
        go_wp2_with fail
        go_meet
        case rel => exact ⟨by rw [HX.out], HBQ.out⟩
      case pos =>
      have g2 : decide ((0 : Int) < (n : Int)) = true := decide_eq_true (by omega)
      have q2 : decide (0 < n) = true := decide_eq_true hdn
      cases bh with
      | false =>
        have HX := hide (show cb = true from by rw [HCB.out, q1, q2]; rfl)
        refine wp_region_later (by kernel_rfl) (by kernel_rfl) ?_
        repeat (go_big_quiet_step (with_reducible exact calls_later (HHs.out _)))
        refine wpQuiet_nil ?_
        intro w6 hw6
        obtain ⟨x, hxe⟩ := hw6
        have hbq : Below wr.heap.size wr w6 := hxe ▸ x.2
        have HBQ := hide hbq
        clear hxe x c0 HHs hbq
        go_wp2_with fail
        go_meet
        case rel => exact ⟨by rw [HX.out], HBQ.out⟩
      | true =>
        have HX := hide (show cb = false from by rw [HCB.out, q1, q2]; rfl)
        refine wp_region_later (by kernel_rfl) (by kernel_rfl) ?_
        repeat (go_big_quiet_step (with_reducible exact calls_later (HHs.out _)))
        refine wpQuiet_nil ?_
        intro w6 hw6
        obtain ⟨x, hxe⟩ := hw6
        have hbq : Below wr.heap.size wr w6 := hxe ▸ x.2
        have HBQ := hide hbq
        clear hxe x c0 HHs hbq
        go_wp2_with fail
        go_meet
        case rel => exact ⟨by rw [HX.out], HBQ.out⟩
    case rest =>
    rename World => wa
    obtain ⟨hv27, hbq⟩ := hcut
    subst hv27
    have HLa := hide (HL.out.next HBr.out hbq)
    have HBa := hide (Nat.le_trans HBr.out hbq.size)
    clear hbq HL HBr
    cases cb with
    | false =>
      have HE2 := hide (show res = .ok (T.seq acc) j g' from by
        rw [← HE.out, if_pos]
        have h1 := HCB.out
        simp only [begins, Bool.and_true] at h1
        by_cases hj : j < p.size
        · refine .inr ?_
          rw [decide_eq_true hj] at h1
          simp only [Bool.true_and] at h1
          have h2 : (decide (0 < n) && (decide (pb p j = 92) && decide (pb p (j + 1) = 41))) = true := by
            cases hc : (decide (0 < n) && (decide (pb p j = 92) && decide (pb p (j + 1) = 41))) with
            | true => rfl
            | false => rw [hc] at h1; cases h1
          simp only [Bool.and_eq_true, decide_eq_true_eq] at h2
          exact ⟨decide_eq_true h2.1, h2.2.1, h2.2.2⟩
        · exact .inl hj)
      go_upto_region 15 with fail
      obtain ⟨Al, cl, hlv, hinl⟩ := HLa.out.gx.in_
      subst hlv
      have HSq := hide (seq_any acc Al cl wa (by omega) (TL.In.same (Same.refl _ _) (fun b hb => hb.2.1) hinl))
      clear hinl
      go_wp2_with fail
      refine HSq.out.mono ?_
      intro e wq hfr
      obtain ⟨B2, c2, rfl, ⟨howb, hin2⟩, hbf⟩ := fresh_own (x := none) hfr (fun b hb => by cases hb)
      have HL2 := hide (HLa.out.next HBa.out hbf)
      have HOW := hide (And.intro howb hin2)
      have HZ2 := hide (show y.heap.size + 1 ≤ wa.heap.size from HLa.out.bx.lt)
      clear howb hin2 hbf hfr HSq
      go_wp2_with (refine wpList_store_node rfl _ _ rfl y.heap.size _ _ _ _ _ rfl rfl HL2.out.bx rfl ?_; intro w9 hrow9 hg9 hz9)
      refine bodyPost_ret (node_result rfl _ _ y.heap.size _ _ rfl hrow9) rfl ?_
      refine ⟨bok (t := T.seq acc) HE2.out HL2.out.rd HL2.out.fr ((show T.In wq (fun b => wa.heap.size ≤ b ∧ b < wq.heap.size ∧ none ≠ some b) (T.seq acc) B2 from HOW.out.2).same (Same.refl _ _) fun b hb => ⟨by have h1 := hb.1; have h2 := HZ2.out; omega, hb.2.1, fun e => by cases e⟩) hg9 HL2.out.bx HB.out, fun t2 j2 h2 e2 => ?_⟩
      rw [HE2.out] at e2
      injection e2 with e3
      subst e3
      exact ⟨B2, c2, rfl, (HOW.out.1.grown hg9 HZ2.out).lower (by have := HZ2.out; omega)⟩
    | true =>
    have hcont : j < p.size ∧ ¬ (decide (0 < n) = true ∧ pb p j = 92 ∧ pb p (j + 1) = 41) := by
      have h1 := HCB.out.symm
      simp only [begins, Bool.and_true, Bool.and_eq_true, decide_eq_true_eq] at h1
      refine ⟨h1.1, fun hh => ?_⟩
      have h2 := h1.2
      rw [hh.1, decide_eq_true hh.2.1, decide_eq_true hh.2.2] at h2
      cases h2
    have hj := hcont.1
    have HE2 := hide ((if_neg (fun hh => hh.elim (fun h1 => h1 hj) hcont.2)).symm.trans HE.out)
    clear hcont HE HCB
    obtain ⟨fb, hfb⟩ : ∃ fb : Bool, fb = (front && decide (pb p j = 94)) := ⟨_, rfl⟩
    have HFB := hide hfb
    clear hfb
    go_upto_region 6 with fail
    go_cut [34] (fun v34 wx => v34 = .bool fb ∧ Below wa.heap.size wa wx)
    case first =>
      cases front with
      | false =>
        have HX := hide (show fb = false from HFB.out)
        go_wp2_with fail
        go_meet
        case rel => exact ⟨by rw [HX.out], Below.refl _ _⟩
      | true =>
        have HX := hide (show begins p j [94] = fb from by rw [HFB.out]; simp [begins])
        have HHs := hide (breHas_any HLa.out.rd hp hjp [94] (by decide) ⟨#[94]⟩ rfl)
        rw [HX.out] at HHs
        go_wp2_with fail
        refine HHs.out.mono ?_
        rintro e wx ⟨rfl, hbx⟩
        have HBX := hide hbx
        clear hbx HHs
        go_wp2_with fail
        go_meet
        case rel => exact ⟨rfl, HBX.out⟩
    case rest =>
    rename World => wb
    obtain ⟨hv34, hbq⟩ := hcut
    subst hv34
    have HLb := hide (HLa.out.next HBa.out hbq)
    have HBb := hide (Nat.le_trans HBa.out hbq.size)
    clear hbq HLa HBa
    cases fb with
    | true =>
      have hff := HFB.out.symm
      rw [Bool.and_eq_true] at hff
      have HE3 := hide (show pattB p ic nl deeper (decide (0 < n)) k false star (j + 1) g' (acc ++ [begT]) = res from by rw [← HE2.out, if_pos ⟨hff.1, of_decide_eq_true hff.2⟩])
      clear hff HE2 HFB
      have c5 := HLb.out.rd.box.cell
      have f5 := HLb.out.rd.box.frozen
      have HE1 := hide (show (j : Int) + 1 = ((j + 1 : Nat) : Int) from rfl)
      go_upto_region 8 with fail
      rw [HE1.out]
      have HS := hide (HLb.out.step HGY.out (j + 1))
      have HBw := hide (show B0 ≤ (wb.setCell ⟨gr, 1, none⟩ (.int .i64 ((j + 1 : Nat) : Int))).heap.size from by rw [World.size_setCell]; exact HBb.out)
      generalize (wb.setCell ⟨gr, 1, none⟩ (.int .i64 ((j + 1 : Nat) : Int))) = ws at *
      clear c5 f5 HLb HBb HPc 
      have HQ0 := hide (And.intro HS.out.rd (And.intro HS.out.fr (And.intro HS.out.bx (And.intro HS.out.gx (show T.In ws (fun b => y.heap.size + 1 ≤ b ∧ b < ws.heap.size ∧ some b ≠ u3.ownBlock ∧ none ≠ some b) begT none from T.In_iff.2 trivial)))))
      have hal := (Below.refl ws.heap.size ws).alloc (Nat.le_refl _) (.cells #[.int .i64 3, .int .u64 0, .int .u64 0, .int .u64 0, .int .u64 0, .slice none 0 0, .int .i64 0, .int .i64 0, .int .i64 0, .bool false] 28)
      have HQ := hide (And.intro (HQ0.out.1.next hal) (And.intro (HQ0.out.2.1.next HBw.out hal) (And.intro (HQ0.out.2.2.1.next hal) (And.intro (HQ0.out.2.2.2.1.next hal) (HQ0.out.2.2.2.2.same (ok' := fun b => y.heap.size + 1 ≤ b ∧ b < (ws.alloc (.cells #[.int .i64 3, .int .u64 0, .int .u64 0, .int .u64 0, .int .u64 0, .slice none 0 0, .int .i64 0, .int .i64 0, .int .i64 0, .bool false] 28)).heap.size ∧ some b ≠ u3.ownBlock ∧ none ≠ some b) ((same_of_below hal).mono fun b hb => hb.2.1) fun b hb => ⟨hb.1, Nat.lt_of_lt_of_le hb.2.1 hal.size, hb.2.2⟩)))))
      have HBs := hide (show y.heap.size + 1 ≤ (ws.alloc (.cells #[.int .i64 3, .int .u64 0, .int .u64 0, .int .u64 0, .int .u64 0, .slice none 0 0, .int .i64 0, .int .i64 0, .int .i64 0, .bool false] 28)).heap.size from HQ.out.2.2.1.lt)
      have hll : acc.length < 1000000 := by omega
      clear hal
      go_wp2_with (at_builtin; refine wpList_append_nodeX rfl _ _ rfl (y.heap.size + 1) none _ acc rfl HQ.out.2.2.2.1 (fun b hb => by cases hb) (begT) none 0 ws.heap.size 1 rfl (Blk.new _ _ _) HQ.out.2.2.2.2 hll HBs.out ?_)
      intro v5 w5 hgx5 hg5
      have hlt := HQ.out.2.2.2.1.lt
      have hgr := HGR.out
      have n1 : u3.ownBlock ≠ some gr := fun e => by have := (hlt gr e).1; omega
      have n2 : u3.ownBlock ≠ some y.heap.size := fun e => by have := (hlt _ e).1; omega
      have HF := hide (show LpB B0 gr p fl n y w5 v5 (j + 1) g' (acc ++ [begT]) from ⟨HQ.out.1.grown hg5 n1 (.inl rfl), HQ.out.2.1.grown hg5 (fun b e => by have := (hlt b e).1; omega) HB.out, HQ.out.2.2.1.grown hg5 (fun e => n2 e.symm), hgx5⟩)
      clear hgx5 hg5 hlt hgr n1 n2
      go_wp2_with fail
      go_roundw
      case rel => exact ⟨j + 1, g', k, acc ++ [begT], false, star, rfl, rfl, HF.out, by omega, by omega, by omega, by simp; omega, by rw [TL.nodes_snoc]; simp only [begT, T.nodes, TL.nodes]; omega, by omega, HE3.out⟩
      case measure => rw [rbLeft_at HF.out.rd, HMs.out]; omega
    | false =>
    have hnf : ¬ (front = true ∧ pb p j = 94) := fun hh => by have h1 := HFB.out; rw [hh.1, decide_eq_true hh.2] at h1; cases h1
    have HE3 := hide ((if_neg hnf).symm.trans HE2.out)
    clear hnf
    clear HE2 HFB
    have c0 := HLb.out.rd.box.cell
    obtain ⟨s, hs⟩ : ∃ s, s = p.extract j p.size := ⟨_, rfl⟩
    obtain ⟨sd, hsd⟩ : ∃ sd : Bool, sd = decide (pb p j = 36 ∧ j + 1 = p.size) := ⟨_, rfl⟩
    have hdb : (s.toList == [36]) = sd := by rw [hs, dollar_bool hjp, hsd]
    have HSD := hide hsd
    have hse := hs.symm
    have k1 : (j : Int) ≤ (p.size : Int) := by omega
    clear hs hsd
    go_upto_region 10 with fail
    go_big_quiet (fail)
    have hbq := below_drewN6 (Below.refl wb.heap.size wb) nq
    have HLc := hide (HLb.out.next HBb.out hbq)
    have HBc := hide (Nat.le_trans HBb.out hbq.size)
    clear c0 hbq HLb HBb k1 hse
    generalize wb.drewN nq = wc at *
    cases sd with
    | true =>
      have h36 := of_decide_eq_true HSD.out.symm
      have HE4 := hide (show pattB p ic nl deeper (decide (0 < n)) k false false (j + 1) g' (acc ++ [endT]) = res from by rw [← HE3.out, if_pos ⟨h36.1, .inl h36.2⟩])
      clear HE3 HSD h36
      have c5 := HLc.out.rd.box.cell
      have f5 := HLc.out.rd.box.frozen
      have HE1 := hide (show (j : Int) + 1 = ((j + 1 : Nat) : Int) from rfl)
      go_upto_region 13 with fail
      rw [HE1.out]
      have HS := hide (HLc.out.step HGY.out (j + 1))
      have HBw := hide (show B0 ≤ (wc.setCell ⟨gr, 1, none⟩ (.int .i64 ((j + 1 : Nat) : Int))).heap.size from by rw [World.size_setCell]; exact HBc.out)
      generalize (wc.setCell ⟨gr, 1, none⟩ (.int .i64 ((j + 1 : Nat) : Int))) = ws at *
      clear c5 f5 HLc HBc HPc hdb 
      have HQ0 := hide (And.intro HS.out.rd (And.intro HS.out.fr (And.intro HS.out.bx (And.intro HS.out.gx (show T.In ws (fun b => y.heap.size + 1 ≤ b ∧ b < ws.heap.size ∧ some b ≠ u3.ownBlock ∧ none ≠ some b) endT none from T.In_iff.2 trivial)))))
      have hal := (Below.refl ws.heap.size ws).alloc (Nat.le_refl _) (.cells #[.int .i64 4, .int .u64 0, .int .u64 0, .int .u64 0, .int .u64 0, .slice none 0 0, .int .i64 0, .int .i64 0, .int .i64 0, .bool false] 28)
      have HQ := hide (And.intro (HQ0.out.1.next hal) (And.intro (HQ0.out.2.1.next HBw.out hal) (And.intro (HQ0.out.2.2.1.next hal) (And.intro (HQ0.out.2.2.2.1.next hal) (HQ0.out.2.2.2.2.same (ok' := fun b => y.heap.size + 1 ≤ b ∧ b < (ws.alloc (.cells #[.int .i64 4, .int .u64 0, .int .u64 0, .int .u64 0, .int .u64 0, .slice none 0 0, .int .i64 0, .int .i64 0, .int .i64 0, .bool false] 28)).heap.size ∧ some b ≠ u3.ownBlock ∧ none ≠ some b) ((same_of_below hal).mono fun b hb => hb.2.1) fun b hb => ⟨hb.1, Nat.lt_of_lt_of_le hb.2.1 hal.size, hb.2.2⟩)))))
      have HBs := hide (show y.heap.size + 1 ≤ (ws.alloc (.cells #[.int .i64 4, .int .u64 0, .int .u64 0, .int .u64 0, .int .u64 0, .slice none 0 0, .int .i64 0, .int .i64 0, .int .i64 0, .bool false] 28)).heap.size from HQ.out.2.2.1.lt)
      have hll : acc.length < 1000000 := by omega
      clear hal
      go_wp2_with (at_builtin; refine wpList_append_nodeX rfl _ _ rfl (y.heap.size + 1) none _ acc rfl HQ.out.2.2.2.1 (fun b hb => by cases hb) (endT) none 0 ws.heap.size 1 rfl (Blk.new _ _ _) HQ.out.2.2.2.2 hll HBs.out ?_)
      intro v5 w5 hgx5 hg5
      have hlt := HQ.out.2.2.2.1.lt
      have hgr := HGR.out
      have n1 : u3.ownBlock ≠ some gr := fun e => by have := (hlt gr e).1; omega
      have n2 : u3.ownBlock ≠ some y.heap.size := fun e => by have := (hlt _ e).1; omega
      have HF := hide (show LpB B0 gr p fl n y w5 v5 (j + 1) g' (acc ++ [endT]) from ⟨HQ.out.1.grown hg5 n1 (.inl rfl), HQ.out.2.1.grown hg5 (fun b e => by have := (hlt b e).1; omega) HB.out, HQ.out.2.2.1.grown hg5 (fun e => n2 e.symm), hgx5⟩)
      clear hgx5 hg5 hlt hgr n1 n2
      go_wp2_with fail
      go_roundw
      case rel => exact ⟨j + 1, g', k, acc ++ [endT], false, false, rfl, rfl, HF.out, by omega, by omega, by omega, by simp; omega, by rw [TL.nodes_snoc]; simp only [endT, T.nodes, TL.nodes]; omega, by omega, HE4.out⟩
      case measure => rw [rbLeft_at HF.out.rd, HMs.out]; omega
    | false =>
    obtain ⟨db, hdb2⟩ : ∃ db, db = begins p j [36, 92, 41] := ⟨_, rfl⟩
    have HHs := hide (breHas_any HLc.out.rd hp hjp [36, 92, 41] (by decide) ⟨#[36, 92, 41]⟩ rfl)
    rw [← hdb2] at HHs
    have HDB := hide hdb2
    clear hdb2
    go_wp2_with fail
    refine HHs.out.mono ?_
    rintro e wd ⟨rfl, hbd⟩
    have HLd := hide (HLc.out.next HBc.out hbd)
    have HBd := hide (Nat.le_trans HBc.out hbd.size)
    clear hbd HHs HLc HBc hdb
    cases db with
    | true =>
      have h36 := HDB.out.symm
      simp only [begins, Bool.and_true, Bool.and_eq_true, decide_eq_true_eq] at h36
      have HE4 := hide (show pattB p ic nl deeper (decide (0 < n)) k false false (j + 1) g' (acc ++ [endT]) = res from by rw [← HE3.out, if_pos ⟨h36.1, .inr ⟨h36.2.1, h36.2.2⟩⟩])
      clear HE3 HSD HDB h36
      have c5 := HLd.out.rd.box.cell
      have f5 := HLd.out.rd.box.frozen
      have HE1 := hide (show (j : Int) + 1 = ((j + 1 : Nat) : Int) from rfl)
      go_upto_region 13 with fail
      rw [HE1.out]
      have HS := hide (HLd.out.step HGY.out (j + 1))
      have HBw := hide (show B0 ≤ (wd.setCell ⟨gr, 1, none⟩ (.int .i64 ((j + 1 : Nat) : Int))).heap.size from by rw [World.size_setCell]; exact HBd.out)
      generalize (wd.setCell ⟨gr, 1, none⟩ (.int .i64 ((j + 1 : Nat) : Int))) = ws at *
      clear c5 f5 HLd HBd HPc 
      have HQ0 := hide (And.intro HS.out.rd (And.intro HS.out.fr (And.intro HS.out.bx (And.intro HS.out.gx (show T.In ws (fun b => y.heap.size + 1 ≤ b ∧ b < ws.heap.size ∧ some b ≠ u3.ownBlock ∧ none ≠ some b) endT none from T.In_iff.2 trivial)))))
      have hal := (Below.refl ws.heap.size ws).alloc (Nat.le_refl _) (.cells #[.int .i64 4, .int .u64 0, .int .u64 0, .int .u64 0, .int .u64 0, .slice none 0 0, .int .i64 0, .int .i64 0, .int .i64 0, .bool false] 28)
      have HQ := hide (And.intro (HQ0.out.1.next hal) (And.intro (HQ0.out.2.1.next HBw.out hal) (And.intro (HQ0.out.2.2.1.next hal) (And.intro (HQ0.out.2.2.2.1.next hal) (HQ0.out.2.2.2.2.same (ok' := fun b => y.heap.size + 1 ≤ b ∧ b < (ws.alloc (.cells #[.int .i64 4, .int .u64 0, .int .u64 0, .int .u64 0, .int .u64 0, .slice none 0 0, .int .i64 0, .int .i64 0, .int .i64 0, .bool false] 28)).heap.size ∧ some b ≠ u3.ownBlock ∧ none ≠ some b) ((same_of_below hal).mono fun b hb => hb.2.1) fun b hb => ⟨hb.1, Nat.lt_of_lt_of_le hb.2.1 hal.size, hb.2.2⟩)))))
      have HBs := hide (show y.heap.size + 1 ≤ (ws.alloc (.cells #[.int .i64 4, .int .u64 0, .int .u64 0, .int .u64 0, .int .u64 0, .slice none 0 0, .int .i64 0, .int .i64 0, .int .i64 0, .bool false] 28)).heap.size from HQ.out.2.2.1.lt)
      have hll : acc.length < 1000000 := by omega
      clear hal
      go_wp2_with (at_builtin; refine wpList_append_nodeX rfl _ _ rfl (y.heap.size + 1) none _ acc rfl HQ.out.2.2.2.1 (fun b hb => by cases hb) (endT) none 0 ws.heap.size 1 rfl (Blk.new _ _ _) HQ.out.2.2.2.2 hll HBs.out ?_)
      intro v5 w5 hgx5 hg5
      have hlt := HQ.out.2.2.2.1.lt
      have hgr := HGR.out
      have n1 : u3.ownBlock ≠ some gr := fun e => by have := (hlt gr e).1; omega
      have n2 : u3.ownBlock ≠ some y.heap.size := fun e => by have := (hlt _ e).1; omega
      have HF := hide (show LpB B0 gr p fl n y w5 v5 (j + 1) g' (acc ++ [endT]) from ⟨HQ.out.1.grown hg5 n1 (.inl rfl), HQ.out.2.1.grown hg5 (fun b e => by have := (hlt b e).1; omega) HB.out, HQ.out.2.2.1.grown hg5 (fun e => n2 e.symm), hgx5⟩)
      clear hgx5 hg5 hlt hgr n1 n2
      go_wp2_with fail
      go_roundw
      case rel => exact ⟨j + 1, g', k, acc ++ [endT], false, false, rfl, rfl, HF.out, by omega, by omega, by omega, by simp; omega, by rw [TL.nodes_snoc]; simp only [endT, T.nodes, TL.nodes]; omega, by omega, HE4.out⟩
      case measure => rw [rbLeft_at HF.out.rd, HMs.out]; omega
    | false =>
    have hno : ¬ (pb p j = 36 ∧ (j + 1 = p.size ∨ (pb p (j + 1) = 92 ∧ pb p (j + 2) = 41))) := by
      rintro ⟨h1, h2 | h2⟩
      · have h3 := HSD.out; rw [decide_eq_true ⟨h1, h2⟩] at h3; cases h3
      · have h3 := HDB.out; simp [begins, h1, h2] at h3
    have HE4 := hide ((if_neg hno).symm.trans HE3.out)
    have HPj := hide (HPc.out wd star j g' HLd.out.rd hj hgj HBd.out (fun y' hy => HM.out y' (HLd.out.fr.below.trans hy)))
    clear HE3 HSD HDB hno HPc
    go_wp2_with fail
    refine HPj.out.1.mono ?_
    intro e z hz
    cases hq : pieceB p ic nl deeper star j g' with
    | bad c pl =>
      rw [hq] at hz
      simp only [hq] at HE4
      have HPn := hide (PanB.from hz HLd.out.fr)
      obtain ⟨gf, rfl, hfi, hff⟩ := hz
      clear hfi hff hq HPj
      unfold faultV
      go_wp2_with fail
      refine ⟨rfl, ?_⟩
      exact ⟨bbad HE4.out.symm HPn.out, fun t2 j2 h2 e2 => by rw [← HE4.out] at e2; cases e2⟩
    | ok t k2 q =>
      have hfine := HPj.out.2
      rw [hq] at hz hfine
      simp only [hq] at HE4
      simp only [PR.Fine] at hfine
      obtain ⟨B, cc, rfl, hin, hE, hF⟩ := hz
      have HQ0 := hide (And.intro hE (And.intro (HLd.out.fr.trans hF) (And.intro (hF.blk_ HLd.out.bx (blk_ne6 HLd.out.bx HLd.out.rd.box (by decide)) (by simp)) (And.intro (HLd.out.gx.rdf (B0 := B0) (y := wd) HGR.out hF) (show T.In z (fun b => y.heap.size + 1 ≤ b ∧ b < z.heap.size ∧ some b ≠ u3.ownBlock ∧ none ≠ some b) t B from hin.same (Same.refl _ _) fun b hb => ⟨by have h1 := HLd.out.bx.lt; have h2 := hb.1; omega, hb.2, fun e => by have h1 := (HLd.out.gx.lt b e.symm).2; have h2 := hb.1; omega, fun e => by cases e⟩)))))
      have HBw := hide (Nat.le_trans HBd.out hF.below.size)
      clear hin hE hF hq HPj
      simp only [Hd.cells]
      have hal := (Below.refl z.heap.size z).alloc (Nat.le_refl _) (.cells #[.int .i64 t.hd.kind, .int .u64 t.hd.s0, .int .u64 t.hd.s1, .int .u64 t.hd.s2, .int .u64 t.hd.s3, .slice B t.subs.length cc, .int .i64 t.hd.num, .int .i64 t.hd.min, .int .i64 t.hd.max, .bool t.hd.bare] 28)
      have HQ := hide (And.intro (HQ0.out.1.next hal) (And.intro (HQ0.out.2.1.next HBw.out hal) (And.intro (HQ0.out.2.2.1.next hal) (And.intro (HQ0.out.2.2.2.1.next hal) (HQ0.out.2.2.2.2.same (ok' := fun b => y.heap.size + 1 ≤ b ∧ b < (z.alloc (.cells #[.int .i64 t.hd.kind, .int .u64 t.hd.s0, .int .u64 t.hd.s1, .int .u64 t.hd.s2, .int .u64 t.hd.s3, .slice B t.subs.length cc, .int .i64 t.hd.num, .int .i64 t.hd.min, .int .i64 t.hd.max, .bool t.hd.bare] 28)).heap.size ∧ some b ≠ u3.ownBlock ∧ none ≠ some b) ((same_of_below hal).mono fun b hb => hb.2.1) fun b hb => ⟨hb.1, Nat.lt_of_lt_of_le hb.2.1 hal.size, hb.2.2⟩)))))
      have HBs := hide (show y.heap.size + 1 ≤ (z.alloc (.cells #[.int .i64 t.hd.kind, .int .u64 t.hd.s0, .int .u64 t.hd.s1, .int .u64 t.hd.s2, .int .u64 t.hd.s3, .slice B t.subs.length cc, .int .i64 t.hd.num, .int .i64 t.hd.min, .int .i64 t.hd.max, .bool t.hd.bare] 28)).heap.size from HQ.out.2.2.1.lt)
      have hll : acc.length < 1000000 := by omega
      clear hal
      go_wp2_with (at_builtin; refine wpList_append_nodeX rfl _ _ rfl (y.heap.size + 1) none _ acc rfl HQ.out.2.2.2.1 (fun b hb => by cases hb) (t) B cc z.heap.size 1 rfl (Blk.new _ _ _) HQ.out.2.2.2.2 hll HBs.out ?_)
      intro v5 w5 hgx5 hg5
      have hlt := HQ.out.2.2.2.1.lt
      have hgr := HGR.out
      have n1 : u3.ownBlock ≠ some gr := fun e => by have := (hlt gr e).1; omega
      have n2 : u3.ownBlock ≠ some y.heap.size := fun e => by have := (hlt _ e).1; omega
      have HF := hide (show LpB B0 gr p fl n y w5 v5 k2 q (acc ++ [t]) from ⟨HQ.out.1.grown hg5 n1 (.inl rfl), HQ.out.2.1.grown hg5 (fun b e => by have := (hlt b e).1; omega) HB.out, HQ.out.2.2.1.grown hg5 (fun e => n2 e.symm), hgx5⟩)
      clear hgx5 hg5 hlt hgr n1 n2
      go_wp2_with fail
      go_roundw
      case rel => exact ⟨k2, q, k, acc ++ [t], false, false, rfl, rfl, HF.out, by omega, by omega, by omega, by simp; omega, by rw [TL.nodes_snoc]; omega, by omega, HE4.out⟩
      case measure => rw [rbLeft_at HF.out.rd, HMs.out]; omega
end Go.Proofs.YtfehmfifjidjjaaDoor
