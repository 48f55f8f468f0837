/- trawllaw17.PositMakes: it returns true, and what was there stays. (Printed by gen_makes17.py.) -/
import Derived.Test.YthkddbfgihgfaaaDoorOfPlain17
import Derived.Test.YthkddbfgihgfaaaDoorSame17
import Derived.Test.YthkddbfgihgfaaaDoorSpoil17
import Derived.Test.YthkddbfgihgfaaaDoorLives17
import Derived.Test.YthkddbfgihgfaaaDoorFew
import Derived.Test.YthkddbfgihgfaaaDoorCopyNode
import Derived.Test.YthkddbfgihgfaaaDoorSame
import Derived.Test.YthkddbfgihgfaaaDoorRefAll
import Derived.Test.YthkddbfgihgfaaaDoorRefAsked
import Derived.Test.YthkddbfgihgfaaaDoorNum
set_option linter.unusedSimpArgs false
set_option linter.unusedVariables false
namespace Go.Proofs.YthkddbfgihgfaaaDoor
open Go.RowKit

theorem Tryd.sizePositsK : (Tryd.prog.info? 36).map (·.size) = some 5 := by kernel_rfl
theorem hd_same_refl : ∀ h : Hd, h.same h = true := fun h => Hd.same_iff.2 rfl
mutual
theorem T.same_self : ∀ t : T, t.same t = true
  | .mk h l => by simp [T.same, hd_same_refl, TL.same_self l]
theorem TL.same_self : ∀ l : List T, TL.same l l = true
  | [] => rfl
  | t :: l => by simp [TL.same, T.same_self t, TL.same_self l]
end
theorem zero_po_in (ok : Nat → Prop) (w : World) : PoIn ok w ⟨[], 0, [], [], []⟩ ⟨none, none, none, none, 0, 0, 0, 0⟩ := ⟨.inl rfl, .inl rfl, .inl rfl, .inl rfl⟩
theorem zero_po_wf : Po.wf ⟨[], 0, [], [], []⟩ := ⟨by show IsI64 0; unfold IsI64; omega, by simp, by simp, by simp, by simp, by simp, by simp, by simp, by simp⟩

def Pm17 (nd : Nat) (w : World) (cs : Array Value) (z : Value) (wx : World) : Prop := ∃ b : Bool, z = .bool b ∧ (b = false → (nd : Int) ≤ 2500) ∧ Below w.heap.size w wx ∧ Blk wx w.heap.size 27 cs

set_option maxRecDepth 100000 in
set_option maxHeartbeats 4000000 in
theorem posMakes_true (t : T) (A : Option Addr) (c : Nat) (w : World) (a : Nat → Addr) (hwf : t.wf) (hin : T.In w (· < w.heap.size) t A) (hG : Errs w a) :
    Calls Tryd.prog 3 #[.agg (t.hd.cells (.slice A t.subs.length c)).toArray] w fun e w' => e = .returned (.bool true) ∧ Below w.heap.size w w' := by
  have HS := hide (fun y (hy : Below w.heap.size w y) g (hg : g ∈ [12, 13, 9]) => (hG.below hy).var g (by
    simp only [List.mem_cons, List.not_mem_nil, or_false] at hg
    omega))
  have HIN := hide (fun x (hx : Below w.heap.size w x) => (hin.same (same_of_below hx) (fun y hy => Nat.lt_of_lt_of_le hy hx.size) : T.In x (· < x.heap.size) t A))
  have HL := hide (fun y (hy : Below w.heap.size w y) => lives17_true y a (HS.out y hy))
  have HFw := hide (fun y (hy : Below w.heap.size w y) => few_any t A c 2500 y hwf (by decide) (by decide) (HIN.out y hy))
  have hnod := hide (fun h => few_nodes (t := t) (m := 2500) (by decide) h)
  have HSz := hide (fun y (hy : Below w.heap.size w y) (h : t.nodes ≤ 1000000) => refSizeAll_any t A c y h (HIN.out y hy))
  have HCp := hide (fun y (hy : Below w.heap.size w y) (h : t.nodes ≤ 1000000) => copyNode_any 1000000 t A c y h (by decide) (HIN.out y hy))
  have HO := hide (fun (B : Option Addr) (cB : Nat) y (hy : Below w.heap.size w y) (hi : T.In y (· < y.heap.size) t B) (h : t.nodes ≤ 1000000) => posOfAll_any t B cB y a h hi (HS.out y hy))
  have HCk := hide (fun y (hy : Below w.heap.size w y) (h : t.nodes ≤ 1000000) => refCheck_any t A c y h (HIN.out y hy))
  have HSm := hide (fun (B : Option Addr) (cB : Nat) y (hy : Below w.heap.size w y) (hi : T.In y (· < y.heap.size) t B) (h : t.nodes ≤ 1000000) => same_any 1000000 t t B A cB c y h (by decide) hi (HIN.out y hy))
  rw [t.same_self] at HSm
  have HNm := hide (fun y (hy : Below w.heap.size w y) (g : Nat) hg => num_err y a g hg (hG.below hy))
  have HCG := hide t.check_lt
  have HRf := hide (fun y (hy : Below w.heap.size w y) (h : t.nodes ≤ 900000) (hc : t.check = none) => of17All_any t A c y h (T.check_none hc).1 (T.check_none hc).2 (HIN.out y hy))
  have HEQ := hide (fun (hc : t.check = none) => posits_laid (T.exp_three t (T.check_none hc).1))
  have HLo := hide (fun _ : True => t.exp.laid_ok)
  have HLL := hide (laid_len t.exp)
  have HLw := hide (fun (h : t.check = none) => T.laid_wf (t := t.exp) (T.exp_flat t (t.flat_of (T.check_none h).1 hwf)) (by have := T.exp_nodes t (T.check_none h).1 (T.check_none h).2; have := (T.check_none h).2; omega))
  have HLd := hide (fun (h : t.check = none) => (show t.exp.laid.sets.length ≤ 1000000 from by
    have h1 := t.exp.pos_len ⟨[], fun _ _ => 0⟩
    have h2 := T.exp_nodes t (T.check_none h).1 (T.check_none h).2
    have h3 := (T.check_none h).2
    simp only [List.length_nil] at h1
    show t.exp.posOf.2.S.length ≤ 1000000
    unfold T.posOf
    omega))
  unfold Made17 at HO
  unfold PositsMade at HRf
  clear hin hwf hG HIN HS
  obtain ⟨Q, hQ⟩ : ∃ Q, Q = t.exp.posits := ⟨_, rfl⟩
  obtain ⟨L, hL⟩ : ∃ L, L = t.exp.laid := ⟨_, rfl⟩
  rw [← hQ] at HRf HEQ
  rw [← hL] at HO HLo HLw HLd HEQ HLL
  obtain ⟨ck, hck⟩ : ∃ ck, ck = t.check := ⟨_, rfl⟩
  rw [← hck] at HO HLw HLd HRf HEQ HCG HCk
  generalize hfs : t.fullSize = sz at HSz
  generalize hnd : t.nodes = nd at HSz HO HCp HSm HRf hnod HCk
  clear hQ hL hck hfs hnd
  simp only [Hd.cells] at HFw HSz HO HCp HSm HRf HCk ⊢
  have hbel := ((Below.refl w.heap.size w).alloc (Nat.le_refl _) (.cells #[.int .i64 t.hd.kind, .int .u64 t.hd.s0, .int .u64 t.hd.s1, .int .u64 t.hd.s2, .int .u64 t.hd.s3, .slice A t.subs.length c, .int .i64 t.hd.num, .int .i64 t.hd.min, .int .i64 t.hd.max, .bool t.hd.bare] 27))
  have hbt := (Blk.new w 27 #[.int .i64 t.hd.kind, .int .u64 t.hd.s0, .int .u64 t.hd.s1, .int .u64 t.hd.s2, .int .u64 t.hd.s3, .slice A t.subs.length c, .int .i64 t.hd.num, .int .i64 t.hd.min, .int .i64 t.hd.max, .bool t.hd.bare])
  have H0 := hide (And.intro hbel hbt)
  clear hbel hbt
  go_enter Tryd.func3, Tryd.ntmps3
  go_wp2_with fail
  generalize (w.alloc (.cells #[.int .i64 t.hd.kind, .int .u64 t.hd.s0, .int .u64 t.hd.s1, .int .u64 t.hd.s2, .int .u64 t.hd.s3, .slice A t.subs.length c, .int .i64 t.hd.num, .int .i64 t.hd.min, .int .i64 t.hd.max, .bool t.hd.bare] 27)) = W0 at *
  refine (HL.out _ H0.out.1).mono ?_
  rintro e w1 ⟨rfl, hb⟩
  have H1 := hide (And.intro (H0.out.1.trans (hb.mono H0.out.1.size)) (H0.out.2.nxt hb))
  clear hb HL H0
  go_upto_region 3 with fail
  go_cut [24] (fun z wx => Pm17 nd w #[.int .i64 t.hd.kind, .int .u64 t.hd.s0, .int .u64 t.hd.s1, .int .u64 t.hd.s2, .int .u64 t.hd.s3, .slice A t.subs.length c, .int .i64 t.hd.num, .int .i64 t.hd.min, .int .i64 t.hd.max, .bool t.hd.bare] z wx)
  case first =>
    have c1 := H1.out.2.cell
    go_wp2_with fail
    refine (HFw.out _ H1.out.1).mono ?_
    rintro e w2 ⟨rfl, hb⟩
    have H2 := hide (And.intro (H1.out.1.trans (hb.mono H1.out.1.size)) (H1.out.2.nxt hb))
    clear hb HFw H1 c1
    have c2 := H2.out.2.cell
    generalize hfew : decide (0 ≤ t.left 2500) = few at *
    cases few with
    | false =>
      clear hfew hnod
      go_wp2_with fail
      go_meet
      case rel => exact ⟨true, rfl, (fun h => by cases h), H2.out⟩
    | true =>
      have hN := hnod.out (by first | rfl | trivial)
      have hN3 : nd ≤ 1000000 := by omega
      clear hnod hfew
      go_wp2_with fail
      refine (HSz.out w2 H2.out.1 hN3).mono ?_
      rintro e w3 ⟨rfl, hb⟩
      have H3 := hide (And.intro (H2.out.1.trans (hb.mono H2.out.1.size)) (H2.out.2.nxt hb))
      clear hb H2 c2
      have c3 := H3.out.2.cell
      by_cases h4 : 200 < sz
      case pos =>
        have e4 : decide (200 < sz) = true := decide_eq_true h4
        have HSz2 := hide (HSz.out w3 H3.out.1 hN3)
        go_wp2_with fail
        refine HSz2.out.mono ?_
        rintro e w4 ⟨rfl, hb⟩
        have H4 := hide (And.intro (H3.out.1.trans (hb.mono H3.out.1.size)) (H3.out.2.nxt hb))
        clear hb H3 c3 HSz HSz2 e4
        have c4 := H4.out.2.cell
        go_wp2_with fail
        go_meet
        case rel => exact ⟨_, rfl, fun _ => hN, H4.out⟩
      have e4 : decide (200 < sz) = false := decide_eq_false h4
      go_wp2_with fail
      go_meet
      case rel => exact ⟨false, rfl, fun _ => hN, H3.out⟩
  case rest =>
  rename World => w3
  clear HFw HSz hnod H1
  obtain ⟨bq, rfl, hq1, hq2⟩ := hcut
  cases bq with
  | true =>
    go_wp2_with fail
    go_ret
    exact ⟨rfl, hq2.1⟩
  | false =>
    have hN := hq1 rfl
    have hN2 : nd ≤ 900000 := by omega
    have hN3 : nd ≤ 1000000 := by omega
    have H3 := hide hq2
    clear hN hq1 hq2
    have c3 := H3.out.2.cell
    go_wp2_with fail
    refine (HCp.out w3 H3.out.1 hN3).mono ?_
    rintro e w4 ⟨B, cB, bs, rfl, hown, _, hfr, hb⟩
    have hmin : T.In w4 (· < w4.heap.size) t B := hown.in_ fun b hb => (hfr b hb).2
    have H4 := hide (And.intro (H3.out.1.trans (hb.mono H3.out.1.size)) (And.intro (H3.out.2.nxt hb) hmin))
    clear hown hfr hb hmin HCp H3 c3
    have hal := (Below.refl w4.heap.size w4).alloc (Nat.le_refl _) (.cells #[.int .i64 0, .int .u64 0, .int .u64 0, .int .u64 0, .int .u64 0, .slice none 0 0, .int .i64 0, .int .i64 0, .int .i64 0, .bool false] 27)
    have hzb := Blk.new w4 27 #[.int .i64 0, .int .u64 0, .int .u64 0, .int .u64 0, .int .u64 0, .slice none 0 0, .int .i64 0, .int .i64 0, .int .i64 0, .bool false]
    go_wp2_with (refine wpList_store_row rfl _ _ _ rfl w4.heap.size 0 _ _ _ rfl rfl hzb Tryd.sizeNode (by simp) (by simp [Value.oneCell']) ?_)
    intro w5 hrow2 hg9 hz9
    have hrow := hrow2.out
    rw [splice_full (by rfl)] at hrow
    have hbE : Below w4.heap.size w4 w5 := below_grew hal hg9 (Nat.le_refl _) (fun q hq => by rw [← Option.some.inj hq]; exact Nat.le_refl _)
    clear hrow2 hg9 hz9 hal hzb
    have H5 := hide (And.intro (H4.out.1.trans (hbE.mono H4.out.1.size)) (And.intro (H4.out.2.1.nxt hbE) (And.intro (show T.In w5 (· < w5.heap.size) t B from H4.out.2.2.same (same_of_below hbE) (fun y hy => Nat.lt_of_lt_of_le hy hbE.size)) hrow)))
    have hgm : w4.heap.size < w5.heap.size := hrow.lt
    clear hrow hbE H4
    generalize w4.heap.size = gm at *
    have c5 := H5.out.2.2.2.cell
    go_wp2_with fail
    refine (HO.out B cB w5 H5.out.1 H5.out.2.2.1 hN3).mono ?_
    rintro e w6 hm6
    cases ck with
    | some g =>
      have hm : e = .returned (.tuple #[.agg #[.slice none 0 0, .int .i64 0, .slice none 0 0, .slice none 0 0, .slice none 0 0], errV (a g)]) ∧ Below w5.heap.size w5 w6 := by
        rcases hm6 with ⟨g', h1, h2, h3⟩ | ⟨h, _⟩
        · obtain rfl := Option.some.inj h1
          exact ⟨h2, h3⟩
        · cases h
      obtain ⟨rfl, hb⟩ := hm
      have H6 := hide (And.intro (H5.out.1.trans (hb.mono H5.out.1.size)) (And.intro (H5.out.2.1.nxt hb) (And.intro (show T.In w6 (· < w6.heap.size) t B from H5.out.2.2.1.same (same_of_below hb) (fun y hy => Nat.lt_of_lt_of_le hy hb.size)) (H5.out.2.2.2.nxt hb))))
      clear hb hm6 H5 c5
      have c6 := H6.out.2.2.2.cell
      simp only [errOf, errV]
      have hal := (Below.refl w6.heap.size w6).alloc (Nat.le_refl _) (.cells #[.slice none 0 0, .int .i64 0, .slice none 0 0, .slice none 0 0, .slice none 0 0] 36)
      have hzb := Blk.new w6 36 #[.slice none 0 0, .int .i64 0, .slice none 0 0, .slice none 0 0, .slice none 0 0]
      go_wp2_with (refine wpList_store_row rfl _ _ _ rfl w6.heap.size 0 _ _ _ rfl rfl hzb Tryd.sizePositsK (by simp) (by simp [Value.oneCell']) ?_)
      intro w7 hrow2 hg9 hz9
      have hrow := hrow2.out
      rw [splice_full (by rfl)] at hrow
      have hbE : Below w6.heap.size w6 w7 := below_grew hal hg9 (Nat.le_refl _) (fun q hq => by rw [← Option.some.inj hq]; exact Nat.le_refl _)
      clear hrow2 hg9 hz9 hal hzb
      have H7 := hide (And.intro (H6.out.1.trans (hbE.mono H6.out.1.size)) (And.intro (H6.out.2.1.nxt hbE) (And.intro (show T.In w7 (· < w7.heap.size) t B from H6.out.2.2.1.same (same_of_below hbE) (fun y hy => Nat.lt_of_lt_of_le hy hbE.size)) (And.intro (H6.out.2.2.2.nxt hbE) hrow))))
      clear hrow hbE H6 c6
      generalize w6.heap.size = ga at *
      have c7 := H7.out.2.2.2.1.cell
      have HO7 := hide (HO.out B cB w7 H7.out.1 H7.out.2.2.1 hN3)
      go_wp2_with fail
      refine HO7.out.mono ?_
      rintro e w8 hm8
      have hm : e = .returned (.tuple #[.agg #[.slice none 0 0, .int .i64 0, .slice none 0 0, .slice none 0 0, .slice none 0 0], errV (a g)]) ∧ Below w7.heap.size w7 w8 := by
        rcases hm8 with ⟨g', h1, h2, h3⟩ | ⟨h, _⟩
        · obtain rfl := Option.some.inj h1
          exact ⟨h2, h3⟩
        · cases h
      obtain ⟨rfl, hb⟩ := hm
      have H8 := hide (And.intro (H7.out.1.trans (hb.mono H7.out.1.size)) (And.intro (H7.out.2.1.nxt hb) (And.intro (show T.In w8 (· < w8.heap.size) t B from H7.out.2.2.1.same (same_of_below hb) (fun y hy => Nat.lt_of_lt_of_le hy hb.size)) (And.intro (H7.out.2.2.2.1.nxt hb) (H7.out.2.2.2.2.nxt hb)))))
      clear hb hm8 H7 c7 HO7
      simp only [errV]
      have hal := (Below.refl w8.heap.size w8).alloc (Nat.le_refl _) (.cells #[.slice none 0 0, .int .i64 0, .slice none 0 0, .slice none 0 0, .slice none 0 0] 36)
      have hzb := Blk.new w8 36 #[.slice none 0 0, .int .i64 0, .slice none 0 0, .slice none 0 0, .slice none 0 0]
      go_wp2_with (refine wpList_store_row rfl _ _ _ rfl w8.heap.size 0 _ _ _ rfl rfl hzb Tryd.sizePositsK (by simp) (by simp [Value.oneCell']) ?_)
      intro w9 hrow2 hg9 hz9
      have hrow := hrow2.out
      rw [splice_full (by rfl)] at hrow
      have hbE : Below w8.heap.size w8 w9 := below_grew hal hg9 (Nat.le_refl _) (fun q hq => by rw [← Option.some.inj hq]; exact Nat.le_refl _)
      clear hrow2 hg9 hz9 hal hzb
      have H9 := hide (And.intro (H8.out.1.trans (hbE.mono H8.out.1.size)) (And.intro (H8.out.2.1.nxt hbE) (And.intro (show T.In w9 (· < w9.heap.size) t B from H8.out.2.2.1.same (same_of_below hbE) (fun y hy => Nat.lt_of_lt_of_le hy hbE.size)) (And.intro (H8.out.2.2.2.1.nxt hbE) (H8.out.2.2.2.2.nxt hbE)))))
      clear hrow hbE H8
      have c9 := H9.out.2.1.cell
      go_wp2_with fail
      refine (HCk.out w9 H9.out.1 hN3).mono ?_
      rintro e w10 ⟨rfl, hb⟩
      have H10 := hide (And.intro (H9.out.1.trans (hb.mono H9.out.1.size)) (And.intro (H9.out.2.1.nxt hb) (And.intro (show T.In w10 (· < w10.heap.size) t B from H9.out.2.2.1.same (same_of_below hb) (fun y hy => Nat.lt_of_lt_of_le hy hb.size)) (And.intro (H9.out.2.2.2.1.nxt hb) (H9.out.2.2.2.2.nxt hb)))))
      clear hb H9 c9 HCk
      have HN1 := hide (HNm.out w10 H10.out.1 g (HCG.out g rfl))
      simp only [errV] at HN1
      have hne0 : ((g : Int) + 1 != 0) = true := bne_iff_ne.2 (by omega)
      simp only [numOf]
      go_wp2_with fail
      refine HN1.out.mono ?_
      rintro e w11 ⟨rfl, hb⟩
      have H11 := hide (And.intro (H10.out.1.trans (hb.mono H10.out.1.size)) (And.intro (H10.out.2.1.nxt hb) (And.intro (show T.In w11 (· < w11.heap.size) t B from H10.out.2.2.1.same (same_of_below hb) (fun y hy => Nat.lt_of_lt_of_le hy hb.size)) (And.intro (H10.out.2.2.2.1.nxt hb) (H10.out.2.2.2.2.nxt hb)))))
      clear hb H10 HN1 HNm
      have c11 := H11.out.2.1.cell
      have d11 := H11.out.2.2.2.1.cell
      go_wp2_with fail
      refine (HSm.out B cB w11 H11.out.1 H11.out.2.2.1 hN3).mono ?_
      rintro e w12 ⟨rfl, hb⟩
      have H12 := hide (And.intro (H11.out.1.trans (hb.mono H11.out.1.size)) (H11.out.2.2.2.2.nxt hb))
      clear hb H11 c11 d11
      have c12 := H12.out.2.cell
      have HPS := hide (posSame_true ⟨[], 0, [], [], []⟩ ⟨none, none, none, none, 0, 0, 0, 0⟩ ⟨none, none, none, none, 0, 0, 0, 0⟩ w12 zero_po_wf (zero_po_in _ _) (zero_po_in _ _))
      simp only [Po.cells, List.length_nil] at HPS
      go_wp2_with fail
      refine HPS.out.mono ?_
      rintro e w13 ⟨rfl, hb⟩
      have H13 := hide (H12.out.1.trans (hb.mono H12.out.1.size))
      clear hb H12 c12 HPS
      go_wp2_with fail
      go_ret
      exact ⟨rfl, H13.out⟩
    | none =>
      have hm : ∃ sv v1 v2 fv vs, e = .returned (.tuple #[.agg #[sv, .int .i64 L.null, v1, v2, fv], .nilIface]) ∧ OwnPo w5.heap.size L sv v1 v2 fv vs w6 ∧ Below w5.heap.size w5 w6 := by
        rcases hm6 with ⟨g', h1, h2, h3⟩ | ⟨_, h⟩
        · cases h1
        · exact h
      obtain ⟨sv, v1, v2, fv, vs, rfl, hownA, hb⟩ := hm
      have hQL : Q = L := HEQ.out rfl
      subst hQL
      have HLw' := hide (HLw.out rfl)
      have HLd' := hide (HLd.out rfl)
      clear HEQ HLw HLd
      obtain ⟨pa, hpa, hpi⟩ := hownA.in_
      simp only [Po.cells] at hpa
      injection hpa with hpa
      injection hpa with e1 hpa
      injection hpa with _ hpa
      injection hpa with e2 hpa
      injection hpa with e3 hpa
      injection hpa with e4 _
      subst e1 e2 e3 e4
      have HPA := hide (And.intro hownA hpi)
      clear hownA hpi
      have H6 := hide (And.intro (H5.out.1.trans (hb.mono H5.out.1.size)) (And.intro (H5.out.2.1.nxt hb) (And.intro (show T.In w6 (· < w6.heap.size) t B from H5.out.2.2.1.same (same_of_below hb) (fun y hy => Nat.lt_of_lt_of_le hy hb.size)) (H5.out.2.2.2.nxt hb))))
      have hlo := hb.size
      have HLO := hide (show w.heap.size ≤ w5.heap.size from H5.out.1.size)
      clear hb hm6 H5 c5
      generalize w5.heap.size = lo at *
      have c6 := H6.out.2.2.2.cell
      have hal := (Below.refl w6.heap.size w6).alloc (Nat.le_refl _) (.cells #[.slice none 0 0, .int .i64 0, .slice none 0 0, .slice none 0 0, .slice none 0 0] 36)
      have hzb := Blk.new w6 36 #[.slice none 0 0, .int .i64 0, .slice none 0 0, .slice none 0 0, .slice none 0 0]
      go_wp2_with (refine wpList_store_row rfl _ _ _ rfl w6.heap.size 0 _ _ _ rfl rfl hzb Tryd.sizePositsK (by simp) (by simp [Value.oneCell']) ?_)
      intro w7 hrow2 hg9 hz9
      have hrow := hrow2.out
      rw [splice_full (by rfl)] at hrow
      have hbE : Below w6.heap.size w6 w7 := below_grew hal hg9 (Nat.le_refl _) (fun q hq => by rw [← Option.some.inj hq]; exact Nat.le_refl _)
      clear hrow2 hg9 hz9 hal hzb
      have H7 := hide (And.intro (H6.out.1.trans (hbE.mono H6.out.1.size)) (And.intro (H6.out.2.1.nxt hbE) (And.intro (show T.In w7 (· < w7.heap.size) t B from H6.out.2.2.1.same (same_of_below hbE) (fun y hy => Nat.lt_of_lt_of_le hy hbE.size)) (And.intro (H6.out.2.2.2.nxt hbE) hrow))))
      have HB67 := hide hbE
      clear hrow hbE H6 c6
      obtain ⟨hi, hhi⟩ : ∃ hi, hi = w6.heap.size := ⟨_, rfl⟩
      rw [← hhi] at H7 HB67 ⊢
      have HHI := hide hhi
      have hlo2 : lo ≤ hi := by omega
      clear hhi hlo
      have c7 := H7.out.2.2.2.1.cell
      have HO7 := hide (HO.out B cB w7 H7.out.1 H7.out.2.2.1 hN3)
      have h7hi : hi < w7.heap.size := H7.out.2.2.2.2.lt
      go_wp2_with fail
      refine HO7.out.mono ?_
      rintro e w8 hm8
      have hm : ∃ sv v1 v2 fv vs, e = .returned (.tuple #[.agg #[sv, .int .i64 Q.null, v1, v2, fv], .nilIface]) ∧ OwnPo w7.heap.size Q sv v1 v2 fv vs w8 ∧ Below w7.heap.size w7 w8 := by
        rcases hm8 with ⟨g', h1, h2, h3⟩ | ⟨_, h⟩
        · cases h1
        · exact h
      obtain ⟨sv', v1', v2', fv', vs', rfl, hownB, hb⟩ := hm
      obtain ⟨pb, hpb, hpi⟩ := hownB.in_
      simp only [Po.cells] at hpb
      injection hpb with hpb
      injection hpb with e1 hpb
      injection hpb with _ hpb
      injection hpb with e2 hpb
      injection hpb with e3 hpb
      injection hpb with e4 _
      subst e1 e2 e3 e4
      have HPB := hide hpi
      clear hownB hpi
      have H8 := hide (And.intro (H7.out.1.trans (hb.mono H7.out.1.size)) (And.intro (H7.out.2.1.nxt hb) (And.intro (show T.In w8 (· < w8.heap.size) t B from H7.out.2.2.1.same (same_of_below hb) (fun y hy => Nat.lt_of_lt_of_le hy hb.size)) (And.intro (H7.out.2.2.2.1.nxt hb) (H7.out.2.2.2.2.nxt hb)))))
      have HB68 := hide (HB67.out.trans (hb.mono (by omega)))
      have h78 := hb.size
      clear hb hm8 H7 c7 HO7 HB67
      have hal := (Below.refl w8.heap.size w8).alloc (Nat.le_refl _) (.cells #[.slice none 0 0, .int .i64 0, .slice none 0 0, .slice none 0 0, .slice none 0 0] 36)
      have hzb := Blk.new w8 36 #[.slice none 0 0, .int .i64 0, .slice none 0 0, .slice none 0 0, .slice none 0 0]
      go_wp2_with (refine wpList_store_row rfl _ _ _ rfl w8.heap.size 0 _ _ _ rfl rfl hzb Tryd.sizePositsK (by simp) (by simp [Value.oneCell']) ?_)
      intro w9 hrow2 hg9 hz9
      have hrow := hrow2.out
      rw [splice_full (by rfl)] at hrow
      have hbE : Below w8.heap.size w8 w9 := below_grew hal hg9 (Nat.le_refl _) (fun q hq => by rw [← Option.some.inj hq]; exact Nat.le_refl _)
      clear hrow2 hg9 hz9 hal hzb
      have H9 := hide (And.intro (H8.out.1.trans (hbE.mono H8.out.1.size)) (And.intro (H8.out.2.1.nxt hbE) (And.intro (show T.In w9 (· < w9.heap.size) t B from H8.out.2.2.1.same (same_of_below hbE) (fun y hy => Nat.lt_of_lt_of_le hy hbE.size)) (And.intro (H8.out.2.2.2.1.nxt hbE) (And.intro (H8.out.2.2.2.2.nxt hbE) hrow)))))
      have HB69 := hide (HB68.out.trans (hbE.mono (by omega)))
      have HPB9 := hide (HPB.out.same (ok' := fun b => w7.heap.size ≤ b ∧ b < w8.heap.size) (same_of_below hbE |>.mono fun b hb => hb.2) (fun b hb => hb))
      clear hrow hbE H8 HB68
      generalize w8.heap.size = gb at *
      generalize w7.heap.size = lb at *
      have c9 := H9.out.2.1.cell
      have h9b : gb < w9.heap.size := H9.out.2.2.2.2.2.lt
      go_wp2_with fail
      refine (HCk.out w9 H9.out.1 hN3).mono ?_
      rintro e w10 ⟨rfl, hb⟩
      have H10 := hide (And.intro (H9.out.1.trans (hb.mono H9.out.1.size)) (And.intro (H9.out.2.1.nxt hb) (And.intro (show T.In w10 (· < w10.heap.size) t B from H9.out.2.2.1.same (same_of_below hb) (fun y hy => Nat.lt_of_lt_of_le hy hb.size)) (And.intro (H9.out.2.2.2.1.nxt hb) (And.intro (H9.out.2.2.2.2.1.nxt hb) (H9.out.2.2.2.2.2.nxt hb))))))
      have HB610 := hide (HB69.out.trans (hb.mono (by omega)))
      have HPB10 := hide (HPB9.out.same (ok' := fun b => lb ≤ b ∧ b < gb) (same_of_below (hb.mono (by omega : gb ≤ w9.heap.size)) |>.mono fun b hb => hb.2) (fun b hb => hb))
      have h910 := hb.size
      clear hb H9 c9 HCk HB69 HPB9
      simp only [numOf]
      have HN1 := hide (num_nil w10)
      go_wp2_with fail
      refine HN1.out.mono ?_
      rintro e w11 ⟨rfl, rfl⟩
      clear HN1 HNm
      have c11 := H10.out.2.1.cell
      have d11 := H10.out.2.2.2.1.cell
      go_wp2_with fail
      refine (HSm.out B cB w11 H10.out.1 H10.out.2.2.1 hN3).mono ?_
      rintro e w12 ⟨rfl, hb⟩
      have H12 := hide (And.intro (H10.out.1.trans (hb.mono H10.out.1.size)) (And.intro (H10.out.2.1.nxt hb) (And.intro (H10.out.2.2.2.2.1.nxt hb) (H10.out.2.2.2.2.2.nxt hb))))
      have HB612 := hide (HB610.out.trans (hb.mono (by omega)))
      have HPB12 := hide (HPB10.out.same (ok' := fun b => lb ≤ b ∧ b < gb) (same_of_below (hb.mono (by omega : gb ≤ w11.heap.size)) |>.mono fun b hb => hb.2) (fun b hb => hb))
      have h1012 := hb.size
      clear hb H10 c11 d11 HB610 HPB10
      have c12 := H12.out.2.1.cell
      go_wp2_with fail
      refine (HRf.out w12 H12.out.1 hN2 (by first | rfl | trivial)).mono ?_
      rintro e w13 ⟨pc, rfl, hpc, hb⟩
      have H13 := hide (And.intro (H12.out.1.trans (hb.mono H12.out.1.size)) (And.intro (H12.out.2.2.1.nxt hb) (H12.out.2.2.2.nxt hb)))
      have HB613 := hide (HB612.out.trans (hb.mono (by omega)))
      have HPB13 := hide (HPB12.out.same (ok' := fun b => lb ≤ b ∧ b < gb) (same_of_below (hb.mono (by omega : gb ≤ w12.heap.size)) |>.mono fun b hb => hb.2) (fun b hb => hb))
      have h1213 := hb.size
      have HPC := hide hpc
      clear hb H12 c12 HB612 HPB12 hpc HRf
      have hcc : (Po.cells Q pc).toArray = #[.slice pc.s Q.sets.length pc.cs, .int .i64 Q.null, .slice pc.f Q.first.length pc.cf, .slice pc.l Q.last.length pc.cl, .slice pc.w Q.follow.length pc.cw] := rfl
      rw [hcc]
      clear hcc
      have hal := (Below.refl w13.heap.size w13).alloc (Nat.le_refl _) (.cells #[.slice none 0 0, .int .i64 0, .slice none 0 0, .slice none 0 0, .slice none 0 0] 36)
      have hzb := Blk.new w13 36 #[.slice none 0 0, .int .i64 0, .slice none 0 0, .slice none 0 0, .slice none 0 0]
      go_wp2_with (refine wpList_store_row rfl _ _ _ rfl w13.heap.size 0 _ _ _ rfl rfl hzb Tryd.sizePositsK (by simp) (by simp [Value.oneCell']) ?_)
      intro w14 hrow2 hg9 hz9
      have hrow := hrow2.out
      rw [splice_full (by rfl)] at hrow
      have hbE : Below w13.heap.size w13 w14 := below_grew hal hg9 (Nat.le_refl _) (fun q hq => by rw [← Option.some.inj hq]; exact Nat.le_refl _)
      clear hrow2 hg9 hz9 hal hzb
      have H14 := hide (And.intro (H13.out.1.trans (hbE.mono H13.out.1.size)) (And.intro (H13.out.2.1.nxt hbE) (And.intro (H13.out.2.2.nxt hbE) hrow)))
      have HB614 := hide (HB613.out.trans (hbE.mono (by omega)))
      have HPB14 := hide (HPB13.out.same (ok' := fun b => lb ≤ b ∧ b < gb) (same_of_below (hbE.mono (by omega : gb ≤ w13.heap.size)) |>.mono fun b hb => hb.2) (fun b hb => hb))
      have HPC14 := hide (HPC.out.same (ok' := fun b => w12.heap.size ≤ b ∧ b < w13.heap.size) (same_of_below hbE |>.mono fun b hb => hb.2) (fun b hb => hb))
      clear hrow hbE H13 HB613 HPB13 HPC
      have h14 : w13.heap.size < w14.heap.size := H14.out.2.2.2.lt
      generalize w13.heap.size = gc at *
      have HPA14 := hide (HPA.out.2.same (ok' := (· < w14.heap.size)) (same_of_below HB614.out |>.mono fun b hb => by have := hb.2; have := HHI.out; omega) (fun b hb => by have := hb.2; have := HHI.out; omega))
      have HS14 := hide (posSame_true Q pa pc w14 HLw'.out HPA14.out (HPC14.out.same (Same.refl _ _) (fun b hb => by have := hb.2; omega)))
      simp only [Po.cells] at HS14
      clear HPA14
      have c14 := H14.out.2.1.cell
      have d14 := H14.out.2.2.2.cell
      go_wp2_with fail
      refine HS14.out.mono ?_
      rintro e w15 ⟨rfl, hb⟩
      have H15 := hide (And.intro (H14.out.1.trans (hb.mono H14.out.1.size)) (And.intro (H14.out.2.1.nxt hb) (And.intro (H14.out.2.2.1.nxt hb) (H14.out.2.2.2.nxt hb))))
      have HB615 := hide (HB614.out.trans (hb.mono (by omega)))
      have HPB15 := hide (HPB14.out.same (ok' := fun b => lb ≤ b ∧ b < gb) (same_of_below (hb.mono (by omega : gb ≤ w14.heap.size)) |>.mono fun b hb => hb.2) (fun b hb => hb))
      have HPC15 := hide (HPC14.out.same (ok' := fun b => w12.heap.size ≤ b ∧ b < gc) (same_of_below (hb.mono (by omega : gc ≤ w14.heap.size)) |>.mono fun b hb => hb.2) (fun b hb => hb))
      have h1415 := hb.size
      clear hb H14 c14 d14 HB614 HPB14 HPC14 HS14
      have HSp := hide (spoil17_own (hi := hi) (w := w15) HPA.out.1 HHI.out (by rw [← HHI.out]; exact HB615.out) ⟨HLd'.out, HLL.out.1, HLL.out.2.1, HLL.out.2.2.1, HLL.out.2.2.2⟩ Q.null)
      have c15 := H15.out.2.1.cell
      go_wp2_with fail
      refine HSp.out.mono ?_
      rintro e w16 ⟨rfl, hon⟩
      have hsz16 := hon.size
      have H16 := hide (And.intro (H15.out.1.trans (hon.below (by have := H15.out.1.size; omega) (fun b hb => by have := hb.1; have := HLO.out; omega))) (And.intro (H15.out.2.2.1.same (hon.same (ok := fun b => b = gb) (fun b hb => by subst hb; exact ⟨H15.out.2.2.1.lt, fun h => by have := h.2; omega⟩)) rfl) (H15.out.2.2.2.same (hon.same (ok := fun b => b = gc) (fun b hb => by subst hb; exact ⟨H15.out.2.2.2.lt, fun h => by have := h.2; omega⟩)) rfl)))
      have HPB16 := hide (HPB15.out.same (ok' := (· < w16.heap.size)) (hon.same (fun b hb => ⟨by have := hb.2; omega, fun h => by have := h.2; have := hb.1; omega⟩)) (fun b hb => by have := hb.2; omega))
      have HPC16 := hide (HPC15.out.same (ok' := (· < w16.heap.size)) (hon.same (fun b hb => ⟨by have := hb.2; omega, fun h => by have := h.2; have := hb.1; omega⟩)) (fun b hb => by have := hb.2; omega))
      clear hon H15 c15 HPB15 HPC15 HB615 HSp
      have HS16 := hide (posSame_true Q pb pc w16 HLw'.out HPB16.out HPC16.out)
      simp only [Po.cells] at HS16
      have c16 := H16.out.2.1.cell
      have d16 := H16.out.2.2.cell
      go_wp2_with fail
      refine HS16.out.mono ?_
      rintro e w17 ⟨rfl, hb⟩
      have H17 := hide (H16.out.1.trans (hb.mono H16.out.1.size))
      clear hb H16 c16 d16 HS16
      go_wp2_with fail
      go_ret
      exact ⟨rfl, H17.out⟩
end Go.Proofs.YthkddbfgihgfaaaDoor
