/- trawlref11.Ends, Takes: by the document's definition. (Printed by gen_refends.py.) -/
import Derived.Test.YtgpmiflfgpnhaaaDoorRefOver
set_option linter.unusedSimpArgs false
set_option linter.unusedVariables false
namespace Go.Proofs.YtgpmiflfgpnhaaaDoor
open Go.RowKit

theorem OwnInts.from {b1 b2 : Nat} {w : World} {v : Value} {l : List Int} (h : OwnInts b1 w v l) (hb : b2 ≤ b1) : OwnInts b2 w v l := by
  refine ⟨h.1, ?_⟩
  rcases h.2 with h | ⟨g, cap, cur, e, hg, r⟩
  · exact .inl h
  · exact .inr ⟨g, cap, cur, e, Nat.le_trans hb hg, r⟩
theorem filter_range (p : Nat → Bool) (n : Nat) (h : ∀ i, n ≤ i → p i = false) : ∀ d, (List.range (n + d)).filter p = (List.range n).filter p
  | 0 => rfl
  | d + 1 => by
    rw [← Nat.add_assoc, List.range_succ, List.filter_append, filter_range p n h d]
    simp [h (n + d) (by omega)]
theorem places_upto {n f : Nat} (h : Fits n f) (hn : n ≤ 63) : places f = (List.range (n + 1)).filter fun i => f.testBit i := by
  have := filter_range (fun i => f.testBit i) (n + 1) (fun i hi => by
    cases hb : f.testBit i with
    | false => rfl
    | true => have := h i hb; omega) (64 - (n + 1))
  rw [show n + 1 + (64 - (n + 1)) = 64 by omega] at this
  exact this

section
variable {x : Sc} {cf ef : Int} (hr : RefSc x cf ef) (hn : x.text.size ≤ 63) (t : T) (A : Option Addr) (c : Nat) (w : World) (hN : t.nodes ≤ 1000000) (hwf : t.wf) (hform : t.form = true) (hin : T.In w (· < w.heap.size) t A) (i : Nat) (hi : i ≤ x.text.size)
include hr hn hN hwf hform hin hi

set_option maxRecDepth 100000 in
set_option maxHeartbeats 2000000 in
theorem refEnds_any : Calls Tryd.prog 35 #[.agg (t.hd.cells (.slice A t.subs.length c)).toArray, .agg #[.string x.text, .int .i64 cf, .int .i64 ef, .bool false], .int .i64 i] w fun e w' => ∃ (v : Value) (r : List Int), e = .returned v ∧ OwnInts w.heap.size w' v r ∧ EndsOf (t.R x) x.text.size i r ∧ Below w.heap.size w w' := by
  have HO := hide (fun f v y hi hv hf => over_any 1000000 hr hn t hN (by omega) hwf hform A c f v y hi hv hf)
  have HON := hide (fun y => only_any x.text cf ef hr.small i hi y)
  have HIN := hide hin
  generalize t.R x = R at *
  clear hform hwf hin hN
  obtain ⟨⟨kind, s0, s1, s2, s3, num, mn, mx, bare⟩, l⟩ := t
  simp only [T.hd, T.subs, Hd.cells] at HO ⊢
  have hbt := (Blk.new w 52 #[.int .i64 kind, .int .u64 s0, .int .u64 s1, .int .u64 s2, .int .u64 s3, .slice A l.length c, .int .i64 num, .int .i64 mn, .int .i64 mx, .bool bare]).alloc (.cells #[.string x.text, .int .i64 cf, .int .i64 ef, .bool false] 34)
  have hbs := Blk.new (w.alloc (.cells #[.int .i64 kind, .int .u64 s0, .int .u64 s1, .int .u64 s2, .int .u64 s3, .slice A l.length c, .int .i64 num, .int .i64 mn, .int .i64 mx, .bool bare] 52)) 34 #[.string x.text, .int .i64 cf, .int .i64 ef, .bool false]
  have hbel := ((Below.refl w.heap.size w).alloc (Nat.le_refl _) (.cells #[.int .i64 kind, .int .u64 s0, .int .u64 s1, .int .u64 s2, .int .u64 s3, .slice A l.length c, .int .i64 num, .int .i64 mn, .int .i64 mx, .bool bare] 52)).alloc (by simp) (.cells #[.string x.text, .int .i64 cf, .int .i64 ef, .bool false] 34)
  simp only [World.size_alloc] at hbs
  go_enter Tryd.func35, Tryd.ntmps35
  go_upto_region 2 with fail
  generalize ((w.alloc (.cells #[.int .i64 kind, .int .u64 s0, .int .u64 s1, .int .u64 s2, .int .u64 s3, .slice A l.length c, .int .i64 num, .int .i64 mn, .int .i64 mx, .bool bare] 52)).alloc (.cells #[.string x.text, .int .i64 cf, .int .i64 ef, .bool false] 34)) = W at *
  have HJ := hide (And.intro hbt hbs)
  have HB0 := hide hbel
  clear hbt hbs hbel
  refine wp_region_mix (fun y => Below W.heap.size W y) [5] (by kernel_rfl) (fun hcl => ?_)
  have hS : Below W.heap.size W W.drew := (Below.refl _ _).drew
  refine wpAnyT_take (i := 0) hcl rfl (by kernel_rfl) (v := ?_) (fun _ _ _ h => h) hS (Or.inl ⟨rfl, fun w' hS => ?_⟩) (fun hcl => ?_)
  rotate_left
  · skip
    have ct := (HJ.out.1.below hS HJ.out.1.lt).cell
    go_simp
    with_reducible rfl
  simp only [List.getElem_toArray, List.getElem_cons_zero, List.getElem_cons_succ, Act.put, List.setIfInBounds_toArray, List.set_cons_zero, List.set_cons_succ]
  refine wpAnyT_take (i := 1) hcl rfl (by kernel_rfl) (v := ?_) (fun _ _ _ h => h) hS (Or.inl ⟨rfl, fun w' hS => ?_⟩) (fun hcl => ?_)
  rotate_left
  · skip
    have cs := (HJ.out.2.below hS HJ.out.2.lt).cell
    go_simp
    with_reducible rfl
  simp only [List.getElem_toArray, List.getElem_cons_zero, List.getElem_cons_succ, Act.put, List.setIfInBounds_toArray, List.set_cons_zero, List.set_cons_succ]
  refine wpAnyT_take (i := 2) hcl rfl (by kernel_rfl) (v := ?_) (fun _ _ _ h => h) hS (Or.inl ⟨rfl, fun w' hS => ?_⟩) (fun hcl => ?_)
  rotate_left
  · skip
    have cs := (HJ.out.2.below hS HJ.out.2.lt).cell
    go_simp
    with_reducible rfl
  simp only [List.getElem_toArray, List.getElem_cons_zero, List.getElem_cons_succ, Act.put, List.setIfInBounds_toArray, List.set_cons_zero, List.set_cons_succ]
  refine wpAnyT_free (i := 3) hcl rfl (by kernel_rfl) (v := ?_) (fun _ _ _ h => h) hS (Or.inl ⟨rfl, fun w' _ => ?_⟩) (fun hcl => ?_)
  rotate_left
  · go_simp
    with_reducible rfl
  simp only [List.getElem_toArray, List.getElem_cons_zero, List.getElem_cons_succ, Act.put, List.setIfInBounds_toArray, List.set_cons_zero, List.set_cons_succ]
  refine wpAnyT_step (i := 4) hcl rfl (by kernel_rfl) (fun hcl => ?_)
  simp only [List.getElem_toArray, List.getElem_cons_zero, List.getElem_cons_succ, Act.put, List.setIfInBounds_toArray, List.set_cons_zero, List.set_cons_succ]
  have HB := hide hS
  clear hS
  go_wp2_with fail
  refine (HON.out _).mono ?_
  rintro e w1 ⟨v1, rfl, hpl, hb⟩
  have HB1 := hide (And.intro hpl (HB.out.trans (hb.mono HB.out.size)))
  clear hpl hb
  go_wp2_with fail
  refine ⟨HB1.out.2, ?_⟩
  refine wpAnyT_last (i := 5) hcl rfl (by kernel_rfl) (by kernel_rfl) (fun hcl => ?_)
  simp only [List.getElem_toArray, List.getElem_cons_zero, List.getElem_cons_succ, Act.put, List.setIfInBounds_toArray, List.set_cons_zero, List.set_cons_succ]
  have HX := hide (HO.out (2 ^ i) v1 w1 (HIN.out.next (HB0.out.trans (HB1.out.2.mono HB0.out.size))) HB1.out.1 (one_fits hi))
  go_wp2_with fail
  refine HX.out.mono ?_
  rintro e w2 ⟨v2, tw, rfl, hpl, himg, hfit, hb⟩
  have H2 := hide (And.intro hpl (And.intro himg (And.intro hfit (HB0.out.trans ((HB1.out.2.trans (hb.mono HB1.out.2.size)).mono HB0.out.size)))))
  clear hpl himg hfit hb HX
  go_wp2_with fail
  refine wpAnyT_last (i := 6) hcl rfl (by kernel_rfl) (by kernel_rfl) (fun hcl => ?_)
  simp only [List.getElem_toArray, List.getElem_cons_zero, List.getElem_cons_succ, Act.put, List.setIfInBounds_toArray, List.set_cons_zero, List.set_cons_succ]
  go_wp2_with fail
  refine wpAnyT_done (by kernel_rfl) ?_ _
  obtain ⟨g2, rfl, hrow⟩ := H2.out.1
  have HR := hide hrow
  clear hrow
  go_wp2_with fail
  go_loopw [7, 9] (fun lv kv wr => ∃ k : Nat, kv = .int .i64 k ∧ k ≤ x.text.size + 1 ∧ OwnInts w2.heap.size wr lv (((List.range k).filter fun j => tw.testBit j).map fun k : Nat => (k : Int)) ∧ Below w2.heap.size w2 wr) (fun _ kv _ => x.text.size + 1 - (intOf kv).toNat)
  case atStart => exact ⟨0, rfl, by omega, OwnInts.nil _ _, Below.refl _ _⟩
  case round =>
    obtain ⟨k, rfl, hk, hown, hbel⟩ := hrel
    have hrow := HR.out.next hbel
    by_cases hlt : k < x.text.size + 1
    case neg =>
      have g1 : decide ((k : Int) < (x.text.size : Int) + 1) = false := decide_eq_false (by omega)
      obtain rfl : k = x.text.size + 1 := by omega
      have HH := hide (And.intro hown hbel)
      clear hown hbel hrow
      go_wp2_with fail
      go_ret
      exact ⟨_, _, rfl, HH.out.1.from H2.out.2.2.2.size, ⟨tw, H2.out.2.1, H2.out.2.2.1, by rw [places_upto H2.out.2.2.1 hn]⟩, H2.out.2.2.2.trans (HH.out.2.mono H2.out.2.2.2.size)⟩
    have g1 : decide ((k : Int) < (x.text.size : Int) + 1) = true := decide_eq_true (by omega)
    have cv := hrow.cell k (by omega)
    cases hbk : tw.testBit k with
    | false =>
      rw [hbk] at cv
      have HH := hide (And.intro hown (And.intro hrow (And.intro hbel hbk)))
      clear hown hrow hbel hbk
      go_wp2_with fail
      go_roundw
      case rel =>
        refine ⟨k + 1, by go_num, by omega, ?_, HH.out.2.2.1⟩
        rw [List.range_succ, List.filter_append]
        simp only [List.filter_cons, HH.out.2.2.2, List.filter_nil, Bool.false_eq_true, if_false, List.append_nil]
        exact HH.out.1
      case measure => simp [intOf]; omega
    | true =>
      rw [hbk] at cv
      have hlen : (((List.range k).filter fun j => tw.testBit j).map fun k : Nat => (k : Int)).length < 1000000 := by
        have := List.length_filter_le (fun j => tw.testBit j) (List.range k)
        simp only [List.length_map, List.length_range] at this ⊢
        omega
      have hrw : ∀ g, Value.ownBlock u7 = some g → w2.heap.size ≤ g := fun g hg => (World.ownsRow.lt hown g hg).1
      have hsz := hbel.size
      have hoA := hide (hown.below ((Below.refl wr.heap.size wr).alloc (Nat.le_refl _) (.cells #[.int .i64 (k : Int)] 3)) (Nat.le_refl _))
      have HH := hide (And.intro hown (And.intro hrow (And.intro hbel (And.intro hbk hrw))))
      clear hown hrow hbel hbk hrw
      go_wp2_with (at_builtin; refine wpList_append_int rfl _ _ rfl w2.heap.size _ _ rfl hoA.out (k : Int) wr.heap.size 1 rfl (Blk.new _ _ _) hlen (by simp; omega) ?_)
      intro v' w5 hown5 hg5
      have HB5 := hide (And.intro hown5 hg5)
      clear hown5 hg5 hoA
      go_wp2_with fail
      go_roundw
      case rel =>
        have hb5 := below_grown (HH.out.2.2.1.alloc (by omega) (.cells #[.int .i64 (k : Int)] 3)) HB5.out.2 (Nat.le_refl _) HH.out.2.2.2.2
        refine ⟨k + 1, by go_num, by omega, ?_, hb5⟩
        · rw [List.range_succ, List.filter_append]
          simp only [List.filter_cons, HH.out.2.2.2.1, List.filter_nil, if_true, List.map_append, List.map_cons, List.map_nil]
          exact HB5.out.1
      case measure => simp [intOf]; omega

set_option maxRecDepth 100000 in
set_option maxHeartbeats 2000000 in
theorem refTakes_any (j : Nat) (hj : j ≤ x.text.size) : Calls Tryd.prog 36 #[.agg (t.hd.cells (.slice A t.subs.length c)).toArray, .agg #[.string x.text, .int .i64 cf, .int .i64 ef, .bool false], .int .i64 i, .int .i64 j] w fun e w' => ∃ r : Bool, e = .returned (.bool r) ∧ (r = true ↔ t.R x i j) ∧ Below w.heap.size w w' := by
  have HO := hide (fun f v y hi hv hf => over_any 1000000 hr hn t hN (by omega) hwf hform A c f v y hi hv hf)
  have HON := hide (fun y => only_any x.text cf ef hr.small i hi y)
  have HIN := hide hin
  generalize t.R x = R at *
  clear hform hwf hin hN
  obtain ⟨⟨kind, s0, s1, s2, s3, num, mn, mx, bare⟩, l⟩ := t
  simp only [T.hd, T.subs, Hd.cells] at HO ⊢
  have hbt := (Blk.new w 52 #[.int .i64 kind, .int .u64 s0, .int .u64 s1, .int .u64 s2, .int .u64 s3, .slice A l.length c, .int .i64 num, .int .i64 mn, .int .i64 mx, .bool bare]).alloc (.cells #[.string x.text, .int .i64 cf, .int .i64 ef, .bool false] 34)
  have hbs := Blk.new (w.alloc (.cells #[.int .i64 kind, .int .u64 s0, .int .u64 s1, .int .u64 s2, .int .u64 s3, .slice A l.length c, .int .i64 num, .int .i64 mn, .int .i64 mx, .bool bare] 52)) 34 #[.string x.text, .int .i64 cf, .int .i64 ef, .bool false]
  have hbel := ((Below.refl w.heap.size w).alloc (Nat.le_refl _) (.cells #[.int .i64 kind, .int .u64 s0, .int .u64 s1, .int .u64 s2, .int .u64 s3, .slice A l.length c, .int .i64 num, .int .i64 mn, .int .i64 mx, .bool bare] 52)).alloc (by simp) (.cells #[.string x.text, .int .i64 cf, .int .i64 ef, .bool false] 34)
  simp only [World.size_alloc] at hbs
  go_enter Tryd.func36, Tryd.ntmps36
  go_upto_region 1 with fail
  generalize ((w.alloc (.cells #[.int .i64 kind, .int .u64 s0, .int .u64 s1, .int .u64 s2, .int .u64 s3, .slice A l.length c, .int .i64 num, .int .i64 mn, .int .i64 mx, .bool bare] 52)).alloc (.cells #[.string x.text, .int .i64 cf, .int .i64 ef, .bool false] 34)) = W at *
  have HJ := hide (And.intro hbt hbs)
  have HB0 := hide hbel
  clear hbt hbs hbel
  refine wp_region_mix (fun y => Below W.heap.size W y) [5] (by kernel_rfl) (fun hcl => ?_)
  have hS : Below W.heap.size W W.drew := (Below.refl _ _).drew
  refine wpAnyT_take (i := 0) hcl rfl (by kernel_rfl) (v := ?_) (fun _ _ _ h => h) hS (Or.inl ⟨rfl, fun w' hS => ?_⟩) (fun hcl => ?_)
  rotate_left
  · skip
    have ct := (HJ.out.1.below hS HJ.out.1.lt).cell
    go_simp
    with_reducible rfl
  simp only [List.getElem_toArray, List.getElem_cons_zero, List.getElem_cons_succ, Act.put, List.setIfInBounds_toArray, List.set_cons_zero, List.set_cons_succ]
  refine wpAnyT_take (i := 1) hcl rfl (by kernel_rfl) (v := ?_) (fun _ _ _ h => h) hS (Or.inl ⟨rfl, fun w' hS => ?_⟩) (fun hcl => ?_)
  rotate_left
  · skip
    have cs := (HJ.out.2.below hS HJ.out.2.lt).cell
    go_simp
    with_reducible rfl
  simp only [List.getElem_toArray, List.getElem_cons_zero, List.getElem_cons_succ, Act.put, List.setIfInBounds_toArray, List.set_cons_zero, List.set_cons_succ]
  refine wpAnyT_take (i := 2) hcl rfl (by kernel_rfl) (v := ?_) (fun _ _ _ h => h) hS (Or.inl ⟨rfl, fun w' hS => ?_⟩) (fun hcl => ?_)
  rotate_left
  · skip
    have cs := (HJ.out.2.below hS HJ.out.2.lt).cell
    go_simp
    with_reducible rfl
  simp only [List.getElem_toArray, List.getElem_cons_zero, List.getElem_cons_succ, Act.put, List.setIfInBounds_toArray, List.set_cons_zero, List.set_cons_succ]
  refine wpAnyT_free (i := 3) hcl rfl (by kernel_rfl) (v := ?_) (fun _ _ _ h => h) hS (Or.inl ⟨rfl, fun w' _ => ?_⟩) (fun hcl => ?_)
  rotate_left
  · go_simp
    with_reducible rfl
  simp only [List.getElem_toArray, List.getElem_cons_zero, List.getElem_cons_succ, Act.put, List.setIfInBounds_toArray, List.set_cons_zero, List.set_cons_succ]
  refine wpAnyT_step (i := 4) hcl rfl (by kernel_rfl) (fun hcl => ?_)
  simp only [List.getElem_toArray, List.getElem_cons_zero, List.getElem_cons_succ, Act.put, List.setIfInBounds_toArray, List.set_cons_zero, List.set_cons_succ]
  have HB := hide hS
  clear hS
  go_wp2_with fail
  refine (HON.out _).mono ?_
  rintro e w1 ⟨v1, rfl, hpl, hb⟩
  have HB1 := hide (And.intro hpl (HB.out.trans (hb.mono HB.out.size)))
  clear hpl hb
  go_wp2_with fail
  refine ⟨HB1.out.2, ?_⟩
  refine wpAnyT_last (i := 5) hcl rfl (by kernel_rfl) (by kernel_rfl) (fun hcl => ?_)
  simp only [List.getElem_toArray, List.getElem_cons_zero, List.getElem_cons_succ, Act.put, List.setIfInBounds_toArray, List.set_cons_zero, List.set_cons_succ]
  have HX := hide (HO.out (2 ^ i) v1 w1 (HIN.out.next (HB0.out.trans (HB1.out.2.mono HB0.out.size))) HB1.out.1 (one_fits hi))
  go_wp2_with fail
  refine HX.out.mono ?_
  rintro e w2 ⟨v2, tw, rfl, hpl, himg, hfit, hb⟩
  have H2 := hide (And.intro hpl (And.intro himg (And.intro hfit (HB0.out.trans ((HB1.out.2.trans (hb.mono HB1.out.2.size)).mono HB0.out.size)))))
  clear hpl himg hfit hb HX
  go_wp2_with fail
  refine wpAnyT_last (i := 6) hcl rfl (by kernel_rfl) (by kernel_rfl) (fun hcl => ?_)
  simp only [List.getElem_toArray, List.getElem_cons_zero, List.getElem_cons_succ, Act.put, List.setIfInBounds_toArray, List.set_cons_zero, List.set_cons_succ]
  go_wp2_with fail
  refine wpAnyT_done (by kernel_rfl) ?_ _
  obtain ⟨g2, rfl, hrow⟩ := H2.out.1
  have cv := hrow.cell j hj
  have hjl : j < x.text.size + 1 := by omega
  have HT := hide (one_img H2.out.2.1 j)
  generalize tw.testBit j = rb at *
  clear hrow
  go_wp2_with fail
  go_ret
  exact ⟨rb, rfl, HT.out, H2.out.2.2.2⟩
end

theorem refEnds_of {x : Sc} {cf ef : Int} {s : ByteArray} (hx : x.text = s) (hr : RefSc x cf ef) (hn : x.text.size ≤ 63) (t : T) (A : Option Addr) (c : Nat) (w : World) (hN : t.nodes ≤ 1000000) (hwf : t.wf) (hform : t.form = true) (hin : T.In w (· < w.heap.size) t A) (i : Nat) (hi : i ≤ x.text.size) :
    Calls Tryd.prog 35 #[.agg (t.hd.cells (.slice A t.subs.length c)).toArray, .agg #[.string s, .int .i64 cf, .int .i64 ef, .bool false], .int .i64 i] w fun e w' => ∃ (v : Value) (r : List Int), e = .returned v ∧ OwnInts w.heap.size w' v r ∧ EndsOf (t.R x) x.text.size i r ∧ Below w.heap.size w w' := by
  subst hx
  exact refEnds_any hr hn t A c w hN hwf hform hin i hi

theorem refTakes_of {x : Sc} {cf ef : Int} {s : ByteArray} (hx : x.text = s) (hr : RefSc x cf ef) (hn : x.text.size ≤ 63) (t : T) (A : Option Addr) (c : Nat) (w : World) (hN : t.nodes ≤ 1000000) (hwf : t.wf) (hform : t.form = true) (hin : T.In w (· < w.heap.size) t A) (i : Nat) (hi : i ≤ x.text.size) (j : Nat) (hj : j ≤ x.text.size) :
    Calls Tryd.prog 36 #[.agg (t.hd.cells (.slice A t.subs.length c)).toArray, .agg #[.string s, .int .i64 cf, .int .i64 ef, .bool false], .int .i64 i, .int .i64 j] w fun e w' => ∃ r : Bool, e = .returned (.bool r) ∧ (r = true ↔ t.R x i j) ∧ Below w.heap.size w w' := by
  subst hx
  exact refTakes_any hr hn t A c w hN hwf hform hin i hi j hj

end Go.Proofs.YtgpmiflfgpnhaaaDoor
