/- trawllaw18.lives. -/
import Derived.Test.YtlomjepemnlliaaDoorOf17c
import Derived.Test.YtlomjepemnlliaaDoorWalk18
import Derived.Test.YtlomjepemnlliaaDoorSceneNew
import Derived.Test.YtlomjepemnlliaaDoorMake2
import Derived.Test.YtlomjepemnlliaaDoorInts
import Derived.Test.YtlomjepemnlliaaDoorText
set_option linter.unusedSimpArgs false
set_option linter.unusedVariables false
namespace Go.Proofs.YtlomjepemnlliaaDoor
open Go.RowKit

theorem frontB_congr {p : Po} {x y : Sc} {a : Nat} {st : Nat → Bool} (ht : x.text = y.text) : ∀ (d : Nat), (∀ i, i < a + d → x.mark i = y.mark i) → frontB p x a st d = frontB p y a st d
  | 0, _ => rfl
  | d + 1, h => by
    rw [frontB, frontB, frontB_congr ht d (fun i hi => h i (by omega)), h (a + d) (by omega)]
    rw [show byteB x (a + d) = byteB y (a + d) from by unfold byteB; rw [ht]]
theorem endList_congr {p : Po} {x y : Sc} {a : Nat} (ht : x.text = y.text) (h : ∀ i, i ≤ x.len → x.mark i = y.mark i) : endList p x a = endList p y a := by
  have hl : x.len = y.len := by unfold Sc.len; rw [ht]
  unfold endList endsUpto
  rw [← hl]
  congr 1
  refine List.filter_congr fun d hd => ?_
  have hd2 := List.mem_range.1 hd
  unfold endAt
  rw [h (a + d) (by omega), frontB_congr ht d (fun i hi => h i (by omega))]

/-- The tree of lives: a or ab. -/
def leafA : T := .mk ⟨2, 0, 8589934592, 0, 0, 0, 0, 0, false⟩ []
def leafB : T := .mk ⟨2, 0, 17179869184, 0, 0, 0, 0, 0, false⟩ []
def rowAB : T := .mk ⟨5, 0, 0, 0, 0, 0, 0, 0, false⟩ [leafA, leafB]
def tree18 : T := .mk ⟨6, 0, 0, 0, 0, 0, 0, 0, false⟩ [leafA, rowAB]
def scene18 : Sc := ⟨⟨#[120, 97, 97, 98]⟩, (List.range 5).map (markOf ⟨#[120, 97, 97, 98]⟩ true true false 4)⟩
def po18 : Po := ⟨[(0, 8589934592, 0, 0), (0, 8589934592, 0, 0), (0, 17179869184, 0, 0)], 0, [(0, 15), (1, 15)], [(0, 15), (2, 15)], [[], [(2, 15)], []]⟩
theorem textA : T.seq (T.texts ⟨#[97]⟩) = leafA := by kernel_rfl
theorem textAB : T.seq (T.texts ⟨#[97, 98]⟩) = rowAB := by kernel_rfl
theorem tree18_posits : tree18.posits = po18 := by kernel_rfl
theorem ends18_val : endList po18 scene18 2 = [3, 4] := by kernel_rfl
theorem tree18_three : tree18.three := by simp [tree18, rowAB, leafA, leafB, T.three, TL.three]
theorem tree18_leaves : tree18.leaves = 3 := by kernel_rfl
theorem edOk18 {n : Int} {l : List Ed} (h : ∀ i : Fin l.length, 0 ≤ l[i].1 ∧ l[i].1 < n ∧ 1 ≤ l[i].2 ∧ l[i].2 ≤ 15 ∧ ∀ j : Fin l.length, j.val + 1 = i.val → l[j].1 < l[i].1) : EdOk n l := fun i e hi he => by
  have hi2 : i < l.length := hi
  obtain ⟨h1, h2, h3, h4, h5⟩ := h ⟨i, hi2⟩
  have he2 : l[i] = e := by rw [List.getElem?_eq_getElem hi2] at he; exact Option.some.inj he
  simp only [Fin.getElem_fin] at h1 h2 h3 h4 h5
  rw [he2] at h1 h2 h3 h4
  refine ⟨h1, h2, h3, h4, fun d h0 hd => ?_⟩
  have hj : i - 1 < l.length := by omega
  have h6 := h5 ⟨i - 1, hj⟩ (by simp; omega)
  simp only [Fin.getElem_fin] at h6
  rw [List.getElem?_eq_getElem hj] at hd
  rw [← he2, ← Option.some.inj hd]
  exact h6
theorem po18_ok : po18.Ok := by
  refine ⟨rfl, by decide, by decide, edOk18 (by decide), edOk18 (by decide), fun i l h => ?_⟩
  have hi : i < 3 := (List.getElem?_eq_some_iff.1 h).1
  match i, hi with
  | 0, _ => obtain rfl : [] = l := Option.some.inj h; exact edOk18 (by decide)
  | 1, _ => obtain rfl : [(2, 15)] = l := Option.some.inj h; exact edOk18 (by decide)
  | 2, _ => obtain rfl : [] = l := Option.some.inj h; exact edOk18 (by decide)
theorem po18_wf : po18.wf := by
  refine ⟨by simp [po18, IsI64], ?_, ?_, ?_, ?_, by decide, by decide, by decide, by decide⟩ <;> simp [po18, Se.wf, Ed.wf, IsI64, IsU64]
theorem of18_tree (A : Option Addr) (c : Nat) (w : World) (hin : T.In w (· < w.heap.size) tree18 A) : Calls Tryd.prog 32 #[.agg (tree18.hd.cells (.slice A tree18.subs.length c)).toArray] w fun e w' => ∃ pa : PoA, e = .returned (.agg (po18.cells pa).toArray) ∧ PoIn (· < w'.heap.size) w' po18 pa ∧ Below w.heap.size w w' := by
  refine (of17All_any tree18 A c w (by simp [tree18, leafA, rowAB, leafB, T.nodes, TL.nodes]) tree18_three (by rw [tree18_leaves]; decide) hin).mono ?_
  rintro e w' ⟨pa, h⟩
  rw [tree18_posits] at h
  exact ⟨pa, h⟩

set_option maxRecDepth 100000 in
set_option maxHeartbeats 2000000 in
theorem lives18_true (w : World) (a : Nat → Addr) (hE : Sent [12, 14] w a) : Calls Tryd.prog 11 #[] w fun e w' => e = .returned (.bool true) ∧ Below w.heap.size w w' := by
  have hen := fun y => run_eql_nil_nil_at (P := Tryd.prog) (w := y) 37 (by kernel_rfl)
  have HE := hide (fun x (hx : Below w.heap.size w x) => hE.below hx)
  clear hE
  go_enter Tryd.func11, Tryd.ntmps11
  go_wp2_with fail
  refine (Calls_fresh (t' := leafA) (text_any ⟨#[97]⟩ w (by decide)) textA).mono ?_
  rintro e w1 ⟨B1, c1, bs, rfl, hown, _, hfr, hb⟩
  have H1 := hide (And.intro hb (hown.in_ (ok := (· < w1.heap.size)) fun b hb => (hfr b hb).2))
  clear hown hfr hb
  go_wp2_with fail
  refine (Calls_fresh (t' := rowAB) (text_any ⟨#[97, 98]⟩ w1 (by decide)) textAB).mono ?_
  rintro e w2 ⟨B2, c2, bs, rfl, hown, _, hfr, hb⟩
  have H2 := hide (And.intro (H1.out.1.trans (hb.mono H1.out.1.size)) (And.intro (T.In.next H1.out.2 hb) (hown.in_ (ok := (· < w2.heap.size)) fun b hb => (hfr b hb).2)))
  clear hown hfr hb H1
  have HA := hide (alt2_any leafA rowAB B1 B2 c1 c2 w2 (by simp [leafA, rowAB, leafB, T.nodes, TL.nodes]) H2.out.2.1 H2.out.2.2)
  simp only [leafA, rowAB, T.hd, T.subs, Hd.cells, List.length_cons, List.length_nil, Nat.zero_add, List.cons_append, List.nil_append] at HA ⊢
  go_wp2_with fail
  refine HA.out.mono ?_
  rintro e w3 ⟨B3, c3, bs, rfl, hown, _, hfr, hb⟩
  have HO := hide (of18_tree B3 c3 w3 (hown.in_ (ok := (· < w3.heap.size)) fun b hb => (hfr b hb).2))
  have H3 := hide (H2.out.1.trans (hb.mono H2.out.1.size))
  clear hown hfr hb H2 HA
  simp only [tree18, leafA, rowAB, T.hd, T.subs, Hd.cells, List.length_cons, List.length_nil, Nat.zero_add] at HO ⊢
  go_wp2_with fail
  refine HO.out.mono ?_
  rintro e w4 ⟨pa, rfl, hpo, hb⟩
  have H4 := hide (And.intro (H3.out.trans (hb.mono H3.out.size)) hpo)
  clear hpo hb HO H3
  simp only [Po.cells, po18, List.length_cons, List.length_nil, Nat.zero_add]
  go_wp2_with (first | refine wpList_store_row rfl _ _ _ rfl w4.heap.size 0 _ _ _ rfl rfl (Blk.new w4 26 _) Tryd.sizePo17 (by simp) (by simp [Value.oneCell']) ?_ | fail)
  intro w5 hrow2 hg2 hz3
  have hrow := hrow2.out
  rw [splice_full (by rfl)] at hrow
  have hb5 : Below w4.heap.size w4 w5 := below_grew ((Below.refl _ _).alloc (Nat.le_refl _) _) hg2 (Nat.le_refl _) (fun g hg => by injection hg with hg; omega)
  have hl5 : w4.heap.size < w5.heap.size := by omega
  have H5 := hide (And.intro (H4.out.1.trans (hb5.mono H4.out.1.size)) (And.intro (H4.out.2.next hb5) (show Blk w5 w4.heap.size 26 #[.slice pa.s 3 pa.cs, .int .i64 0, .slice pa.f 2 pa.cf, .slice pa.l 2 pa.cl, .slice pa.w 3 pa.cw] from hrow)))
  clear hrow hrow2 hg2 hz3 hb5 H4
  go_upto_region 2 with fail
  refine wp_region_mix (fun z => Below w5.heap.size w5 z) [] (by kernel_rfl) (fun hcl => ?_)
  have hS : Below w5.heap.size w5 w5.drew := (Below.refl _ _).drew
  refine wpAnyT_take (i := 0) hcl rfl (by kernel_rfl) (v := ?_) (fun _ _ _ h => h) hS (Or.inl ⟨rfl, fun w' hS => ?_⟩) (fun hcl => ?_)
  rotate_left
  · skip
    have cp := (H5.out.2.2.nxt hS).cell
    go_simp
    with_reducible rfl
  simp only [List.getElem_toArray, List.getElem_cons_zero, List.getElem_cons_succ, Act.put, List.setIfInBounds_toArray, List.set_cons_zero, List.set_cons_succ]
  refine wpAnyT_step (i := 1) hcl rfl (by kernel_rfl) (fun hcl => ?_)
  simp only [List.getElem_toArray, List.getElem_cons_zero, List.getElem_cons_succ, Act.put, List.setIfInBounds_toArray, List.set_cons_zero, List.set_cons_succ]
  have HS := hide hS
  clear hS
  go_wp2_with fail
  refine (new_any ⟨#[120, 97, 97, 98]⟩ 0 0 w5.drew (by decide)).mono ?_
  rintro e w6 ⟨b, m, x, rfl, hscn, hxt, hmk, _, _, hb⟩
  have hb6 := HS.out.trans (hb.mono HS.out.size)
  have hx4 : x.len = 4 := by unfold Sc.len; rw [hxt]; rfl
  have HEn := hide (walkEnds_any po18 pa x b m 2 a w6 po18_wf (H5.out.2.1.next hb6) hscn (HE.out _ (H5.out.1.trans (hb6.mono H5.out.1.size))) ⟨by omega, by omega⟩ (fun _ => by decide) (by omega))
  have hval : endList po18 x 2 = [3, 4] := by
    rw [endList_congr (y := scene18) (by rw [hxt]; rfl) (fun i hi => ?_), ends18_val]
    rw [hmk i (by show i ≤ 4; omega)]
    rw [hx4] at hi
    match i, hi with
    | 0, _ => rfl
    | 1, _ => rfl
    | 2, _ => rfl
    | 3, _ => rfl
    | 4, _ => rfl
  have H6 := hide (And.intro hb6 (And.intro hx4 hval))
  clear hscn hxt hmk hb hb6 hx4 hval HS
  simp only [Po.cells, po18, List.length_cons, List.length_nil, Nat.zero_add] at HEn
  go_wp2_with fail
  refine ⟨H6.out.1, ?_⟩
  refine wpAnyT_step (i := 2) hcl rfl (by kernel_rfl) (fun hcl => ?_)
  simp only [List.getElem_toArray, List.getElem_cons_zero, List.getElem_cons_succ, Act.put, List.setIfInBounds_toArray, List.set_cons_zero, List.set_cons_succ]
  go_wp2_with fail
  refine HEn.out.mono ?_
  rintro e w7 ⟨g, v, r, rfl, hask, hown, hr, _, hb⟩
  have hg : g = none := by
    rcases hask with ⟨_, h⟩ | ⟨_, _, h⟩ | ⟨h, _⟩
    · exact absurd po18_ok h
    · rw [H6.out.2.1] at h; omega
    · exact h
  subst hg
  have hr2 : r = [3, 4] := (hr rfl).trans H6.out.2.2
  subst hr2
  have H7 := hide (And.intro (H6.out.1.trans (hb.mono H6.out.1.size)) hown)
  clear hask hown hr hb HEn
  obtain ⟨A, cc, hv, _, _⟩ := H7.out.2.form
  subst hv
  simp only [walkErr]
  go_wp2_with fail
  refine ⟨H7.out.1, ?_⟩
  have hS := H7.out.1
  refine wpAnyT_free (i := 3) hcl rfl (by kernel_rfl) (v := ?_) (fun _ _ _ h => h) hS (Or.inl ⟨rfl, fun w' _ => ?_⟩) (fun hcl => ?_)
  rotate_left
  · go_simp
    with_reducible rfl
  simp only [List.getElem_toArray, List.getElem_cons_zero, List.getElem_cons_succ, Act.put, List.setIfInBounds_toArray, List.set_cons_zero, List.set_cons_succ]
  refine wpAnyT_free (i := 4) hcl rfl (by kernel_rfl) (v := ?_) (fun _ _ _ h => h) hS (Or.inl ⟨rfl, fun w' _ => ?_⟩) (fun hcl => ?_)
  rotate_left
  · go_simp
    with_reducible rfl
  simp only [List.getElem_toArray, List.getElem_cons_zero, List.getElem_cons_succ, Act.put, List.setIfInBounds_toArray, List.set_cons_zero, List.set_cons_succ]
  refine wpAnyT_free (i := 5) hcl rfl (by kernel_rfl) (v := ?_) (fun _ _ _ h => h) hS (Or.inl ⟨rfl, fun w' _ => ?_⟩) (fun hcl => ?_)
  rotate_left
  · go_simp
    with_reducible rfl
  simp only [List.getElem_toArray, List.getElem_cons_zero, List.getElem_cons_succ, Act.put, List.setIfInBounds_toArray, List.set_cons_zero, List.set_cons_succ]
  refine wpAnyT_free (i := 6) hcl rfl (by kernel_rfl) (v := ?_) (fun _ _ _ h => h) hS (Or.inl ⟨rfl, fun w' _ => ?_⟩) (fun hcl => ?_)
  rotate_left
  · go_simp
    with_reducible rfl
  simp only [List.getElem_toArray, List.getElem_cons_zero, List.getElem_cons_succ, Act.put, List.setIfInBounds_toArray, List.set_cons_zero, List.set_cons_succ]
  refine wpAnyT_free (i := 7) hcl rfl (by kernel_rfl) (v := ?_) (fun _ _ _ h => h) hS (Or.inl ⟨rfl, fun w' _ => ?_⟩) (fun hcl => ?_)
  rotate_left
  · go_simp
    with_reducible rfl
  simp only [List.getElem_toArray, List.getElem_cons_zero, List.getElem_cons_succ, Act.put, List.setIfInBounds_toArray, List.set_cons_zero, List.set_cons_succ]
  clear hS
  refine wpAnyT_done (by kernel_rfl) ?_ _
  go_wp2_with fail
  have hb8 := (Below.refl w7.heap.size w7).alloc (Nat.le_refl _) (.cells #[.int .i64 3, .int .i64 4] 3)
  have HSm := hide (sameInts_any _ (H7.out.2.below hb8 (Nat.le_refl _)) (OwnInts.made (l := [3, 4]) (Blk.new w7 3 _) (by decide)))
  refine HSm.out.mono ?_
  rintro e w8 ⟨rfl, hb⟩
  have HB8 := hide (((H5.out.1.trans (H7.out.1.mono H5.out.1.size)).trans (hb8.mono (by have := H5.out.1.size; have := H7.out.1.size; omega))).trans (hb.mono (by have := H5.out.1.size; have := H7.out.1.size; have := hb8.size; omega)))
  clear hb hb8 HSm
  go_wp2_with fail
  go_ret
  exact ⟨rfl, HB8.out⟩
end Go.Proofs.YtlomjepemnlliaaDoor
