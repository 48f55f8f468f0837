/- Lives: trawllaw16.lives.
Long11: trawllaw11.long, lives. -/
import Derived.Test.YtkghlebfmggidaaDoorText
import Derived.Test.YtkghlebfmggidaaDoorRefAll
import Derived.Test.YtkghlebfmggidaaDoorSames
import Derived.Test.YtkghlebfmggidaaDoorAlgLaw
import Derived.Test.YtkghlebfmggidaaDoorSceneNew
import Derived.Test.YtkghlebfmggidaaDoorMake2
set_option linter.unusedSimpArgs false
set_option linter.unusedVariables false
set_option linter.unnecessarySimpa false

/-! ## Lives -/
namespace Go.Proofs.YtkghlebfmggidaaDoor
open Go.RowKit


theorem T.texts_a : ∃ a b c d, T.texts ⟨#[97]⟩ = [.mk ⟨2, a, b, c, d, 0, 0, 0, false⟩ []] := ⟨_, _, _, _, rfl⟩

set_option maxRecDepth 100000 in
set_option maxHeartbeats 2000000 in
theorem lives_true (w : World) : Calls Tryd.prog 18 #[] w fun e w' => e = .returned (.bool true) ∧ Below w.heap.size w w' := by
  obtain ⟨a0, a1, a2, a3, ha⟩ := T.texts_a
  have H := hide ha
  clear ha
  go_enter Tryd.func18, Tryd.ntmps18
  go_wp2_with fail
  refine (Calls_fresh (t' := .mk ⟨2, a0, a1, a2, a3, 0, 0, 0, false⟩ []) (text_any ⟨#[97]⟩ w (by decide)) (by rw [H.out]; rfl)).mono ?_
  rintro e w1 ⟨B, c, bs, rfl, hown, hnd, hfr, hbel⟩
  have hz := hbel.size
  simp only [T.hd, T.subs, Hd.cells, List.length_nil]
  go_wp2_with fail
  refine (seq_any [.mk ⟨3, 0, 0, 0, 0, 0, 0, 0, false⟩ [], .mk ⟨2, a0, a1, a2, a3, 0, 0, 0, false⟩ []] (some ⟨w1.heap.size, 0, none⟩) 2 _ (by simp [TL.nodes, T.nodes])
    ⟨w1.heap.size, 0, none, 0, rfl, by simp, fun j u hu => ?_, trivial, _, _, B, c, rfl, by simp, fun j u hu => ?_, trivial, trivial⟩).mono ?_
  · rw [Addr.add_lit, Nat.zero_add, (Blk.new _ _ _).cell]
    match j with
    | 0 | 1 | 2 | 3 | 4 | 5 | 6 | 7 | 8 | 9 => exact hu
    | j + 10 => simp [Hd.cells, T.hd, T.subs] at hu
  · simp only [Addr.add_lit]
    rw [(Blk.new _ _ _).cell]
    match j with
    | 0 | 1 | 2 | 3 | 4 | 5 | 6 | 7 | 8 | 9 => exact hu
    | j + 10 => simp [Hd.cells, T.hd, T.subs] at hu
  rintro e w2 ⟨B2, c2, bs2, rfl, hown2, hnd2, hfr2, hbel2⟩
  have hz2 := hbel2.size
  simp only [World.size_alloc] at hz2
  have hb2 : Below w.heap.size w w2 := hbel.trans (((Below.refl _ _).alloc hz _).trans (hbel2.mono (by simp; omega)))
  have hin2 := hown2.in_ (ok := (· < w2.heap.size)) fun b hb => (hfr2 b hb).2
  have HT := hide (Calls_fresh (t' := .mk ⟨5, 0, 0, 0, 0, 0, 0, 0, false⟩ [.mk ⟨2, a0, a1, a2, a3, 0, 0, 0, false⟩ [], .mk ⟨4, 0, 0, 0, 0, 0, 0, 0, false⟩ []]) (Turn_any _ B2 c2 w2 (by simp [T.seq, TL.nodes, T.nodes]) hin2) (by simp [T.seq, T.turn, TL.turn_eq, Hd.turn]))
  clear hown2 hown hfr2 hfr hbel hbel2 hin2
  go_wp2_with fail
  refine HT.out.mono ?_
  rintro e w3 ⟨B3, c3, bs3, rfl, hown3, hnd3, hfr3, hbel3⟩
  have hz3 := hbel3.size
  have hb3 : Below w.heap.size w w3 := hb2.trans (hbel3.mono (by omega))
  simp only [T.hd, T.subs, Hd.cells, List.length_cons, List.length_nil, Nat.zero_add, Nat.reduceAdd]
  have hin3 := T.In_iff.1 (hown3.in_ (ok := (· < w3.heap.size)) fun b hb => (hfr3 b hb).2)
  simp only [T.subs] at hin3
  obtain ⟨b, o, B4, c4, rfl, hbk, hcs, hsub⟩ := TL.In.at_ (i := 0) hin3 rfl
  obtain ⟨b', o', B5, c5, e5, hbk', hcs', hsub'⟩ := TL.In.at_ (i := 1) hin3 rfl
  injection e5 with e5
  injection e5 with e5 e6
  subst e5; subst e6
  have S1 : Same (· < w3.heap.size) w3 (w3.alloc (.cells #[.int .i64 5, .int .u64 0, .int .u64 0, .int .u64 0, .int .u64 0, .slice (some ⟨b, o, none⟩) 2 c3, .int .i64 0, .int .i64 0, .int .i64 0, .bool false] 27)) := (Same.refl _ _).alloc (fun b hb => hb) _
  obtain ⟨n0, n1, n2, n3, n4, n5, n6, n7, n8, n9⟩ := (hcs.same S1 hbk).node
  obtain ⟨m0, m1, m2, m3, m4, m5, m6, m7, m8, m9⟩ := (hcs'.same S1 hbk').node
  have hbl := hide hb3
  simp only [Nat.zero_mul, Nat.add_zero, Nat.one_mul] at n0 m0
  clear hown3 hfr3 hbel3 hin3 hcs hcs' hsub hsub' S1 hb3 hb2 HT
  go_wp2_with fail
  go_ret
  exact ⟨rfl, hbl.out.alloc (by omega) _⟩
end Go.Proofs.YtkghlebfmggidaaDoor

/-! ## Long11 -/
namespace Go.Proofs.YtkghlebfmggidaaDoor
open Go.RowKit

/-- What long answers: if it says no, the tree is not great. -/
def Longed (n : Nat) (w : World) (e : Ending) (w' : World) : Prop := ∃ lg : Bool, e = .returned (.bool lg) ∧ (lg = false → n ≤ 2500) ∧ Below w.heap.size w w'

set_option maxRecDepth 100000 in
set_option maxHeartbeats 2000000 in
theorem long_any (t : T) (A : Option Addr) (c : Nat) (s : ByteArray) (cf ef : Int) (w : World) (hwf : t.wf) (hin : T.In w (· < w.heap.size) t A) :
    Calls Tryd.prog 8 #[.agg (t.hd.cells (.slice A t.subs.length c)).toArray, .agg #[.string s, .int .i64 cf, .int .i64 ef]] w (Longed t.nodes w) := by
  have HF := hide (fun x hi => few_any t A c 2500 x hwf (by decide) (by decide) hi)
  have hnod := hide (fun h => few_nodes (t := t) (m := 2500) (by decide) h)
  have HSz := hide (fun x h hi => refSizeAll_any t A c x h hi)
  have HI := hide (fun x (hx : Below w.heap.size w x) => (hin.same (same_of_below hx) (fun y hy => Nat.lt_of_lt_of_le hy hx.size) : T.In x (· < x.heap.size) t A))
  clear hin hwf
  generalize t.fullSize = sz at *
  generalize hnd : t.nodes = nd at HSz hnod ⊢
  clear hnd
  have HF' := HF.out
  obtain ⟨h, l⟩ := t
  obtain ⟨kind, s0, s1, s2, s3, num, mn, mx, bare⟩ := h
  clear HF
  simp only [T.hd, T.subs, Hd.cells] at HF' HSz ⊢
  have HF := hide HF'
  clear HF'
  go_enter Tryd.func8, Tryd.ntmps8
  go_wp2_with fail
  have hbel := ((Below.refl w.heap.size w).alloc (Nat.le_refl _) (.cells #[.int .i64 kind, .int .u64 s0, .int .u64 s1, .int .u64 s2, .int .u64 s3, .slice A l.length c, .int .i64 num, .int .i64 mn, .int .i64 mx, .bool bare] 27)).alloc (by simp) (.cells #[.string s, .int .i64 cf, .int .i64 ef] 29)
  have hbt := (Blk.new w 27 #[.int .i64 kind, .int .u64 s0, .int .u64 s1, .int .u64 s2, .int .u64 s3, .slice A l.length c, .int .i64 num, .int .i64 mn, .int .i64 mx, .bool bare]).alloc (.cells #[.string s, .int .i64 cf, .int .i64 ef] 29)
  have hbv := Blk.new (w.alloc (.cells #[.int .i64 kind, .int .u64 s0, .int .u64 s1, .int .u64 s2, .int .u64 s3, .slice A l.length c, .int .i64 num, .int .i64 mn, .int .i64 mx, .bool bare] 27)) 29 #[.string s, .int .i64 cf, .int .i64 ef]
  rw [World.size_alloc] at hbv
  refine (HF.out _ (HI.out _ hbel)).mono ?_
  rintro e w1 ⟨rfl, hb⟩
  have hbel1 := hbel.trans (hb.mono hbel.size)
  have c1 := (hbt.below hb hbt.lt).cell
  have v1 := (hbv.below hb hbv.lt).cell
  have HB := hide hbel1
  clear hb hbel hbt hbv hbel1
  generalize hfew : decide (0 ≤ (T.mk ⟨kind, s0, s1, s2, s3, num, mn, mx, bare⟩ l).left 2500) = few at *
  cases few with
  | false =>
    clear hfew hnod
    go_wp2_with fail
    go_ret
    exact ⟨true, rfl, (fun h => by cases h), HB.out⟩
  | true =>
    have hN := hnod.out (by first | rfl | trivial)
    clear hnod hfew
    by_cases h6 : (s.size : Int) ≤ 63
    · have e6 : decide ((s.size : Int) ≤ 63) = true := decide_eq_true h6
      go_wp2_with fail
      refine (HSz.out _ (by omega) (HI.out _ HB.out)).mono ?_
      rintro e w2 ⟨rfl, hb⟩
      have HB2 := hide (HB.out.trans (hb.mono HB.out.size))
      clear hb
      by_cases h4 : 600 < sz
      · have e4 : decide (600 < sz) = true := decide_eq_true h4
        go_wp2_with fail
        go_ret
        exact ⟨true, rfl, (fun h => by cases h), HB2.out⟩
      · have e4 : decide (600 < sz) = false := decide_eq_false h4
        go_wp2_with fail
        go_ret
        exact ⟨false, rfl, fun _ => by omega, HB2.out⟩
    · have e6 : decide ((s.size : Int) ≤ 63) = false := decide_eq_false h6
      go_wp2_with fail
      go_ret
      exact ⟨false, rfl, fun _ => by omega, HB.out⟩


/-! ### lives -/
def starA : T := .mk ⟨8, 0, 0, 0, 0, 0, 0, -1, false⟩ [T.byte 97]
theorem starA_check : starA.check = none := by decide +kernel
theorem byteA (x : Sc) (hx : x.text = ⟨#[97, 97, 98]⟩) (i j : Nat) : (T.byte 97).R x i j ↔ j = i + 1 ∧ i < 2 := by
  have hl : x.len = 3 := by unfold Sc.len; rw [hx]; rfl
  rw [T.R_eq]
  show (if (2 : Int) = 1 then _ else if (2 : Int) = 2 then _ else _) ↔ _
  rw [if_neg (by decide), if_pos rfl, hl, hx]
  by_cases h : i < 3
  · have : i = 0 ∨ i = 1 ∨ i = 2 := by omega
    have h97 : (T.byte 97).hd.has 97 = true := by decide +kernel
    have h98 : (T.byte 97).hd.has 98 = false := by decide +kernel
    rcases this with e | e | e <;> subst e
    · constructor
      · rintro ⟨a, _⟩; exact ⟨a, by omega⟩
      · rintro ⟨a, _⟩; exact ⟨a, by omega, h97⟩
    · constructor
      · rintro ⟨a, _⟩; exact ⟨a, by omega⟩
      · rintro ⟨a, _⟩; exact ⟨a, by omega, h97⟩
    · constructor
      · rintro ⟨_, _, a⟩
        have a' : (T.byte 97).hd.has 98 = true := a
        rw [h98] at a'
        cases a'
      · rintro ⟨_, a⟩; omega
  · constructor
    · rintro ⟨_, a, _⟩; omega
    · rintro ⟨_, a⟩; omega
theorem starA_R (x : Sc) (hx : x.text = ⟨#[97, 97, 98]⟩) (j : Nat) : starA.R x 0 j ↔ j ≤ 2 := by
  have hb := byteA x hx
  rw [T.R_eq]
  show (if (8 : Int) = 1 then _ else if (8 : Int) = 2 then _ else if (8 : Int) = 3 then _ else if (8 : Int) = 4 then _ else if (8 : Int) = 5 then _ else if (8 : Int) = 6 then _ else if (8 : Int) = 7 then _ else ∃ k : Nat, (0 : Int) ≤ k ∧ ((-1 : Int) = -1 ∨ (k : Int) ≤ -1) ∧ Iter ((T.byte 97).R x) k 0 j) ↔ _
  rw [if_neg (by decide), if_neg (by decide), if_neg (by decide), if_neg (by decide), if_neg (by decide), if_neg (by decide), if_neg (by decide)]
  have hi : ∀ k j, Iter ((T.byte 97).R x) k 0 j → j = k ∧ k ≤ 2 := by
    intro k
    induction k with
    | zero => intro j h; have e : 0 = j := h; omega
    | succ k ih =>
      rintro j ⟨m, h1, h2⟩
      obtain ⟨e1, e2⟩ := ih m h1
      obtain ⟨e3, e4⟩ := (hb m j).1 h2
      omega
  constructor
  · rintro ⟨k, _, _, h⟩
    have := hi k j h
    omega
  · intro h
    have : j = 0 ∨ j = 1 ∨ j = 2 := by omega
    refine ⟨j, by omega, .inl rfl, ?_⟩
    rcases this with e | e | e <;> subst e
    · rfl
    · exact ⟨0, rfl, (hb 0 1).2 ⟨rfl, by omega⟩⟩
    · exact ⟨1, ⟨0, rfl, (hb 0 1).2 ⟨rfl, by omega⟩⟩, (hb 1 2).2 ⟨rfl, by omega⟩⟩
theorem byteA_wf : (T.byte 97).wf := ⟨⟨⟨by decide +kernel, by decide +kernel⟩, ⟨by decide +kernel, by decide +kernel⟩, ⟨by decide +kernel, by decide +kernel⟩, ⟨by decide +kernel, by decide +kernel⟩, ⟨by decide +kernel, by decide +kernel⟩, ⟨by decide +kernel, by decide +kernel⟩, ⟨by decide +kernel, by decide +kernel⟩, ⟨by decide +kernel, by decide +kernel⟩⟩, by decide, trivial⟩
theorem starA_wf : starA.wf := ⟨⟨⟨by decide +kernel, by decide +kernel⟩, ⟨by decide +kernel, by decide +kernel⟩, ⟨by decide +kernel, by decide +kernel⟩, ⟨by decide +kernel, by decide +kernel⟩, ⟨by decide +kernel, by decide +kernel⟩, ⟨by decide +kernel, by decide +kernel⟩, ⟨by decide +kernel, by decide +kernel⟩, ⟨by decide +kernel, by decide +kernel⟩⟩, by decide, byteA_wf, trivial⟩
theorem places7 : places 7 = [0, 1, 2] := by decide +kernel
theorem starA_ends {x : Sc} {n : Nat} {r : List Int} (hx : x.text = ⟨#[97, 97, 98]⟩) (h : EndsOf (starA.R x) n 0 r) : r = [0, 1, 2] := by
  obtain ⟨tw, h1, _, rfl⟩ := h
  have : tw = 7 := Nat.eq_of_testBit_eq fun j => by
    rw [Bool.eq_iff_iff, one_img h1, starA_R x hx]
    by_cases hj : j ≤ 2
    · have : j = 0 ∨ j = 1 ∨ j = 2 := by omega
      rcases this with e | e | e <;> subst e <;> simp [hj] <;> decide
    · have : (7 : Nat).testBit j = false := Nat.testBit_lt_two_pow (Nat.lt_of_lt_of_le (show 7 < 2 ^ 3 by decide) (Nat.pow_le_pow_right (by decide) (by omega)))
      simp [hj, this]
  rw [this, places7]
  rfl

set_option maxRecDepth 100000 in
set_option maxHeartbeats 2000000 in
theorem lives11_true (w : World) (a : Nat → Addr) (hE : Env w a) : Calls Tryd.prog 7 #[] w fun e w' => e = .returned (.bool true) ∧ Below w.heap.size w w' := by
  have hen := fun y => run_eql_nil_nil_at (P := Tryd.prog) (w := y) 33 (by kernel_rfl)
  have HE := hide (fun x (hx : Below w.heap.size w x) => hE.below hx)
  clear hE
  go_enter Tryd.func7, Tryd.ntmps7
  go_wp2_with fail
  refine (new_any ⟨#[97, 97, 98]⟩ 0 0 w (by decide)).mono ?_
  rintro e w1 ⟨b, m, x, rfl, hscn, hxt, _, _, _, hb⟩
  have HB := hide (And.intro hb (And.intro hscn hxt))
  clear hb hscn hxt
  obtain ⟨a0, a1, a2, a3, hA⟩ : ∃ a0 a1 a2 a3, T.byte 97 = .mk ⟨2, a0, a1, a2, a3, 0, 0, 0, false⟩ [] := ⟨_, _, _, _, rfl⟩
  have HAA := hide hA
  clear hA
  go_wp2_with fail
  refine (Calls_fresh (t' := .mk ⟨2, a0, a1, a2, a3, 0, 0, 0, false⟩ []) (text_any ⟨#[97]⟩ w1 (by decide)) HAA.out).mono ?_
  rintro e w2 ⟨B, c, bs, rfl, hown, _, hfr, hb⟩
  have HB2 := hide (And.intro (HB.out.1.trans (hb.mono HB.out.1.size)) (And.intro (HB.out.2.1.below hb) (hown.in_ (ok := (· < w2.heap.size)) fun b hb => (hfr b hb).2)))
  clear hown hfr hb
  have HRp := hide (rep_any (.mk ⟨2, a0, a1, a2, a3, 0, 0, 0, false⟩ []) B c 0 (-1) w2 (by simp [T.nodes, TL.nodes]) HB2.out.2.2)
  simp only [T.hd, T.subs, Hd.cells, List.length_nil] at HRp ⊢
  go_wp2_with fail
  refine HRp.out.mono ?_
  rintro e w3 ⟨B3, c3, bs3, rfl, hown, _, hfr, hb⟩
  have hbel3 := HB2.out.1.trans (hb.mono HB2.out.1.size)
  have HEn := hide (ends_any (x := x) (b := b) (m := m) (.mk ⟨8, 0, 0, 0, 0, 0, 0, -1, false⟩ [.mk ⟨2, a0, a1, a2, a3, 0, 0, 0, false⟩ []]) B3 c3 0 w3 a (by simp [T.nodes, TL.nodes]) (by rw [← HAA.out]; exact starA_wf) (hown.in_ (ok := (· < w3.heap.size)) fun b hb => (hfr b hb).2) (HB2.out.2.1.below hb) (HE.out _ hbel3) ⟨by omega, by omega⟩)
  have HB3 := hide hbel3
  clear hown hfr hb hbel3 HRp
  simp only [T.hd, T.subs, Hd.cells, List.length_cons, List.length_nil, Nat.zero_add] at HEn ⊢
  go_wp2_with fail
  refine HEn.out.mono ?_
  rintro e w4 ⟨v, r, rfl, hown, hr, _, hb⟩
  have hxl : x.len = 3 := by unfold Sc.len; rw [HB.out.2.2]; rfl
  rw [← HAA.out] at hr ⊢
  have hask : asked (.mk ⟨8, 0, 0, 0, 0, 0, 0, -1, false⟩ [T.byte 97]) x [0] = none := asked_none.2 ⟨starA_check, by omega, fun p hp => by
    have : p = 0 := by simpa using hp
    omega⟩
  rw [hask]
  have hr0 := starA_ends HB.out.2.2 (hr hask)
  have HW := hide (And.intro (HB3.out.trans (hb.mono HB3.out.size)) (And.intro hown hr0))
  clear hr hask hxl hown hb hr0 HEn
  obtain ⟨A, cc, hv, _, _⟩ := HW.out.2.1.form
  subst hv
  simp only [errOf]
  go_wp2_with fail
  have hb4 := (Below.refl w4.heap.size w4).alloc (Nat.le_refl _) (.cells #[.int .i64 0, .int .i64 1, .int .i64 2] 3)
  have HSm := hide (sameInts_any _ (HW.out.2.1.below hb4 (Nat.le_refl _)) (OwnInts.made (l := [0, 1, 2]) (Blk.new w4 3 _) (by decide)))
  refine HSm.out.mono ?_
  rintro e w5 ⟨rfl, hb⟩
  have HB5 := hide ((HW.out.1.trans (hb4.mono HW.out.1.size)).trans (hb.mono (by have := HW.out.1.size; have := hb4.size; omega)))
  clear hb hb4 HSm
  rw [HW.out.2.2]
  go_wp2_with fail
  go_ret
  exact ⟨rfl, HB5.out⟩
end Go.Proofs.YtkghlebfmggidaaDoor
