/- trawllaw16.TurnMirrors: it returns true, and what was there stays. -/
import Derived.Test.YtkghlebfmggidaaDoorReach
import Derived.Test.YtkghlebfmggidaaDoorTurned
import Derived.Test.YtkghlebfmggidaaDoorRefAll
import Derived.Test.YtkghlebfmggidaaDoorSames
import Derived.Test.YtkghlebfmggidaaDoorTurns
import Derived.Test.YtkghlebfmggidaaDoorLong11
set_option linter.unusedSimpArgs false
set_option linter.unusedVariables false
namespace Go.Proofs.YtkghlebfmggidaaDoor
open Go.RowKit

theorem TL.wf_append : ∀ a b : List T, TL.wf (a ++ b) ↔ TL.wf a ∧ TL.wf b
  | [], b => by simp [TL.wf]
  | t :: a, b => by simp only [List.cons_append, TL.wf, TL.wf_append a b, and_assoc]
theorem TL.wf_reverse : ∀ a : List T, TL.wf a.reverse ↔ TL.wf a
  | [] => Iff.rfl
  | t :: a => by
    simp only [List.reverse_cons, TL.wf_append, TL.wf_reverse a, TL.wf, and_true]
    exact and_comm
theorem Hd.turn_wf (h : Hd) (hw : h.wf) : h.turn.wf := by
  obtain ⟨r0, r1, r2, r3, r4, r5, r6, r7⟩ := h.turn_rest
  obtain ⟨w0, w1⟩ := hw
  refine ⟨?_, by rw [r0, r1, r2, r3, r4, r5, r6]; exact w1⟩
  unfold Hd.turn
  split
  · exact ⟨show (-9223372036854775808 : Int) ≤ 4 by decide, show (4 : Int) ≤ 9223372036854775807 by decide⟩
  · split
    · exact ⟨show (-9223372036854775808 : Int) ≤ 3 by decide, show (3 : Int) ≤ 9223372036854775807 by decide⟩
    · exact w0
mutual
theorem T.turn_wf : ∀ t : T, t.wf → t.turn.wf
  | .mk h l, hw => by
    simp only [T.wf] at hw
    obtain ⟨h1, h2, h3⟩ := hw
    have h4 := TL.turn_wf l h3
    simp only [T.turn, T.wf]
    refine ⟨h.turn_wf h1, ?_, ?_⟩
    · split
      · rw [List.length_reverse, TL.turn_length]; exact h2
      · rw [TL.turn_length]; exact h2
    · split
      · exact (TL.wf_reverse _).2 h4
      · exact h4
theorem TL.turn_wf : ∀ l : List T, TL.wf l → TL.wf (TL.turn l)
  | [], _ => trivial
  | t :: l, hw => ⟨T.turn_wf t hw.1, TL.turn_wf l hw.2⟩
end

/-- What the second call answers is what the first did. -/
theorem mirror_law {t : T} {x y : Sc} {p q : Int} {r r2 : Bool} (hm : Mirror x y) (h1 : asked t x [p, q] = none) (hr : r = true ↔ t.R x p.toNat q.toNat)
    (hr2 : asked t.turn y [(x.len : Int) - q, (x.len : Int) - p] = none → (r2 = true ↔ t.turn.R y ((x.len : Int) - q).toNat ((x.len : Int) - p).toNat)) :
    asked t.turn y [(x.len : Int) - q, (x.len : Int) - p] = none ∧ r = r2 := by
  obtain ⟨k1, k2, k3⟩ := asked_none.1 h1
  have hp := k3 p (by simp)
  have hq := k3 q (by simp)
  have h2 : asked t.turn y [(x.len : Int) - q, (x.len : Int) - p] = none := by
    refine asked_none.2 ⟨by rw [T.turn_check]; exact k1, by rw [hm.len]; exact k2, fun z hz => ?_⟩
    rw [hm.len]
    simp only [List.mem_cons, List.not_mem_nil, or_false] at hz
    rcases hz with e | e <;> subst e <;> omega
  refine ⟨h2, ?_⟩
  obtain ⟨i, rfl⟩ : ∃ i : Nat, p = i := ⟨p.toNat, by omega⟩
  obtain ⟨j, rfl⟩ : ∃ j : Nat, q = j := ⟨q.toNat, by omega⟩
  have h3 := T.R_mirror hm t i j (by omega) (by omega)
  have e1 : ((x.len : Int) - (j : Int)).toNat = x.len - j := by omega
  have e2 : ((x.len : Int) - (i : Int)).toNat = x.len - i := by omega
  have h4 := hr2 h2
  rw [e1, e2, h3] at h4
  rw [Bool.eq_iff_iff, h4]
  exact hr

set_option maxRecDepth 100000 in
set_option maxHeartbeats 4000000 in
theorem mirrors_true (t : T) (A : Option Addr) (c : Nat) (s : ByteArray) (cf ef p q : Int) (w : World) (a : Nat → Addr) (hwf : t.wf) (hin : T.In w (· < w.heap.size) t A) (hs : s.size ≤ 140737488355328) (hcf : IsI64 cf) (hef : IsI64 ef)
    (hp : IsI64 p) (hq : IsI64 q) (hE : Env w a) :
    Calls Tryd.prog 6 #[.agg (t.hd.cells (.slice A t.subs.length c)).toArray, .agg [.string s, .int .i64 cf, .int .i64 ef].toArray, .int .i64 p, .int .i64 q] w fun e w' => e = .returned (.bool true) ∧ Below w.heap.size w w' := by
  have hne := fun y ad => run_neq_iface_nil (P := Tryd.prog) (w := y) 33 (by kernel_rfl) 83 (.pointer (some ad))
  have hnn := fun y => run_neq_nil_nil_at (P := Tryd.prog) (w := y) 33 (by kernel_rfl)
  have hen := fun y => run_eql_nil_nil_at (P := Tryd.prog) (w := y) 33 (by kernel_rfl)
  have HF := hide (fun x hi => few_any t A c 2000 x hwf (by decide) (by decide) hi)
  have hnod := hide (fun h => few_nodes (t := t) (m := 2000) (by decide) h)
  have HSz := hide (fun x h hi => refSizeAll_any t A c x h hi)
  have HT := hide (fun x h => Turn_any t A c x h)
  have HTk := hide (fun (x : Sc) (b m : Nat) y h hi hs he => takes_any (x := x) (b := b) (m := m) t A c p q y a h hwf hi hs he hp hq)
  have HTk2 := hide (fun (x : Sc) (b m : Nat) B d p' q' y h hi hs he h1 h2 => takes_any (x := x) (b := b) (m := m) t.turn B d p' q' y a h (T.turn_wf t hwf) hi hs he h1 h2)
  have hnn2 := T.turn_nodes t
  have HL := hide (fun x y r r2 h1 h2 h3 h4 => mirror_law (t := t) (x := x) (y := y) (p := p) (q := q) (r := r) (r2 := r2) h1 h2 h3 h4)
  have HAN := hide (fun (x : Sc) h => (asked_none (t := t) (x := x) (ps := [p, q])).1 h)
  have HI := hide (fun x (hx : Below w.heap.size w x) => (hin.same (same_of_below hx) (fun y hy => Nat.lt_of_lt_of_le hy hx.size) : T.In x (· < x.heap.size) t A))
  have HE := hide (fun x (hx : Below w.heap.size w x) => hE.below hx)
  clear hin hwf hE
  generalize t.fullSize = sz at *
  obtain ⟨tt, htt⟩ : ∃ tt, tt = t.turn := ⟨_, rfl⟩
  rw [← htt] at HT HTk2 HL hnn2
  clear htt
  have hnt : t.nodes = t.nodes := rfl
  generalize hnd : t.nodes = nd at HSz HT HTk hnn2 hnod
  have HND := hide hnd
  clear hnt hnd
  have hnn3 : tt.nodes ≤ nd := by omega
  clear hnn2
  have HF' := HF.out
  have HT' := HT.out
  unfold Took at HTk HTk2
  generalize has1 : asked t = as1 at *
  generalize has2 : asked tt = as2 at *
  generalize hR1 : t.R = R1 at *
  generalize hR2 : tt.R = R2 at *
  clear has1 has2 hR1 hR2
  obtain ⟨h, l⟩ := t
  obtain ⟨kind, s0, s1, s2, s3, num, mn, mx, bare⟩ := h
  clear HF HT
  simp only [T.hd, T.subs, Hd.cells] at HF' HT' HSz HTk ⊢
  have HF := hide HF'
  have HT := hide HT'
  clear HF' HT'
  obtain ⟨p1, p2⟩ := hp
  obtain ⟨q1, q2⟩ := hq
  go_enter Tryd.func6, Tryd.ntmps6
  go_wp2_with fail
  have hbel := ((Below.refl w.heap.size w).alloc (Nat.le_refl _) (.cells #[.int .i64 kind, .int .u64 s0, .int .u64 s1, .int .u64 s2, .int .u64 s3, .slice A l.length c, .int .i64 num, .int .i64 mn, .int .i64 mx, .bool bare] 27)).alloc (by simp) (.cells #[.string s, .int .i64 cf, .int .i64 ef] 29)
  have hbt := (Blk.new w 27 #[.int .i64 kind, .int .u64 s0, .int .u64 s1, .int .u64 s2, .int .u64 s3, .slice A l.length c, .int .i64 num, .int .i64 mn, .int .i64 mx, .bool bare]).alloc (.cells #[.string s, .int .i64 cf, .int .i64 ef] 29)
  have hbv := Blk.new (w.alloc (.cells #[.int .i64 kind, .int .u64 s0, .int .u64 s1, .int .u64 s2, .int .u64 s3, .slice A l.length c, .int .i64 num, .int .i64 mn, .int .i64 mx, .bool bare] 27)) 29 #[.string s, .int .i64 cf, .int .i64 ef]
  rw [World.size_alloc] at hbv
  refine (lives_true _).mono ?_
  rintro e w1 ⟨rfl, hb⟩
  have hbel1 := hbel.trans (hb.mono hbel.size)
  have hbt1 := hbt.below hb hbt.lt
  have hbv1 := hbv.below hb hbv.lt
  clear hb hbel hbt hbv
  have c1 := hbt1.cell
  have v1 := hbv1.cell
  go_wp2_with fail
  refine (HF.out w1 (HI.out _ hbel1)).mono ?_
  rintro e w2 ⟨rfl, hb⟩
  have hbel2 := hbel1.trans (hb.mono hbel1.size)
  have hbt2 := hbt1.below hb hbt1.lt
  have hbv2 := hbv1.below hb hbv1.lt
  have c2 := hbt2.cell
  have v2 := hbv2.cell
  clear hb hbel1 hbt1 hbv1 c1 v1
  generalize hfew : decide (0 ≤ (T.mk ⟨kind, s0, s1, s2, s3, num, mn, mx, bare⟩ l).left 2000) = few at *
  cases few with
  | false =>
    have HB := hide hbel2
    clear hfew hnod hbel2
    go_wp2_with fail
    go_ret
    exact ⟨rfl, HB.out⟩
  | true =>
    have hN := hnod.out (by first | rfl | trivial)
    clear hnod hfew
    go_wp2_with fail
    refine (HSz.out w2 (by omega) (HI.out _ hbel2)).mono ?_
    rintro e w3 ⟨rfl, hb⟩
    have hbel3 := hbel2.trans (hb.mono hbel2.size)
    have hbt3 := hbt2.below hb hbt2.lt
    have hbv3 := hbv2.below hb hbv2.lt
    have c3 := hbt3.cell
    have v3 := hbv3.cell
    clear hb hbel2 hbt2 hbv2 c2 v2
    by_cases h4 : 400 < sz
    · have e4 : decide (400 < sz) = true := decide_eq_true h4
      have HB := hide hbel3
      clear hbel3
      go_wp2_with fail
      go_ret
      exact ⟨rfl, HB.out⟩
    have e4 : decide (400 < sz) = false := decide_eq_false h4
    by_cases h6 : 63 < s.size
    · have e6 : decide ((63 : Int) < (s.size : Int)) = true := decide_eq_true (by omega)
      have HB := hide hbel3
      clear hbel3
      go_wp2_with fail
      go_ret
      exact ⟨rfl, HB.out⟩
    have e6 : decide ((63 : Int) < (s.size : Int)) = false := decide_eq_false (by omega)
    have HB3 := hide (And.intro hbel3 (And.intro hbt3 hbv3))
    clear hbel3 hbt3 hbv3
    go_wp2_with fail
    refine (new_any s cf ef w3 hs).mono ?_
    rintro e w4 ⟨b, m, x, rfl, hscn, hxt, _, _, _, hb⟩
    have hxl : x.len = s.size := by rw [← hxt]; rfl
    have hbel4 := HB3.out.1.trans (hb.mono HB3.out.1.size)
    have hbt4 := HB3.out.2.1.below hb HB3.out.2.1.lt
    have hbv4 := HB3.out.2.2.below hb HB3.out.2.2.lt
    have c4 := hbt4.cell
    have v4 := hbv4.cell
    have HX := hide hxl
    have HB4 := hide (And.intro hbel4 (And.intro hbt4 hscn))
    have HTk4 := hide (HTk.out x b m w4 (by omega) (HI.out _ hbel4) hscn (HE.out _ hbel4))
    clear hb hbel4 hbt4 hbv4 HB3 hxt hxl c3 v3 hscn HTk
    go_wp2_with fail
    refine HTk4.out.mono ?_
    rintro e w5 ⟨r, rfl, hr1, _, hb⟩
    have hbel5 := HB4.out.1.trans (hb.mono HB4.out.1.size)
    have hbt5 := HB4.out.2.1.below hb HB4.out.2.1.lt
    have hscn5 := HB4.out.2.2.below hb
    have HAx := hide (HAN.out x)
    have HLx := hide (HL.out x)
    clear hb HTk4 HAN HL c4 v4
    generalize as1 x [p, q] = o at *
    cases o with
    | some g =>
      have HB := hide hbel5
      clear hbel5 hr1 hscn5
      simp only [errOf, errV]
      go_wp2_with fail
      go_ret
      exact ⟨rfl, HB.out⟩
    | none =>
      obtain ⟨_, _, hps⟩ := HAx.out (by first | rfl | trivial)
      have hp3 := hps p (by simp)
      have hq3 := hps q (by simp)
      rw [HX.out] at hp3 hq3
      obtain ⟨hp3, hp4⟩ := hp3
      obtain ⟨hq3, hq4⟩ := hq3
      have hr := hr1 (by first | rfl | trivial)
      have HR := hide hr
      have c5 := hbt5.cell
      have HB5 := hide (And.intro hbel5 hscn5)
      have HT5 := hide (HT.out w5 (by have := HND.out; omega) (HI.out _ hbel5))
      clear hr hr1 hps hbel5 hscn5 hbt5
      simp only [errOf]
      go_wp2_with fail
      refine HT5.out.mono ?_
      rintro e w6 ⟨B, d, bs, rfl, hown, _, hfr, hb⟩
      have hin6 := hown.in_ (ok := (· < w6.heap.size)) fun b hb => (hfr b hb).2
      have hbel6 := HB5.out.1.trans (hb.mono HB5.out.1.size)
      have hscn6 := HB5.out.2.below hb
      have HB6 := hide (And.intro hbel6 hin6)
      have HU := hide (turned_any hscn6 (by rw [HX.out]; exact hs))
      clear hown hfr hb hbel6 hscn6 hin6 HB5 HT5
      go_wp2_with fail
      refine HU.out.mono ?_
      rintro e w7 ⟨b2, m2, y, rfl, hscn7, hmir, hb⟩
      have hbel7 := HB6.out.1.trans (hb.mono HB6.out.1.size)
      have hin7 := HB6.out.2.same (ok' := (· < w7.heap.size)) (same_of_below hb) (fun z hz => Nat.lt_of_lt_of_le hz hb.size)
      have HK := hide (HTk2.out y b2 m2 B d ((s.size : Int) - q) ((s.size : Int) - p) w7 (by omega) hin7 hscn7 (HE.out _ hbel7) ⟨by omega, by omega⟩ ⟨by omega, by omega⟩)
      have HM := hide (And.intro hmir hbel7)
      clear hb hbel7 hin7 hscn7 hmir HB6 HU HTk2
      go_wp2_with fail
      refine HK.out.mono ?_
      rintro e w8 ⟨r2, rfl, hr2, _, hb⟩
      have hl := HLx.out y r r2 HM.out.1 (by first | rfl | trivial) HR.out
      rw [HX.out] at hl
      obtain ⟨hn, hrr⟩ := hl hr2
      rw [hn]
      have HB := hide (HM.out.2.trans (hb.mono HM.out.2.size))
      clear hb hr2 hl hn
      subst hrr
      simp only [errOf]
      go_wp2_with fail
      go_ret
      refine ⟨?_, HB.out⟩
      cases r <;> rfl
end Go.Proofs.YtkghlebfmggidaaDoor
