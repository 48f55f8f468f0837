/- trawllaw16.TurnBack: it returns true, and what was there stays. (Printed by gen_back.py.) -/
import Derived.Test.YtbiamlinoldnlaaDoorTurnLaw
import Derived.Test.YtbiamlinoldnlaaDoorTurn3
import Derived.Test.YtbiamlinoldnlaaDoorLives
import Derived.Test.YtbiamlinoldnlaaDoorFew
import Derived.Test.YtbiamlinoldnlaaDoorTreeSame
import Derived.Test.YtbiamlinoldnlaaDoorPick
set_option linter.unusedSimpArgs false
set_option linter.unusedVariables false
set_option linter.unnecessarySimpa false
namespace Go.Proofs.YtbiamlinoldnlaaDoor
open Go.RowKit

theorem T.same_refl' : ∀ t : T, t.same t = true := by
  have hh : ∀ h : Hd, h.same h = true := fun h => Hd.same_iff.2 rfl
  intro t
  refine T.rec (motive_1 := fun t => t.same t = true) (motive_2 := fun l => TL.same l l = true) ?_ ?_ ?_ t
  · intro h l ih; simp [T.same, hh, ih]
  · rfl
  · intro t l h1 h2; simp [TL.same, h1, h2]

def numOf : Option Nat → Int
  | none => 0
  | some g => g + 1

set_option maxRecDepth 100000 in
theorem num_any (w : World) (a : Nat → Addr) (o : Option Nat) (hg : ∀ g, o = some g → g < 21) (he : Errs w a) :
    Calls Tryd.prog 18 #[errOf a o] w fun e w' => e = .returned (.int .i64 (numOf o)) ∧ Below w.heap.size w w' := by
  cases o with
  | none => exact (num_nil w).mono fun e w' h => ⟨h.1, h.2 ▸ Below.refl _ _⟩
  | some g => exact num_err w a g (hg g rfl) he

set_option maxRecDepth 100000 in
set_option maxHeartbeats 1000000 in
theorem back_true (t : T) (A : Option Addr) (c : Nat) (w : World) (a : Nat → Addr) (hwf : t.wf) (hin : T.In w (· < w.heap.size) t A) (he : Errs w a) :
    Calls Tryd.prog 3 #[.agg (t.hd.cells (.slice A t.subs.length c)).toArray] w fun e w' => e = .returned (.bool true) ∧ Below w.heap.size w w' := by
  have HF := hide (fun x hi => few_any t A c 3000 x hwf (by decide) (by decide) hi)
  have hnod := hide (fun h => few_nodes (t := t) (m := 3000) (by decide) h)
  have HT := hide (fun x h => Turn_any t A c x h)
  have HCk := hide (fun x h hi he => check_any t A c x a h hi he)
  have HSz := hide (fun x h hi => Size_any t A c x h hi)
  have HDp := hide (fun x h hi => depth_any 1000000 t A c x h (by decide) hi)
  have HGr := hide (fun x h hi => groups_any 1000000 t A c x h (by decide) hi)
  have HTT := hide (fun B d x h => Turn_any t.turn B d x h)
  have HCk2 := hide (fun B d x h hi he => check_any t.turn B d x a h hi he)
  have HSz2 := hide (fun B d x h hi => Size_any t.turn B d x h hi)
  have HDp2 := hide (fun B d x h hi => depth_any 1000000 t.turn B d x h (by decide) hi)
  have HGr2 := hide (fun B d x h hi => groups_any 1000000 t.turn B d x h (by decide) hi)
  have HSm := hide (fun B d x h => tsame_any 1000000 t t B A d c x h (by decide))
  rw [T.turn_turn] at HTT
  rw [T.same_refl'] at HSm
  have hckl := hide (T.check_lt t)
  rw [T.turn_check] at HCk2
  rw [T.turn_fullSize] at HSz2
  rw [T.turn_depth] at HDp2
  rw [T.turn_groups] at HGr2
  have hnn := T.turn_nodes t
  have HIN : ∀ x, Below w.heap.size w x → T.In x (· < x.heap.size) t A := fun x hx => hin.same (same_of_below hx) (fun y hy => Nat.lt_of_lt_of_le hy hx.size)
  have HI := hide HIN
  have HE := hide (fun x (hx : Below w.heap.size w x) => he.below hx)
  clear HIN hin hwf he
  generalize t.check = ck at *
  generalize t.fullSize = sz at *
  generalize t.depth = dp at *
  generalize t.groups = gr at *
  obtain ⟨tt, htt⟩ : ∃ tt, tt = t.turn := ⟨_, rfl⟩
  rw [← htt] at HT HTT HCk2 HSz2 HDp2 HGr2 hnn
  clear htt
  have HT' := HT.out
  obtain ⟨h, l⟩ := t
  obtain ⟨kind, s0, s1, s2, s3, num, mn, mx, bare⟩ := h
  clear HT
  simp only [T.hd, T.subs, Hd.cells] at HT' HSm
  have HT := hide HT'
  clear HT'
  simp only [T.hd, T.subs, Hd.cells] at HF HCk HSz HDp HGr ⊢
  go_enter Tryd.func3, Tryd.ntmps3
  go_wp2_with fail
  refine (lives_true _).mono ?_
  rintro e w1 ⟨rfl, hbel⟩
  have z1 := hbel.size
  rw [World.size_alloc] at z1
  have hb0 := (Blk.new w 27 _).below hbel (by simp)
  have hbel0 : Below w.heap.size w w1 := ((Below.refl _ _).alloc (Nat.le_refl _) _).trans (hbel.mono (by simp))
  have c0 := hb0.cell
  clear hbel
  go_wp2_with fail
  refine (HF.out w1 (HI.out _ hbel0)).mono ?_
  rintro e w2 ⟨rfl, hbel⟩
  have z2 := hbel.size
  have hb2 := hb0.below hbel (by omega)
  have hbel2 : Below w.heap.size w w2 := hbel0.trans (hbel.mono (by omega))
  have c2 := hb2.cell
  clear hbel c0 hb0 hbel0 HF
  generalize hfew : decide (0 ≤ (T.mk ⟨kind, s0, s1, s2, s3, num, mn, mx, bare⟩ l).left 3000) = few at *
  cases few with
  | false =>
    clear hfew hnod
    have hb := hide hbel2
    clear hbel2
    go_wp2_with fail
    go_ret
    exact ⟨rfl, hb.out⟩
  | true =>
    have hN := hnod.out (by first | rfl | trivial)
    clear hnod hfew
    go_wp2_with fail
    refine (HT.out w2 (by omega) (HI.out _ hbel2)).mono ?_
    rintro e w3 ⟨B, d, bs, rfl, hown, hnd, hfr, hbel⟩
    have z3 := hbel.size
    have hb3 := hb2.below hbel (by omega)
    have hbel3 : Below w.heap.size w w3 := hbel2.trans (hbel.mono (by omega))
    have hin3 := hown.in_ (ok := (· < w3.heap.size)) fun b hb => (hfr b hb).2
    clear hbel c2 hb2 hbel2 hown hfr hnd HT
    have H3 := hide (And.intro hb3 (And.intro hbel3 hin3))
    clear hb3 hbel3 hin3
    obtain ⟨⟨kk, q0, q1, q2, q3, nn, mi, ma, ba⟩, ll⟩ := tt
    simp only [T.hd, T.subs, Hd.cells] at HCk2 HSz2 HDp2 HGr2 HTT ⊢
    generalize htm : T.mk ⟨kk, q0, q1, q2, q3, nn, mi, ma, ba⟩ ll = tt at *
    clear htm
    go_upto_region 6 with fail
    have hbel4 : Below w3.heap.size w3 (w3.alloc (.cells #[.int .i64 kk, .int .u64 q0, .int .u64 q1, .int .u64 q2, .int .u64 q3, .slice B ll.length d, .int .i64 nn, .int .i64 mi, .int .i64 ma, .bool ba] 27)) := (Below.refl _ _).alloc (Nat.le_refl _) _
    have hbx := Blk.new w3 27 #[.int .i64 kk, .int .u64 q0, .int .u64 q1, .int .u64 q2, .int .u64 q3, .slice B ll.length d, .int .i64 nn, .int .i64 mi, .int .i64 ma, .bool ba]
    have z4 : w3.heap.size < (w3.alloc (.cells #[.int .i64 kk, .int .u64 q0, .int .u64 q1, .int .u64 q2, .int .u64 q3, .slice B ll.length d, .int .i64 nn, .int .i64 mi, .int .i64 ma, .bool ba] 27)).heap.size := by simp
    generalize w3.alloc (.cells #[.int .i64 kk, .int .u64 q0, .int .u64 q1, .int .u64 q2, .int .u64 q3, .slice B ll.length d, .int .i64 nn, .int .i64 mi, .int .i64 ma, .bool ba] 27) = w4 at *
    obtain ⟨hb3, hbel3, hin3⟩ := H3.out
    have hbt := hb3.below hbel4 (by omega)
    have hbw : Below w.heap.size w w4 := hbel3.trans (hbel4.mono (by omega))
    have HX := hide (fun x (hx : Below w4.heap.size w4 x) => (hin3.same (ok' := (· < x.heap.size)) ((same_of_below hbel4).trans ((same_of_below hx).mono fun b hb => by omega)) (fun y hy => by have := hx.size; omega)))
    have HW := hide (fun x (hx : Below w4.heap.size w4 x) => hbw.trans (hx.mono (by have := hbw.size; omega)))
    have zt : w.heap.size < w4.heap.size := by omega
    have ztx : w3.heap.size < w4.heap.size := z4
    clear H3 hb3 hbel3 hin3 hbel4 z4 hbw
    generalize w3.heap.size = gx at *
    refine wp_region_mix (fun x => Below w4.heap.size w4 x) [34] (by kernel_rfl) (fun hcl => ?_)
    have hS : Below w4.heap.size w4 w4.drew := (Below.refl _ _).drew
    refine wpAnyT_get (i := 0) hcl rfl (by kernel_rfl) (v := ?_) (fun _ _ _ h => h) hS (Or.inl ⟨rfl, fun w' hS => ?_⟩) (fun hcl => ?_)
    rotate_left
    · skip
      have cx := (hbx.below hS ztx).cell
      go_simp
      with_reducible rfl
    simp only [List.getElem_toArray, List.getElem_cons_zero, List.getElem_cons_succ, Act.put, List.setIfInBounds_toArray, List.set_cons_zero, List.set_cons_succ]
    refine wpAnyT_get (i := 2) hcl rfl (by kernel_rfl) (v := ?_) (fun _ _ _ h => h) hS (Or.inl ⟨rfl, fun w' hS => ?_⟩) (fun hcl => ?_)
    rotate_left
    · skip
      have ct := (hbt.below hS zt).cell
      go_simp
      with_reducible rfl
    simp only [List.getElem_toArray, List.getElem_cons_zero, List.getElem_cons_succ, Act.put, List.setIfInBounds_toArray, List.set_cons_zero, List.set_cons_succ]
    obtain ⟨x0, hx0⟩ : ∃ x, x = w4.drew := ⟨_, rfl⟩
    rw [← hx0] at hS ⊢
    clear hx0
    refine wpAnyT_step (i := 1) hcl rfl (by kernel_rfl) (fun hcl => ?_)
    simp only [List.getElem_toArray, List.getElem_cons_zero, List.getElem_cons_succ, Act.put, List.setIfInBounds_toArray, List.set_cons_zero, List.set_cons_succ]
    go_wp2_with fail
    refine (HTT.out B d _ (by omega) (HX.out _ hS)).mono ?_
    rintro e x1 ⟨B2, d2, bs2, rfl, hown2, hnd2, hfr2, hb⟩
    have hS' : Below w4.heap.size w4 x1 := hS.trans (hb.mono hS.size)
    have hin2 := hide (hown2.in_ (ok := (· < x1.heap.size)) fun b hb => (hfr2 b hb).2)
    clear hb hS hown2 hnd2 hfr2
    have hS := hS'
    simp only [T.hd, T.subs, Hd.cells]
    clear hS'
    go_wp2_with fail
    refine ⟨hS, ?_⟩
    refine wpAnyT_step (i := 3) hcl rfl (by kernel_rfl) (fun hcl => ?_)
    simp only [List.getElem_toArray, List.getElem_cons_zero, List.getElem_cons_succ, Act.put, List.setIfInBounds_toArray, List.set_cons_zero, List.set_cons_succ]
    go_wp2_with fail
    refine (HSm.out B2 d2 _ (by omega) hin2.out (HI.out _ (HW.out _ hS))).mono ?_
    rintro e x2 ⟨rfl, hb⟩
    have hS' : Below w4.heap.size w4 x2 := hS.trans (hb.mono hS.size)
    clear hb hS
    have hS := hS'
    clear hS'
    go_wp2_with fail
    refine ⟨hS, ?_⟩
    refine wpAnyT_step (i := 4) hcl rfl (by kernel_rfl) (fun hcl => ?_)
    simp only [List.getElem_toArray, List.getElem_cons_zero, List.getElem_cons_succ, Act.put, List.setIfInBounds_toArray, List.set_cons_zero, List.set_cons_succ]
    go_wp2_with fail
    refine ⟨hS, ?_⟩
    refine wpAnyT_get (i := 5) hcl rfl (by kernel_rfl) (v := ?_) (fun _ _ _ h => h) hS (Or.inl ⟨rfl, fun w' hS => ?_⟩) (fun hcl => ?_)
    rotate_left
    · skip
      have cx := (hbx.below hS ztx).cell
      go_simp
      with_reducible rfl
    simp only [List.getElem_toArray, List.getElem_cons_zero, List.getElem_cons_succ, Act.put, List.setIfInBounds_toArray, List.set_cons_zero, List.set_cons_succ]
    refine wpAnyT_get (i := 8) hcl rfl (by kernel_rfl) (v := ?_) (fun _ _ _ h => h) hS (Or.inl ⟨rfl, fun w' hS => ?_⟩) (fun hcl => ?_)
    rotate_left
    · skip
      have ct := (hbt.below hS zt).cell
      go_simp
      with_reducible rfl
    simp only [List.getElem_toArray, List.getElem_cons_zero, List.getElem_cons_succ, Act.put, List.setIfInBounds_toArray, List.set_cons_zero, List.set_cons_succ]
    refine wpAnyT_step (i := 6) hcl rfl (by kernel_rfl) (fun hcl => ?_)
    simp only [List.getElem_toArray, List.getElem_cons_zero, List.getElem_cons_succ, Act.put, List.setIfInBounds_toArray, List.set_cons_zero, List.set_cons_succ]
    go_wp2_with fail
    refine (HCk2.out B d _ (by omega) (HX.out _ hS) (HE.out _ (HW.out _ hS))).mono ?_
    rintro e x3 ⟨rfl, hb⟩
    have hS' : Below w4.heap.size w4 x3 := hS.trans (hb.mono hS.size)
    clear hb hS
    have hS := hS'
    clear hS'
    go_wp2_with fail
    refine ⟨hS, ?_⟩
    refine wpAnyT_step (i := 7) hcl rfl (by kernel_rfl) (fun hcl => ?_)
    simp only [List.getElem_toArray, List.getElem_cons_zero, List.getElem_cons_succ, Act.put, List.setIfInBounds_toArray, List.set_cons_zero, List.set_cons_succ]
    go_wp2_with fail
    refine (num_any _ a ck hckl.out (HE.out _ (HW.out _ hS))).mono ?_
    rintro e x4 ⟨rfl, hb⟩
    have hS' : Below w4.heap.size w4 x4 := hS.trans (hb.mono hS.size)
    clear hb hS
    have hS := hS'
    clear hS'
    go_wp2_with fail
    refine ⟨hS, ?_⟩
    refine wpAnyT_step (i := 9) hcl rfl (by kernel_rfl) (fun hcl => ?_)
    simp only [List.getElem_toArray, List.getElem_cons_zero, List.getElem_cons_succ, Act.put, List.setIfInBounds_toArray, List.set_cons_zero, List.set_cons_succ]
    go_wp2_with fail
    refine (HCk.out _ (by omega) (HI.out _ (HW.out _ hS)) (HE.out _ (HW.out _ hS))).mono ?_
    rintro e x5 ⟨rfl, hb⟩
    have hS' : Below w4.heap.size w4 x5 := hS.trans (hb.mono hS.size)
    clear hb hS
    have hS := hS'
    clear hS'
    go_wp2_with fail
    refine ⟨hS, ?_⟩
    refine wpAnyT_step (i := 10) hcl rfl (by kernel_rfl) (fun hcl => ?_)
    simp only [List.getElem_toArray, List.getElem_cons_zero, List.getElem_cons_succ, Act.put, List.setIfInBounds_toArray, List.set_cons_zero, List.set_cons_succ]
    go_wp2_with fail
    refine (num_any _ a ck hckl.out (HE.out _ (HW.out _ hS))).mono ?_
    rintro e x6 ⟨rfl, hb⟩
    have hS' : Below w4.heap.size w4 x6 := hS.trans (hb.mono hS.size)
    clear hb hS
    have hS := hS'
    clear hS'
    go_wp2_with fail
    refine ⟨hS, ?_⟩
    refine wpAnyT_step (i := 11) hcl rfl (by kernel_rfl) (fun hcl => ?_)
    simp only [List.getElem_toArray, List.getElem_cons_zero, List.getElem_cons_succ, Act.put, List.setIfInBounds_toArray, List.set_cons_zero, List.set_cons_succ]
    go_wp2_with fail
    refine ⟨hS, ?_⟩
    refine wpAnyT_step (i := 12) hcl rfl (by kernel_rfl) (fun hcl => ?_)
    simp only [List.getElem_toArray, List.getElem_cons_zero, List.getElem_cons_succ, Act.put, List.setIfInBounds_toArray, List.set_cons_zero, List.set_cons_succ]
    go_wp2_with fail
    refine ⟨hS, ?_⟩
    refine wpAnyT_step (i := 13) hcl rfl (by kernel_rfl) (fun hcl => ?_)
    simp only [List.getElem_toArray, List.getElem_cons_zero, List.getElem_cons_succ, Act.put, List.setIfInBounds_toArray, List.set_cons_zero, List.set_cons_succ]
    go_wp2_with fail
    refine ⟨hS, ?_⟩
    refine wpAnyT_get (i := 14) hcl rfl (by kernel_rfl) (v := ?_) (fun _ _ _ h => h) hS (Or.inl ⟨rfl, fun w' hS => ?_⟩) (fun hcl => ?_)
    rotate_left
    · skip
      have cx := (hbx.below hS ztx).cell
      go_simp
      with_reducible rfl
    simp only [List.getElem_toArray, List.getElem_cons_zero, List.getElem_cons_succ, Act.put, List.setIfInBounds_toArray, List.set_cons_zero, List.set_cons_succ]
    refine wpAnyT_get (i := 16) hcl rfl (by kernel_rfl) (v := ?_) (fun _ _ _ h => h) hS (Or.inl ⟨rfl, fun w' hS => ?_⟩) (fun hcl => ?_)
    rotate_left
    · skip
      have ct := (hbt.below hS zt).cell
      go_simp
      with_reducible rfl
    simp only [List.getElem_toArray, List.getElem_cons_zero, List.getElem_cons_succ, Act.put, List.setIfInBounds_toArray, List.set_cons_zero, List.set_cons_succ]
    refine wpAnyT_step (i := 15) hcl rfl (by kernel_rfl) (fun hcl => ?_)
    simp only [List.getElem_toArray, List.getElem_cons_zero, List.getElem_cons_succ, Act.put, List.setIfInBounds_toArray, List.set_cons_zero, List.set_cons_succ]
    go_wp2_with fail
    refine (HSz2.out B d _ (by omega) (HX.out _ hS)).mono ?_
    rintro e x7 ⟨rfl, hb⟩
    have hS' : Below w4.heap.size w4 x7 := hS.trans (hb.mono hS.size)
    clear hb hS
    have hS := hS'
    clear hS'
    go_wp2_with fail
    refine ⟨hS, ?_⟩
    refine wpAnyT_step (i := 17) hcl rfl (by kernel_rfl) (fun hcl => ?_)
    simp only [List.getElem_toArray, List.getElem_cons_zero, List.getElem_cons_succ, Act.put, List.setIfInBounds_toArray, List.set_cons_zero, List.set_cons_succ]
    go_wp2_with fail
    refine (HSz.out _ (by omega) (HI.out _ (HW.out _ hS))).mono ?_
    rintro e x8 ⟨rfl, hb⟩
    have hS' : Below w4.heap.size w4 x8 := hS.trans (hb.mono hS.size)
    clear hb hS
    have hS := hS'
    clear hS'
    go_wp2_with fail
    refine ⟨hS, ?_⟩
    refine wpAnyT_step (i := 18) hcl rfl (by kernel_rfl) (fun hcl => ?_)
    simp only [List.getElem_toArray, List.getElem_cons_zero, List.getElem_cons_succ, Act.put, List.setIfInBounds_toArray, List.set_cons_zero, List.set_cons_succ]
    go_wp2_with fail
    refine ⟨hS, ?_⟩
    refine wpAnyT_step (i := 19) hcl rfl (by kernel_rfl) (fun hcl => ?_)
    simp only [List.getElem_toArray, List.getElem_cons_zero, List.getElem_cons_succ, Act.put, List.setIfInBounds_toArray, List.set_cons_zero, List.set_cons_succ]
    go_wp2_with fail
    refine ⟨hS, ?_⟩
    refine wpAnyT_step (i := 20) hcl rfl (by kernel_rfl) (fun hcl => ?_)
    simp only [List.getElem_toArray, List.getElem_cons_zero, List.getElem_cons_succ, Act.put, List.setIfInBounds_toArray, List.set_cons_zero, List.set_cons_succ]
    go_wp2_with fail
    refine ⟨hS, ?_⟩
    refine wpAnyT_get (i := 21) hcl rfl (by kernel_rfl) (v := ?_) (fun _ _ _ h => h) hS (Or.inl ⟨rfl, fun w' hS => ?_⟩) (fun hcl => ?_)
    rotate_left
    · skip
      have cx := (hbx.below hS ztx).cell
      go_simp
      with_reducible rfl
    simp only [List.getElem_toArray, List.getElem_cons_zero, List.getElem_cons_succ, Act.put, List.setIfInBounds_toArray, List.set_cons_zero, List.set_cons_succ]
    refine wpAnyT_get (i := 23) hcl rfl (by kernel_rfl) (v := ?_) (fun _ _ _ h => h) hS (Or.inl ⟨rfl, fun w' hS => ?_⟩) (fun hcl => ?_)
    rotate_left
    · skip
      have ct := (hbt.below hS zt).cell
      go_simp
      with_reducible rfl
    simp only [List.getElem_toArray, List.getElem_cons_zero, List.getElem_cons_succ, Act.put, List.setIfInBounds_toArray, List.set_cons_zero, List.set_cons_succ]
    refine wpAnyT_step (i := 22) hcl rfl (by kernel_rfl) (fun hcl => ?_)
    simp only [List.getElem_toArray, List.getElem_cons_zero, List.getElem_cons_succ, Act.put, List.setIfInBounds_toArray, List.set_cons_zero, List.set_cons_succ]
    go_wp2_with fail
    refine (HDp2.out B d _ (by omega) (HX.out _ hS)).mono ?_
    rintro e x9 ⟨rfl, hb⟩
    have hS' : Below w4.heap.size w4 x9 := hS.trans (hb.mono hS.size)
    clear hb hS
    have hS := hS'
    clear hS'
    go_wp2_with fail
    refine ⟨hS, ?_⟩
    refine wpAnyT_step (i := 24) hcl rfl (by kernel_rfl) (fun hcl => ?_)
    simp only [List.getElem_toArray, List.getElem_cons_zero, List.getElem_cons_succ, Act.put, List.setIfInBounds_toArray, List.set_cons_zero, List.set_cons_succ]
    go_wp2_with fail
    refine (HDp.out _ (by omega) (HI.out _ (HW.out _ hS))).mono ?_
    rintro e x10 ⟨rfl, hb⟩
    have hS' : Below w4.heap.size w4 x10 := hS.trans (hb.mono hS.size)
    clear hb hS
    have hS := hS'
    clear hS'
    go_wp2_with fail
    refine ⟨hS, ?_⟩
    refine wpAnyT_step (i := 25) hcl rfl (by kernel_rfl) (fun hcl => ?_)
    simp only [List.getElem_toArray, List.getElem_cons_zero, List.getElem_cons_succ, Act.put, List.setIfInBounds_toArray, List.set_cons_zero, List.set_cons_succ]
    go_wp2_with fail
    refine ⟨hS, ?_⟩
    refine wpAnyT_step (i := 26) hcl rfl (by kernel_rfl) (fun hcl => ?_)
    simp only [List.getElem_toArray, List.getElem_cons_zero, List.getElem_cons_succ, Act.put, List.setIfInBounds_toArray, List.set_cons_zero, List.set_cons_succ]
    go_wp2_with fail
    refine ⟨hS, ?_⟩
    refine wpAnyT_step (i := 27) hcl rfl (by kernel_rfl) (fun hcl => ?_)
    simp only [List.getElem_toArray, List.getElem_cons_zero, List.getElem_cons_succ, Act.put, List.setIfInBounds_toArray, List.set_cons_zero, List.set_cons_succ]
    go_wp2_with fail
    refine ⟨hS, ?_⟩
    refine wpAnyT_get (i := 28) hcl rfl (by kernel_rfl) (v := ?_) (fun _ _ _ h => h) hS (Or.inl ⟨rfl, fun w' hS => ?_⟩) (fun hcl => ?_)
    rotate_left
    · skip
      have cx := (hbx.below hS ztx).cell
      go_simp
      with_reducible rfl
    simp only [List.getElem_toArray, List.getElem_cons_zero, List.getElem_cons_succ, Act.put, List.setIfInBounds_toArray, List.set_cons_zero, List.set_cons_succ]
    refine wpAnyT_get (i := 30) hcl rfl (by kernel_rfl) (v := ?_) (fun _ _ _ h => h) hS (Or.inl ⟨rfl, fun w' hS => ?_⟩) (fun hcl => ?_)
    rotate_left
    · skip
      have ct := (hbt.below hS zt).cell
      go_simp
      with_reducible rfl
    simp only [List.getElem_toArray, List.getElem_cons_zero, List.getElem_cons_succ, Act.put, List.setIfInBounds_toArray, List.set_cons_zero, List.set_cons_succ]
    refine wpAnyT_step (i := 29) hcl rfl (by kernel_rfl) (fun hcl => ?_)
    simp only [List.getElem_toArray, List.getElem_cons_zero, List.getElem_cons_succ, Act.put, List.setIfInBounds_toArray, List.set_cons_zero, List.set_cons_succ]
    go_wp2_with fail
    refine (HGr2.out B d _ (by omega) (HX.out _ hS)).mono ?_
    rintro e x11 ⟨rfl, hb⟩
    have hS' : Below w4.heap.size w4 x11 := hS.trans (hb.mono hS.size)
    clear hb hS
    have hS := hS'
    clear hS'
    go_wp2_with fail
    refine ⟨hS, ?_⟩
    refine wpAnyT_step (i := 31) hcl rfl (by kernel_rfl) (fun hcl => ?_)
    simp only [List.getElem_toArray, List.getElem_cons_zero, List.getElem_cons_succ, Act.put, List.setIfInBounds_toArray, List.set_cons_zero, List.set_cons_succ]
    go_wp2_with fail
    refine (HGr.out _ (by omega) (HI.out _ (HW.out _ hS))).mono ?_
    rintro e x12 ⟨rfl, hb⟩
    have hS' : Below w4.heap.size w4 x12 := hS.trans (hb.mono hS.size)
    clear hb hS
    have hS := hS'
    clear hS'
    go_wp2_with fail
    refine ⟨hS, ?_⟩
    refine wpAnyT_step (i := 32) hcl rfl (by kernel_rfl) (fun hcl => ?_)
    simp only [List.getElem_toArray, List.getElem_cons_zero, List.getElem_cons_succ, Act.put, List.setIfInBounds_toArray, List.set_cons_zero, List.set_cons_succ]
    go_wp2_with fail
    refine ⟨hS, ?_⟩
    refine wpAnyT_step (i := 33) hcl rfl (by kernel_rfl) (fun hcl => ?_)
    simp only [List.getElem_toArray, List.getElem_cons_zero, List.getElem_cons_succ, Act.put, List.setIfInBounds_toArray, List.set_cons_zero, List.set_cons_succ]
    go_wp2_with fail
    refine ⟨hS, ?_⟩
    refine wpAnyT_last (i := 34) hcl rfl (by kernel_rfl) (by kernel_rfl) (fun hcl => ?_)
    simp only [List.getElem_toArray, List.getElem_cons_zero, List.getElem_cons_succ, Act.put, List.setIfInBounds_toArray, List.set_cons_zero, List.set_cons_succ]
    go_wp2_with fail
    refine wpAnyT_done (by kernel_rfl) ?_ _
    have hf := hide (HW.out _ hS)
    go_wp2_with fail
    go_ret
    exact ⟨rfl, hf.out⟩
end Go.Proofs.YtbiamlinoldnlaaDoor
