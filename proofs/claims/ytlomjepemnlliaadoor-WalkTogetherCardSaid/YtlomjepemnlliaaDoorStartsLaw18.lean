/- trawllaw18.WalkStarts: it returns true, and what was there stays. (Printed by gen_startslaw18.py.) -/
import Derived.Test.YtlomjepemnlliaaDoorEndsLaw18
import Derived.Test.YtlomjepemnlliaaDoorRefStarts18
import Derived.Test.YtlomjepemnlliaaDoorStarts18
set_option linter.unusedSimpArgs false
set_option linter.unusedVariables false
set_option linter.unnecessarySimpa false
namespace Go.Proofs.YtlomjepemnlliaaDoor
open Go.RowKit

set_option maxRecDepth 100000 in
set_option maxHeartbeats 8000000 in
theorem startsLaw18_true (p : Po) (pa : PoA) (s : ByteArray) (cf ef q : Int) (w : World) (a : Nat → Addr) (hwf : p.wf) (hsm : p.Small) (hin : PoIn (· < w.heap.size) w p pa)
    (hs : s.size ≤ 140737488355328) (hcf : IsI64 cf) (hef : IsI64 ef) (hq : IsI64 q) (hG : Errs w a) :
    Calls Tryd.prog 4 #[.agg (p.cells pa).toArray, .agg [.string s, .int .i64 cf, .int .i64 ef].toArray, .int .i64 q] w fun e w' => e = .returned (.bool true) ∧ Below w.heap.size w w' := by
  have HG := hide (fun x (hx : Below w.heap.size w x) => hG.below hx)
  have HLv := hide (fun y (hy : Below w.heap.size w y) => lives18_true y a (hG.below hy).two)
  have HLo := hide (fun y hi => long18_any p pa s cf ef y hs hsm hi)
  have HAn := hide (fun x sb sm y h6 h9 hi hsc he => walkAny_any p pa x sb sm q a y hwf hi hsc he hq h6 h9)
  have HSt := hide (fun x sb sm y h6 h9 hi hsc he => walkStarts_any p pa x sb sm q a y hwf hi hsc he hq h6 h9)
  have HAs := hide (fun x y hx hi => refAsked18_any p pa x cf ef q y hwf hi hq hx)
  have HRa := hide (fun x i y hr hi h9 h6 hok hin => refAny18_any p pa x cf ef i y hr hi h9 h6 hwf hok hin)
  have HRs := hide (fun x i y hr hi h9 h6 hok hin => refStarts18_any p pa x cf ef i y hr hi h9 h6 hwf hok hin)
  obtain ⟨q1, q2⟩ := hq
  have hbel := ((Below.refl w.heap.size w).alloc (Nat.le_refl _) (.cells (p.cells pa).toArray 26)).alloc (by simp) (.cells #[.string s, .int .i64 cf, .int .i64 ef] 28)
  have hba := (Blk.new w 26 (p.cells pa).toArray).alloc (.cells #[.string s, .int .i64 cf, .int .i64 ef] 28)
  have hbv := Blk.new (w.alloc (.cells (p.cells pa).toArray 26)) 28 #[.string s, .int .i64 cf, .int .i64 ef]
  rw [World.size_alloc] at hbv
  have HK := hide (PW.mk hbel hba hbv (hin.next hbel))
  clear hbel hba hbv hin hG hwf hsm
  simp only [Po.cells] at HK HLo HAn HSt HAs HRa HRs ⊢
  go_enter Tryd.func4, Tryd.ntmps4
  go_wp2_with fail
  generalize ((w.alloc (.cells #[.slice pa.s p.sets.length pa.cs, .int .i64 p.null, .slice pa.f p.first.length pa.cf, .slice pa.l p.last.length pa.cl, .slice pa.w p.follow.length pa.cw] 26)).alloc (.cells #[.string s, .int .i64 cf, .int .i64 ef] 28)) = y0 at *
  refine (HLv.out _ HK.out.below).mono ?_
  rintro e y1 ⟨rfl, hb⟩
  replace HK := hide (HK.out.next hb)
  clear hb HLv
  have ca := HK.out.bp.cell
  have cv := HK.out.bv.cell
  simp only [Po.cells] at ca
  go_wp2_with fail
  refine (HLo.out _ HK.out.ip).mono ?_
  rintro e y2 ⟨lg, rfl, hna, hb⟩
  replace HK := hide (HK.out.next hb)
  clear hb ca cv HLo
  cases lg with
  | true =>
    clear hna
    go_wp2_with fail
    go_ret
    exact ⟨rfl, HK.out.below⟩
  | false =>
  obtain ⟨hn1, hn2⟩ := hna (by first | rfl | trivial)
  clear hna
  have h6 : p.Ok → p.sets.length < 1000000 := fun h => by have := h.len; omega
  have H6 := hide h6
  clear h6
  go_upto_region 5 with fail
  go_cut [7, 8] (fun xv rv wx => ∃ b m x g, xv = .pointer (some ⟨b, 0, none⟩) ∧ rv = .pointer (some ⟨g, 0, none⟩) ∧ Scn wx b m x ∧ x.text = s ∧ RefSc x cf ef ∧ Blk wx g 34 #[.string s, .int .i64 cf, .int .i64 ef, .bool false] ∧ Below y2.heap.size y2 wx)
  case first =>
    refine wp_region_mix (fun z => Below y2.heap.size y2 z) [16] (by kernel_rfl) (fun hcl => ?_)
    have hS : Below y2.heap.size y2 y2.drew := (Below.refl _ _).drew
    refine wpAnyT_free (i := 0) hcl rfl (by kernel_rfl) (v := ?_) (fun _ _ _ h => h) hS (Or.inl ⟨rfl, fun w' _ => ?_⟩) (fun hcl => ?_)
    rotate_left
    · go_simp
      with_reducible rfl
    simp only [List.getElem_toArray, List.getElem_cons_zero, List.getElem_cons_succ, Act.put, List.setIfInBounds_toArray, List.set_cons_zero, List.set_cons_succ]
    refine wpAnyT_take (i := 1) hcl rfl (by kernel_rfl) (v := ?_) (fun _ _ _ h => h) hS (Or.inl ⟨rfl, fun w' hS => ?_⟩) (fun hcl => ?_)
    rotate_left
    · skip
      have cv := (HK.out.bv.nxt hS).cell
      go_simp
      with_reducible rfl
    simp only [List.getElem_toArray, List.getElem_cons_zero, List.getElem_cons_succ, Act.put, List.setIfInBounds_toArray, List.set_cons_zero, List.set_cons_succ]
    refine wpAnyT_free (i := 2) hcl rfl (by kernel_rfl) (v := ?_) (fun _ _ _ h => h) hS (Or.inl ⟨rfl, fun w' _ => ?_⟩) (fun hcl => ?_)
    rotate_left
    · go_simp
      with_reducible rfl
    simp only [List.getElem_toArray, List.getElem_cons_zero, List.getElem_cons_succ, Act.put, List.setIfInBounds_toArray, List.set_cons_zero, List.set_cons_succ]
    refine wpAnyT_take (i := 3) hcl rfl (by kernel_rfl) (v := ?_) (fun _ _ _ h => h) hS (Or.inl ⟨rfl, fun w' hS => ?_⟩) (fun hcl => ?_)
    rotate_left
    · skip
      have cv := (HK.out.bv.nxt hS).cell
      go_simp
      with_reducible rfl
    simp only [List.getElem_toArray, List.getElem_cons_zero, List.getElem_cons_succ, Act.put, List.setIfInBounds_toArray, List.set_cons_zero, List.set_cons_succ]
    refine wpAnyT_free (i := 4) hcl rfl (by kernel_rfl) (v := ?_) (fun _ _ _ h => h) hS (Or.inl ⟨rfl, fun w' _ => ?_⟩) (fun hcl => ?_)
    rotate_left
    · go_simp
      with_reducible rfl
    simp only [List.getElem_toArray, List.getElem_cons_zero, List.getElem_cons_succ, Act.put, List.setIfInBounds_toArray, List.set_cons_zero, List.set_cons_succ]
    refine wpAnyT_take (i := 5) hcl rfl (by kernel_rfl) (v := ?_) (fun _ _ _ h => h) hS (Or.inl ⟨rfl, fun w' hS => ?_⟩) (fun hcl => ?_)
    rotate_left
    · skip
      have cv := (HK.out.bv.nxt hS).cell
      go_simp
      with_reducible rfl
    simp only [List.getElem_toArray, List.getElem_cons_zero, List.getElem_cons_succ, Act.put, List.setIfInBounds_toArray, List.set_cons_zero, List.set_cons_succ]
    refine wpAnyT_free (i := 7) hcl rfl (by kernel_rfl) (v := ?_) (fun _ _ _ h => h) hS (Or.inl ⟨rfl, fun w' _ => ?_⟩) (fun hcl => ?_)
    rotate_left
    · go_simp
      with_reducible rfl
    simp only [List.getElem_toArray, List.getElem_cons_zero, List.getElem_cons_succ, Act.put, List.setIfInBounds_toArray, List.set_cons_zero, List.set_cons_succ]
    refine wpAnyT_take (i := 8) hcl rfl (by kernel_rfl) (v := ?_) (fun _ _ _ h => h) hS (Or.inl ⟨rfl, fun w' hS => ?_⟩) (fun hcl => ?_)
    rotate_left
    · skip
      have cv := (HK.out.bv.nxt hS).cell
      go_simp
      with_reducible rfl
    simp only [List.getElem_toArray, List.getElem_cons_zero, List.getElem_cons_succ, Act.put, List.setIfInBounds_toArray, List.set_cons_zero, List.set_cons_succ]
    refine wpAnyT_free (i := 9) hcl rfl (by kernel_rfl) (v := ?_) (fun _ _ _ h => h) hS (Or.inl ⟨rfl, fun w' _ => ?_⟩) (fun hcl => ?_)
    rotate_left
    · go_simp
      with_reducible rfl
    simp only [List.getElem_toArray, List.getElem_cons_zero, List.getElem_cons_succ, Act.put, List.setIfInBounds_toArray, List.set_cons_zero, List.set_cons_succ]
    refine wpAnyT_take (i := 10) hcl rfl (by kernel_rfl) (v := ?_) (fun _ _ _ h => h) hS (Or.inl ⟨rfl, fun w' hS => ?_⟩) (fun hcl => ?_)
    rotate_left
    · skip
      have cv := (HK.out.bv.nxt hS).cell
      go_simp
      with_reducible rfl
    simp only [List.getElem_toArray, List.getElem_cons_zero, List.getElem_cons_succ, Act.put, List.setIfInBounds_toArray, List.set_cons_zero, List.set_cons_succ]
    refine wpAnyT_free (i := 11) hcl rfl (by kernel_rfl) (v := ?_) (fun _ _ _ h => h) hS (Or.inl ⟨rfl, fun w' _ => ?_⟩) (fun hcl => ?_)
    rotate_left
    · go_simp
      with_reducible rfl
    simp only [List.getElem_toArray, List.getElem_cons_zero, List.getElem_cons_succ, Act.put, List.setIfInBounds_toArray, List.set_cons_zero, List.set_cons_succ]
    refine wpAnyT_take (i := 12) hcl rfl (by kernel_rfl) (v := ?_) (fun _ _ _ h => h) hS (Or.inl ⟨rfl, fun w' hS => ?_⟩) (fun hcl => ?_)
    rotate_left
    · skip
      have cv := (HK.out.bv.nxt hS).cell
      go_simp
      with_reducible rfl
    simp only [List.getElem_toArray, List.getElem_cons_zero, List.getElem_cons_succ, Act.put, List.setIfInBounds_toArray, List.set_cons_zero, List.set_cons_succ]
    refine wpAnyT_free (i := 13) hcl rfl (by kernel_rfl) (v := ?_) (fun _ _ _ h => h) hS (Or.inl ⟨rfl, fun w' _ => ?_⟩) (fun hcl => ?_)
    rotate_left
    · go_simp
      with_reducible rfl
    simp only [List.getElem_toArray, List.getElem_cons_zero, List.getElem_cons_succ, Act.put, List.setIfInBounds_toArray, List.set_cons_zero, List.set_cons_succ]
    have HS0 := hide hS
    clear hS
    refine wpAnyT_pick2 (i := 6) (j := 14) hcl rfl rfl (by kernel_rfl) (fun hcl => ?_) (fun hcl => ?_)
    · simp only [List.getElem_toArray, List.getElem_cons_zero, List.getElem_cons_succ, Act.put, List.setIfInBounds_toArray, List.set_cons_zero, List.set_cons_succ]
      go_wp2_with fail
      refine (new_any s cf ef _ hs).mono ?_
      rintro e z0 ⟨sb, sm, x, rfl, hsc, htx, hmk, _, _, hb⟩
      have HS1 := hide (HS0.out.trans (hb.mono HS0.out.size))
      have HX := hide (And.intro hsc (And.intro htx (show RefSc x cf ef from ⟨fun i hi => by rw [hmk i (by rw [← htx]; exact hi), htx], by rw [htx]; exact hs⟩)))
      clear hsc htx hmk hb
      go_wp2_with fail
      refine ⟨HS1.out, ?_⟩
      refine wpAnyT_step (i := 14) hcl rfl (by kernel_rfl) (fun hcl => ?_)
      simp only [List.getElem_toArray, List.getElem_cons_zero, List.getElem_cons_succ, Act.put, List.setIfInBounds_toArray, List.set_cons_zero, List.set_cons_succ]
      go_wp2_with fail
      have HS2 := hide (HS1.out.alloc HS1.out.size (.cells #[.string ⟨#[]⟩, .int .i64 0, .int .i64 0, .bool false] 34))
      refine ⟨HS2.out, ?_⟩
      have HB := hide (Blk.new z0 34 #[.string ⟨#[]⟩, .int .i64 0, .int .i64 0, .bool false])
      have HG5 := hide (HS1.out.size)
      replace HX := hide (And.intro (HX.out.1.below ((Below.refl _ z0).alloc (Nat.le_refl _) (.cells #[.string ⟨#[]⟩, .int .i64 0, .int .i64 0, .bool false] 34))) HX.out.2)
      generalize (z0.alloc (.cells #[.string ⟨#[]⟩, .int .i64 0, .int .i64 0, .bool false] 34)) = za at *
      have hS := HS2.out
      refine wpAnyT_free (i := 15) hcl rfl (by kernel_rfl) (v := ?_) (fun _ _ _ h => h) hS (Or.inl ⟨rfl, fun w' _ => ?_⟩) (fun hcl => ?_)
      rotate_left
      · go_simp
        with_reducible rfl
      simp only [List.getElem_toArray, List.getElem_cons_zero, List.getElem_cons_succ, Act.put, List.setIfInBounds_toArray, List.set_cons_zero, List.set_cons_succ]
      clear hS
      refine wpAnyT_last (i := 16) hcl rfl (by kernel_rfl) (by kernel_rfl) (fun hcl => ?_)
      simp only [List.getElem_toArray, List.getElem_cons_zero, List.getElem_cons_succ, Act.put, List.setIfInBounds_toArray, List.set_cons_zero, List.set_cons_succ]
      go_wp2_with (refine wpList_store_row rfl _ _ _ rfl _ 0 _ _ _ rfl rfl HB.out Tryd.sizeRefScene18 (by simp) (by simp [Value.oneCell']) ?_)
      intro z9 hrow2 hg9 hz9
      have hrow := hrow2.out
      rw [splice_full (by rfl)] at hrow
      have h3 := below_grew HS2.out hg9 (Nat.le_refl _) (fun q hq => by rw [← Option.some.inj hq]; exact HG5.out)
      have h1 := scn_grown HX.out.1 HB.out hg9
      have HF := hide (And.intro h1 (And.intro HX.out.2.1 (And.intro HX.out.2.2 (And.intro hrow h3))))
      clear hrow hrow2 hg9 hz9 h1 h3 HB HX HG5
      go_wp2_with fail
      refine wpAnyT_done (by kernel_rfl) ?_ _
      go_wp2_with fail
      go_meet
      case rel => exact ⟨_, _, _, _, rfl, rfl, HF.out⟩
    · simp only [List.getElem_toArray, List.getElem_cons_zero, List.getElem_cons_succ, Act.put, List.setIfInBounds_toArray, List.set_cons_zero, List.set_cons_succ]
      go_wp2_with fail
      have HS1 := hide ((Below.refl y2.heap.size y2).alloc (Nat.le_refl _) (.cells #[.string ⟨#[]⟩, .int .i64 0, .int .i64 0, .bool false] 34)).drew
      refine ⟨HS1.out, ?_⟩
      have HB := hide (show Blk (y2.alloc (.cells #[.string ⟨#[]⟩, .int .i64 0, .int .i64 0, .bool false] 34)).drew y2.heap.size 34 #[.string ⟨#[]⟩, .int .i64 0, .int .i64 0, .bool false] from Blk.new y2 _ _)
      have HG5 := hide (Nat.le_refl y2.heap.size)
      generalize (y2.alloc (.cells #[.string ⟨#[]⟩, .int .i64 0, .int .i64 0, .bool false] 34)).drew = za at *
      refine wpAnyT_step (i := 6) hcl rfl (by kernel_rfl) (fun hcl => ?_)
      simp only [List.getElem_toArray, List.getElem_cons_zero, List.getElem_cons_succ, Act.put, List.setIfInBounds_toArray, List.set_cons_zero, List.set_cons_succ]
      go_wp2_with fail
      refine (new_any s cf ef _ hs).mono ?_
      rintro e z1 ⟨sb, sm, x, rfl, hsc, htx, hmk, _, _, hb⟩
      have HS2 := hide (HS1.out.trans (hb.mono HS1.out.size))
      have HX := hide (And.intro hsc (And.intro htx (show RefSc x cf ef from ⟨fun i hi => by rw [hmk i (by rw [← htx]; exact hi), htx], by rw [htx]; exact hs⟩)))
      replace HB := hide (HB.out.nxt hb)
      clear hsc htx hmk hb
      go_wp2_with fail
      refine ⟨HS2.out, ?_⟩
      have hS := HS2.out
      refine wpAnyT_free (i := 15) hcl rfl (by kernel_rfl) (v := ?_) (fun _ _ _ h => h) hS (Or.inl ⟨rfl, fun w' _ => ?_⟩) (fun hcl => ?_)
      rotate_left
      · go_simp
        with_reducible rfl
      simp only [List.getElem_toArray, List.getElem_cons_zero, List.getElem_cons_succ, Act.put, List.setIfInBounds_toArray, List.set_cons_zero, List.set_cons_succ]
      clear hS
      refine wpAnyT_last (i := 16) hcl rfl (by kernel_rfl) (by kernel_rfl) (fun hcl => ?_)
      simp only [List.getElem_toArray, List.getElem_cons_zero, List.getElem_cons_succ, Act.put, List.setIfInBounds_toArray, List.set_cons_zero, List.set_cons_succ]
      go_wp2_with (refine wpList_store_row rfl _ _ _ rfl _ 0 _ _ _ rfl rfl HB.out Tryd.sizeRefScene18 (by simp) (by simp [Value.oneCell']) ?_)
      intro z9 hrow2 hg9 hz9
      have hrow := hrow2.out
      rw [splice_full (by rfl)] at hrow
      have h3 := below_grew HS2.out hg9 (Nat.le_refl _) (fun q hq => by rw [← Option.some.inj hq]; exact HG5.out)
      have h1 := scn_grown HX.out.1 HB.out hg9
      have HF := hide (And.intro h1 (And.intro HX.out.2.1 (And.intro HX.out.2.2 (And.intro hrow h3))))
      clear hrow hrow2 hg9 hz9 h1 h3 HB HX HG5
      go_wp2_with fail
      refine wpAnyT_done (by kernel_rfl) ?_ _
      go_wp2_with fail
      go_meet
      case rel => exact ⟨_, _, _, _, rfl, rfl, HF.out⟩
  case rest =>
  obtain ⟨sb, sm, x, gs, hv7, hv8, hsc, htx, hrs, hbs, hb⟩ := hcut
  subst hv7
  subst hv8
  replace HK := hide (HK.out.next hb)
  have hx6 : x.len < 900000 := by unfold Sc.len; rw [htx]; omega
  have hxs : x.text.size ≤ 2000 := by rw [htx]; exact hn2
  have HS := hide hsc
  have HX := hide (And.intro htx hrs)
  have HB := hide hbs
  have HX6 := hide (And.intro hx6 hxs)
  clear hb hsc htx hrs hbs hx6 hxs
  have ca := HK.out.bp.cell
  simp only [Po.cells] at ca
  go_wp2_with fail
  refine (HAn.out x sb sm _ H6.out HX6.out.1 HK.out.ip HS.out (HG.out _ HK.out.below).two).mono ?_
  rintro e y3 ⟨g1, n1, ok1, rfl, hask1, hz1, hzn1, hb⟩
  have HQ1 := hide (And.intro hask1 (And.intro hz1 hzn1))
  replace HK := hide (HK.out.next hb)
  replace HS := hide (HS.out.below hb)
  replace HB := hide (HB.out.nxt hb)
  clear hb ca hask1 hz1 hzn1 HAn
  have ca := HK.out.bp.cell
  simp only [Po.cells] at ca
  go_wp2_with fail
  refine (HSt.out x sb sm _ H6.out HX6.out.1 HK.out.ip HS.out (HG.out _ HK.out.below).two).mono ?_
  rintro e y4 ⟨g2, v2, r2, rfl, hask2, ho2, hr2, hrn2, hb⟩
  have HO2 := hide ho2
  have HQ2 := hide (And.intro hask2 (And.intro hr2 hrn2))
  replace HK := hide (HK.out.next hb)
  replace HB := hide (HB.out.nxt hb)
  clear hb ca ho2 hask2 hr2 hrn2 HSt HS
  have ca := HK.out.bp.cell
  simp only [Po.cells] at ca
  have cs := HB.out.cell
  rw [← HX.out.1] at cs
  go_wp2_with fail
  refine (HAs.out x _ (by have := HX6.out.2; omega) HK.out.ip).mono ?_
  rintro e y6 ⟨g4, hask4, rfl, hb⟩
  replace HO2 := hide (HO2.out.below hb (Nat.le_refl _))
  replace HK := hide (HK.out.next hb)
  replace HB := hide (HB.out.nxt hb)
  obtain rfl : g1 = g4 := HQ1.out.1.eq hask4
  obtain rfl : g1 = g2 := HQ1.out.1.eq HQ2.out.1
  have HLT := hide hask4.lt
  clear hb ca cs hask4 HAs
  go_wp2_with fail
  refine (num18_any _ a g1 HLT.out (HG.out _ HK.out.below)).mono ?_
  rintro e y7 ⟨rfl, hb⟩
  replace HO2 := hide (HO2.out.below hb (Nat.le_refl _))
  replace HK := hide (HK.out.next hb)
  replace HB := hide (HB.out.nxt hb)
  clear hb
  have gne : (walkNum g1 != walkNum g1) = false := bne_self_eq_false _
  go_wp2_with fail
  refine (num18_any _ a g1 HLT.out (HG.out _ HK.out.below)).mono ?_
  rintro e y8 ⟨rfl, hb⟩
  replace HO2 := hide (HO2.out.below hb (Nat.le_refl _))
  replace HK := hide (HK.out.next hb)
  replace HB := hide (HB.out.nxt hb)
  clear hb gne
  have gne : (walkNum g1 != walkNum g1) = false := bne_self_eq_false _
  obtain ⟨LA, Lc, rfl, hl1, hl2⟩ := HO2.out.row18
  clear hl2
  cases g1 with
  | some g =>
    have hne0 : ((g : Int) + 1 != 0) = true := bne_iff_ne.2 (by omega)
    obtain rfl : r2 = [] := HQ2.out.2.2 (fun h => by cases h)
    obtain ⟨rfl, rfl⟩ := HQ1.out.2.2 (fun h => by cases h)
    simp only [walkNum] at gne ⊢
    go_wp2_with fail
    go_ret
    exact ⟨rfl, HK.out.below⟩
  | none =>
  clear gne
  simp only [walkNum]
  have hok : p.Ok ∧ 0 ≤ q ∧ q ≤ x.len := by
    rcases HQ1.out.1 with ⟨h, _⟩ | ⟨h, _⟩ | ⟨_, h⟩
    · cases h
    · cases h
    · exact h
  obtain ⟨hok, hq3, hq4⟩ := hok
  obtain ⟨i, rfl⟩ : ∃ i : Nat, q = i := ⟨q.toNat, by omega⟩
  have HI := hide (And.intro hok (show i ≤ x.text.size by have : x.text.size = x.len := rfl; omega))
  have hil : i ≤ x.len := by omega
  clear hok hq3 hq4
  have er2 : r2 = startList p x i := by have := HQ2.out.2.1 rfl; rwa [Int.toNat_natCast] at this
  have hz1 := HQ1.out.2.1 rfl
  rw [Int.toNat_natCast] at hz1
  subst er2
  obtain ⟨e1, e2⟩ := any_least hil (leastB_is p x i (x.len + 1 - i)) hz1
  subst e1
  subst e2
  have HR := hide (HRa.out x i y8 HX.out.2 HI.out.2 (by have := HX6.out.2; omega) (H6.out HI.out.1) HI.out.1 HK.out.ip)
  have HT := hide (fun y => HRs.out x i y HX.out.2 HI.out.2 (by have := HX6.out.2; omega) (H6.out HI.out.1) HI.out.1)
  clear hz1 HQ1 HQ2 HRa HRs
  generalize startList p x i = R at *
  generalize leastB p x i (x.len + 1 - i) = L at *
  have ca := HK.out.bp.cell
  simp only [Po.cells] at ca
  have cs := HB.out.cell
  rw [← HX.out.1] at cs
  go_wp2_with fail
  refine HR.out.mono ?_
  rintro e y9 ⟨rfl, hb⟩
  replace HO2 := hide (HO2.out.below hb (Nat.le_refl _))
  replace HK := hide (HK.out.next hb)
  replace HB := hide (HB.out.nxt hb)
  clear hb ca cs HR
  have ca := HK.out.bp.cell
  simp only [Po.cells] at ca
  have cs := HB.out.cell
  rw [← HX.out.1] at cs
  have gE : (decide (0 ≤ L) == decide (L ≥ 0)) = true := by simp [ge_iff_le]
  go_wp2_with fail
  all_goals
    refine (HT.out _ HK.out.ip).mono ?_
    rintro e y10 ⟨v3, rfl, ho3, hb⟩
    have HO2b := hide (HO2.out.below hb (Nat.le_refl _))
    have HKb := hide (HK.out.next hb)
    have HO3 := hide ho3
    clear ho3 hb
    go_wp2_with fail
    refine (sameInts_any _ HO2b.out HO3.out).mono ?_
    rw [decide_eq_true (rfl : R = R)]
    rintro e y11 ⟨rfl, hb⟩
    have HF := hide (HKb.out.below.trans (hb.mono HKb.out.below.size))
    clear hb
    go_wp2_with fail
    go_ret
    exact ⟨rfl, HF.out⟩
end Go.Proofs.YtlomjepemnlliaaDoor
