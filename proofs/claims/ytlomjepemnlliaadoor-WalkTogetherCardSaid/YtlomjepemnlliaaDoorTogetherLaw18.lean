/- trawllaw18.WalkTogether: it returns true, and what was there stays. -/
import Derived.Test.YtlomjepemnlliaaDoorStartsLaw18
set_option linter.unusedSimpArgs false
set_option linter.unusedVariables false
set_option linter.unnecessarySimpa false
namespace Go.Proofs.YtlomjepemnlliaaDoor
open Go.RowKit

theorem begs_prefix (p : Po) (x : Sc) (a d : Nat) : ∀ j, ∃ t, begsUpto p x a (d + j) = begsUpto p x a d ++ t
  | 0 => ⟨[], by simp⟩
  | j + 1 => by
    obtain ⟨t, ht⟩ := begs_prefix p x a d j
    exact ⟨t ++ _, by rw [← Nat.add_assoc, begsUpto_succ, ht, List.append_assoc]⟩
theorem begs_at {p : Po} {x : Sc} {a d K : Nat} (h : endList p x (a + d) ≠ []) (hd : d < K) : (begsUpto p x a K)[(begsUpto p x a d).length]? = some ((a + d : Nat) : Int) := by
  obtain ⟨t, ht⟩ := begs_prefix p x a (d + 1) (K - (d + 1))
  rw [show d + 1 + (K - (d + 1)) = K by omega, begsUpto_succ, if_pos h, List.append_assoc] at ht
  rw [ht, List.getElem?_append_right (Nat.le_refl _), Nat.sub_self]
  rfl
theorem Asked18.mk0 {p : Po} {x : Sc} {q : Int} (h : p.Ok) (h1 : 0 ≤ q) (h2 : q ≤ x.len) : Asked18 p x q none := .inr (.inr ⟨rfl, h, h1, h2⟩)
theorem end_ge {p : Po} {x : Sc} {a : Nat} {h : Int} (e : (endList p x a)[0]? = some h) : (a : Int) ≤ h := by
  obtain ⟨d, _, h1, _⟩ := endsUpto_bd (List.mem_of_getElem? e)
  omega

set_option maxRecDepth 100000 in
set_option maxHeartbeats 8000000 in
theorem togetherLaw18_true (p : Po) (pa : PoA) (s : ByteArray) (cf ef q : Int) (w : World) (a : Nat → Addr) (hwf : p.wf) (hsm : p.Small) (hin : PoIn (· < w.heap.size) w p pa)
    (hs : s.size ≤ 140737488355328) (hcf : IsI64 cf) (hef : IsI64 ef) (hq : IsI64 q) (hG : Errs w a) :
    Calls Tryd.prog 5 #[.agg (p.cells pa).toArray, .agg [.string s, .int .i64 cf, .int .i64 ef].toArray, .int .i64 q] w fun e w' => e = .returned (.bool true) ∧ Below w.heap.size w w' := by
  have HG := hide (fun x (hx : Below w.heap.size w x) => hG.below hx)
  have HLv := hide (fun y (hy : Below w.heap.size w y) => lives18_true y a (hG.below hy).two)
  have HLo := hide (fun y hi => long18_any p pa s cf ef y hs hsm hi)
  have hne := fun y ad => run_neq_iface_nil (P := Tryd.prog) (w := y) 37 (by kernel_rfl) 161 (.pointer (some ad))
  have hnn := fun y => run_neq_nil_nil_at (P := Tryd.prog) (w := y) 37 (by kernel_rfl)
  have hen := fun y => run_eql_nil_nil_at (P := Tryd.prog) (w := y) 37 (by kernel_rfl)
  have HAn := hide (fun x sb sm y h6 h9 hi hsc he => walkAny_any p pa x sb sm q a y hwf hi hsc he hq h6 h9)
  have HSt := hide (fun x sb sm y h6 h9 hi hsc he => walkStarts_any p pa x sb sm q a y hwf hi hsc he hq h6 h9)
  have HEn := hide (fun (z : Int) x sb sm y hz h6 h9 hi hsc he => walkEnds_any p pa x sb sm z a y hwf hi hsc he hz h6 h9)
  obtain ⟨q1, q2⟩ := hq
  have hbel := ((Below.refl w.heap.size w).alloc (Nat.le_refl _) (.cells (p.cells pa).toArray 26)).alloc (by simp) (.cells #[.string s, .int .i64 cf, .int .i64 ef] 28)
  have hba := (Blk.new w 26 (p.cells pa).toArray).alloc (.cells #[.string s, .int .i64 cf, .int .i64 ef] 28)
  have hbv := Blk.new (w.alloc (.cells (p.cells pa).toArray 26)) 28 #[.string s, .int .i64 cf, .int .i64 ef]
  rw [World.size_alloc] at hbv
  have HK := hide (PW.mk hbel hba hbv (hin.next hbel))
  clear hbel hba hbv hin hG hwf hsm
  simp only [Po.cells] at HK HLo HAn HSt HEn ⊢
  go_enter Tryd.func5, Tryd.ntmps5
  go_wp2_with fail
  generalize ((w.alloc (.cells #[.slice pa.s p.sets.length pa.cs, .int .i64 p.null, .slice pa.f p.first.length pa.cf, .slice pa.l p.last.length pa.cl, .slice pa.w p.follow.length pa.cw] 26)).alloc (.cells #[.string s, .int .i64 cf, .int .i64 ef] 28)) = y0 at *
  refine (HLv.out _ HK.out.below).mono ?_
  rintro e y1 ⟨rfl, hb⟩
  replace HK := hide (HK.out.next hb)
  clear hb HLv
  have ca := HK.out.bp.cell
  have cv := HK.out.bv.cell
  simp only [Po.cells] at ca
  go_wp2_with fail
  refine (HLo.out _ HK.out.ip).mono ?_
  rintro e y2 ⟨lg, rfl, hna, hb⟩
  replace HK := hide (HK.out.next hb)
  clear hb ca cv HLo
  cases lg with
  | true =>
    clear hna
    go_wp2_with fail
    go_ret
    exact ⟨rfl, HK.out.below⟩
  | false =>
  obtain ⟨hn1, hn2⟩ := hna (by first | rfl | trivial)
  clear hna
  have h6 : p.Ok → p.sets.length < 1000000 := fun h => by have := h.len; omega
  have H6 := hide h6
  clear h6
  have cv := HK.out.bv.cell
  by_cases h60 : s.size ≤ 60
  case neg =>
    have g60 : decide ((s.size : Int) > 60) = true := decide_eq_true (by omega)
    go_wp2_with fail
    go_ret
    exact ⟨rfl, HK.out.below⟩
  have g60 : decide ((s.size : Int) > 60) = false := decide_eq_false (by omega)
  go_wp2_with fail
  refine (new_any s cf ef _ hs).mono ?_
  rintro e y3 ⟨sb, sm, x, rfl, hsc, htx, hmk, _, _, hb⟩
  clear g60 cv
  subst htx
  replace HK := hide (HK.out.next hb)
  have hx6 : x.len < 900000 := by unfold Sc.len; omega
  have HS := hide hsc
  have HX6 := hide hx6
  clear hb hsc hmk hx6
  have ca := HK.out.bp.cell
  simp only [Po.cells] at ca
  go_wp2_with fail
  refine (HSt.out x sb sm _ H6.out HX6.out HK.out.ip HS.out (HG.out _ HK.out.below).two).mono ?_
  rintro e y4 ⟨g1, v2, r2, rfl, hask2, ho2, hr2, hrn2, hb⟩
  have HWL := hide HK.out.below.size
  have HO2 := hide (ho2.low HWL.out)
  have HQ2 := hide (And.intro hask2 (And.intro hr2 hrn2))
  replace HK := hide (HK.out.next hb)
  replace HS := hide (HS.out.below hb)
  clear hb ca ho2 hask2 hr2 hrn2 HSt
  have ca := HK.out.bp.cell
  simp only [Po.cells] at ca
  go_wp2_with fail
  refine (HAn.out x sb sm _ H6.out HX6.out HK.out.ip HS.out (HG.out _ HK.out.below).two).mono ?_
  rintro e y5 ⟨g2, n1, ok1, rfl, hask1, hz1, hzn1, hb⟩
  obtain rfl : g1 = g2 := HQ2.out.1.eq hask1
  have HQ1 := hide (And.intro hask1 (And.intro hz1 hzn1))
  replace HK := hide (HK.out.next hb)
  replace HS := hide (HS.out.below hb)
  replace HO2 := hide (HO2.out.below hb (Nat.le_refl _))
  have HLT := hide hask1.lt
  clear hb ca hask1 hz1 hzn1 HAn
  cases g1 with
  | some g =>
    have HN := hide (fun y h => num18_any y a (some g) HLT.out h)
    have gE : (walkNum (some g) == walkNum (some g)) = true := beq_self_eq_true _
    simp only [walkErr, errV] at HN ⊢
    go_wp2_with fail
    refine (HN.out _ (HG.out _ HK.out.below)).mono ?_
    rintro e y6 ⟨rfl, hb⟩
    replace HK := hide (HK.out.next hb)
    clear hb
    go_wp2_with fail
    refine (HN.out _ (HG.out _ HK.out.below)).mono ?_
    rintro e y7 ⟨rfl, hb⟩
    replace HK := hide (HK.out.next hb)
    clear hb
    go_wp2_with fail
    go_ret
    exact ⟨by simp, HK.out.below⟩
  | none =>
  have hok : p.Ok ∧ 0 ≤ q ∧ q ≤ x.len := by
    rcases HQ1.out.1 with ⟨h, _⟩ | ⟨h, _⟩ | ⟨_, h⟩
    · cases h
    · cases h
    · exact h
  obtain ⟨hok, hq3, hq4⟩ := hok
  obtain ⟨i, rfl⟩ : ∃ i : Nat, q = i := ⟨q.toNat, by omega⟩
  have hil : i ≤ x.len := by omega
  have HI := hide hok
  have er2 : r2 = begsUpto p x i (x.len + 1 - i) := by have := HQ2.out.2.1 rfl; rw [Int.toNat_natCast] at this; rw [this, begs_all hok hil]
  have hz1 := HQ1.out.2.1 rfl
  rw [Int.toNat_natCast] at hz1
  obtain ⟨e1, e2⟩ := any_least hil (leastB_is p x i (x.len + 1 - i)) hz1
  subst e1
  subst e2
  obtain ⟨LA, Lc, rfl, hl1, hl2⟩ := HO2.out.row18
  obtain ⟨L, hL⟩ : ∃ L, L = leastB p x i (x.len + 1 - i) := ⟨_, rfl⟩
  rw [← hL]
  have HRR := hide er2
  have HLL := hide hL
  have hi6 : i ≤ x.text.size := hil
  have hs6 : x.text.size < 900000 := HX6.out
  clear hok hq3 hq4 er2 hz1 hL hl2 HQ1 HQ2 hil
  rename_i y5
  simp only [walkErr]
  go_wp2_with fail
  go_loopw [13, 14, 15] (fun lv kv iv wr => ∃ d : Nat, lv = .int .i64 (leastB p x i d) ∧ kv = .int .i64 ((begsUpto p x i d).length : Int) ∧ iv = .int .i64 ((i : Int) + (d : Int)) ∧ i + d ≤ x.text.size + 1 ∧ PW p pa #[.string x.text, .int .i64 cf, .int .i64 ef] w.heap.size (w.heap.size + 1) w wr ∧ Scn wr sb sm x ∧ OwnInts w.heap.size wr (.slice LA r2.length Lc) r2) (fun _ _ iv _ => x.text.size + 1 - (intOf iv).toNat)
  case atStart => exact ⟨0, rfl, rfl, by simp, by omega, HK.out, HS.out, HO2.out⟩
  case round =>
    clear HK HS HO2
    obtain ⟨d, rfl, rfl, rfl, hd, hpw, hsc, hown⟩ := hrel
    have HK := hide hpw
    have HS := hide hsc
    have HO2 := hide hown
    clear hpw hsc hown
    have cv := HK.out.bv.cell
    by_cases hlt : i + d ≤ x.text.size
    case neg =>
      have g1 : decide ((i : Int) + (d : Int) ≤ (x.text.size : Int)) = false := decide_eq_false (by omega)
      have hde : x.len + 1 - i = d := by have : x.len = x.text.size := rfl; omega
      have hb1 : begsUpto p x i d = r2 := by rw [HRR.out, hde]
      have hb2 : leastB p x i d = L := by rw [HLL.out, hde]
      rw [hb1, hb2]
      have HF := hide HK.out.below
      have gE : (decide (0 ≤ L) == decide (L ≥ 0)) = true := by simp [ge_iff_le]
      have gR : ((r2.length : Int) == (r2.length : Int)) = true := beq_self_eq_true _
      clear hde hb1 hb2 HK HS HO2 HRR HLL
      go_wp2_with fail
      all_goals
        go_ret
        exact ⟨by first | rfl | (simp <;> omega), HF.out⟩
    have g1 : decide ((i : Int) + (d : Int) ≤ (x.text.size : Int)) = true := decide_eq_true (by omega)
    have hxl : x.len = x.text.size := rfl
    have hcast : ((i + d : Nat) : Int) = (i : Int) + (d : Int) := by omega
    have hcn : ((i : Int) + (d : Int)).toNat = i + d := by omega
    have hask := Asked18.mk0 (x := x) HI.out (show 0 ≤ (i : Int) + (d : Int) by omega) (by omega)
    have HA0 := hide hask
    have hbs := begsUpto_succ p x i d
    have hls : leastB p x i (d + 1) = match (endList p x (i + d))[0]? with
      | some h => if leastB p x i d < 0 ∨ h < leastB p x i d then h else leastB p x i d
      | none => leastB p x i d := rfl
    have hat : endList p x (i + d) ≠ [] → r2[(begsUpto p x i d).length]? = some ((i : Int) + (d : Int)) := fun h => by
      rw [HRR.out, ← hcast]
      exact begs_at h (by omega)
    have hge : ∀ h, (endList p x (i + d))[0]? = some h → (i : Int) + (d : Int) ≤ h := fun h e => by rw [← hcast]; exact end_ge e
    have HE := hide (And.intro hbs (And.intro hls (And.intro hat hge)))
    have HCN := hide hcn
    have h64 : IsI64 ((i : Int) + (d : Int)) := ⟨by omega, by omega⟩
    have HC := hide (HEn.out ((i : Int) + (d : Int)) x sb sm wr h64 H6.out HX6.out HK.out.ip HS.out (HG.out _ HK.out.below).two)
    have ca := HK.out.bp.cell
    simp only [Po.cells] at ca
    clear hbs hls hat hge hxl hcast hcn hask h64
    go_wp2_with fail
    refine HC.out.mono ?_
    rintro e z1 ⟨g3, v3, r3, rfl, hask3, ho3, hr3, _, hb⟩
    obtain rfl : g3 = none := hask3.eq HA0.out
    have er3 : r3 = endList p x (i + d) := by have := hr3 rfl; rwa [HCN.out] at this
    subst er3
    generalize endList p x (i + d) = E at *
    obtain ⟨A3, c3, rfl, hl3, hc3⟩ := ho3.form
    replace HK := hide (HK.out.next hb)
    replace HS := hide (HS.out.below hb)
    replace HO2 := hide (HO2.out.below hb (Nat.le_refl _))
    clear hb ca cv hask3 hr3 ho3 HC HA0 HCN
    generalize begsUpto p x i d = B at *
    generalize leastB p x i d = M at *
    simp only [walkErr]
    cases E with
    | nil =>
      have he1 : (begsUpto p x i (d + 1)) = B := by rw [HE.out.1]; simp
      have he2 : leastB p x i (d + 1) = M := by rw [HE.out.2.1]; rfl
      have HE2 := hide (And.intro he1 he2)
      clear he1 he2 HE hc3
      go_wp2_with fail
      go_roundw
      case rel => exact ⟨d + 1, by rw [HE2.out.2], by rw [HE2.out.1], by go_num, by omega, HK.out, HS.out, HO2.out⟩
      case measure => simp [intOf]; omega
    | cons z E =>
      obtain ⟨gl, rfl, _, _, cl⟩ := hc3 0 z rfl
      have hz := HE.out.2.2.2 z rfl
      have hr := HE.out.2.2.1 (by simp)
      have hkl : B.length < r2.length := (List.getElem?_eq_some_iff.1 hr).1
      obtain ⟨A4, c4, e4, _, hc4⟩ := HO2.out.form
      injection e4 with e4 _ e5
      subst e4
      subst e5
      obtain ⟨gl2, rfl, _, _, cl2⟩ := hc4 _ _ hr
      have he1 : begsUpto p x i (d + 1) = B ++ [((i + d : Nat) : Int)] := by rw [HE.out.1]; simp
      have he2 : leastB p x i (d + 1) = if M < 0 ∨ z < M then z else M := by rw [HE.out.2.1]; rfl
      have HE2 := hide (And.intro he1 he2)
      have hpos : 0 < (z :: E).length := by simp
      have hel : (((z :: E).length : Int) == 0) = false := beq_false_of_ne (by omega)
      generalize z :: E = E2 at *
      have gk : decide ((B.length : Int) ≥ (r2.length : Int)) = false := decide_eq_false (by omega)
      have gi : ((i : Int) + (d : Int) != (i : Int) + (d : Int)) = false := bne_self_eq_false _
      have gz : decide (z < (i : Int) + (d : Int)) = false := decide_eq_false (by omega)
      clear he1 he2 HE hc3 hc4 hr
      by_cases h1 : M < 0
      · have g2 : decide (M < 0) = true := decide_eq_true h1
        go_wp2_with fail
        go_roundw
        case rel => first | exact ⟨d + 1, by rw [HE2.out.2, if_pos (.inl h1)], by rw [HE2.out.1, List.length_append]; go_num, by go_num, by omega, HK.out, HS.out, HO2.out⟩ | exact ⟨_, _, _, _, ⟨d + 1, by rw [HE2.out.2, if_pos (.inl h1)], by rw [HE2.out.1, List.length_append]; go_num, by go_num, by omega, HK.out, HS.out, HO2.out⟩, rfl, rfl, rfl, rfl⟩
        case measure => simp [intOf]; omega
      · have g2 : decide (M < 0) = false := decide_eq_false h1
        by_cases h3 : z < M
        · have g3 : decide (z < M) = true := decide_eq_true h3
          go_wp2_with fail
          go_roundw
          case rel => first | exact ⟨d + 1, by rw [HE2.out.2, if_pos (.inr h3)], by rw [HE2.out.1, List.length_append]; go_num, by go_num, by omega, HK.out, HS.out, HO2.out⟩ | exact ⟨_, _, _, _, ⟨d + 1, by rw [HE2.out.2, if_pos (.inr h3)], by rw [HE2.out.1, List.length_append]; go_num, by go_num, by omega, HK.out, HS.out, HO2.out⟩, rfl, rfl, rfl, rfl⟩
          case measure => simp [intOf]; omega
        · have g3 : decide (z < M) = false := decide_eq_false h3
          go_wp2_with fail
          go_roundw
          case rel => first | exact ⟨d + 1, by rw [HE2.out.2, if_neg (by omega)], by rw [HE2.out.1, List.length_append]; go_num, by go_num, by omega, HK.out, HS.out, HO2.out⟩ | exact ⟨_, _, _, _, ⟨d + 1, by rw [HE2.out.2, if_neg (by omega)], by rw [HE2.out.1, List.length_append]; go_num, by go_num, by omega, HK.out, HS.out, HO2.out⟩, rfl, rfl, rfl, rfl⟩
          case measure => simp [intOf]; omega
end Go.Proofs.YtlomjepemnlliaaDoor
