/- trawlref18.Starts, Any. (Printed by gen_refstarts18.py.) -/
import Derived.Test.YtlomjepemnlliaaDoorRef18
import Derived.Test.YtlomjepemnlliaaDoorBack18
set_option linter.unusedSimpArgs false
set_option linter.unusedVariables false
namespace Go.Proofs.YtlomjepemnlliaaDoor
open Go.RowKit

/-- The places in the first k at which a piece begins, as the document tells them. -/
def begsUpto (p : Po) (x : Sc) (a k : Nat) : List Int := ((List.range k).filter fun d => decide (endList p x (a + d) ≠ [])).map fun d => ((a + d : Nat) : Int)
theorem begsUpto_succ (p : Po) (x : Sc) (a k : Nat) : begsUpto p x a (k + 1) = begsUpto p x a k ++ if endList p x (a + k) ≠ [] then [((a + k : Nat) : Int)] else [] := by
  unfold begsUpto
  rw [List.range_succ, List.filter_append, List.map_append]
  by_cases h : endList p x (a + k) = [] <;> simp [h]
theorem begsUpto_len (p : Po) (x : Sc) (a k : Nat) : (begsUpto p x a k).length ≤ k := by
  unfold begsUpto
  rw [List.length_map]
  have := List.length_filter_le (fun d => decide (endList p x (a + d) ≠ [])) (List.range k)
  simpa using this
theorem begs_all {p : Po} {x : Sc} (hok : p.Ok) {a : Nat} (ha : a ≤ x.len) : begsUpto p x a (x.len + 1 - a) = startList p x a := by
  unfold begsUpto startList
  congr 1
  refine List.filter_congr fun d hd => ?_
  rw [List.mem_range] at hd
  rw [Bool.eq_iff_iff, decide_eq_true_iff]
  exact (startAt_iff hok (by omega)).symm

set_option maxRecDepth 100000 in
set_option maxHeartbeats 4000000 in
theorem refStarts18_any (p : Po) (pa : PoA) (x : Sc) (cf ef : Int) (i : Nat) (w : World) (hr : RefSc x cf ef) (hi : i ≤ x.text.size) (hx6 : x.text.size < 900000) (hn6 : p.sets.length < 1000000) (hwf : p.wf) (hok : p.Ok) (hin : PoIn (· < w.heap.size) w p pa) :
    Calls Tryd.prog 23 #[.agg (p.cells pa).toArray, .agg #[.string x.text, .int .i64 cf, .int .i64 ef, .bool false], .int .i64 i] w (ListIs (startList p x i) w) := by
  have HEn := hide (fun (d : Nat) (y : World) (hd : i + d ≤ x.text.size) (hy : Below w.heap.size w y) => refEnds18_any p pa x cf ef (i + d) y hr hd hx6 hn6 hwf hok (hin.next hy))
  have HOK := hide hok
  clear hr hwf hok hin
  simp only [Po.cells] at HEn ⊢
  have hbp := (Blk.new w 26 #[.slice pa.s p.sets.length pa.cs, .int .i64 p.null, .slice pa.f p.first.length pa.cf, .slice pa.l p.last.length pa.cl, .slice pa.w p.follow.length pa.cw]).alloc (.cells #[.string x.text, .int .i64 cf, .int .i64 ef, .bool false] 34)
  have hbs := Blk.new (w.alloc (.cells #[.slice pa.s p.sets.length pa.cs, .int .i64 p.null, .slice pa.f p.first.length pa.cf, .slice pa.l p.last.length pa.cl, .slice pa.w p.follow.length pa.cw] 26)) 34 #[.string x.text, .int .i64 cf, .int .i64 ef, .bool false]
  rw [World.size_alloc] at hbs
  have hbel := ((Below.refl w.heap.size w).alloc (Nat.le_refl _) (.cells #[.slice pa.s p.sets.length pa.cs, .int .i64 p.null, .slice pa.f p.first.length pa.cf, .slice pa.l p.last.length pa.cl, .slice pa.w p.follow.length pa.cw] 26)).alloc (by simp) (.cells #[.string x.text, .int .i64 cf, .int .i64 ef, .bool false] 34)
  have H0 := hide (And.intro hbp (And.intro hbs hbel))
  clear hbp hbs hbel
  go_enter Tryd.func23, Tryd.ntmps23
  go_wp2_with fail
  generalize ((w.alloc (.cells #[.slice pa.s p.sets.length pa.cs, .int .i64 p.null, .slice pa.f p.first.length pa.cf, .slice pa.l p.last.length pa.cl, .slice pa.w p.follow.length pa.cw] 26)).alloc (.cells #[.string x.text, .int .i64 cf, .int .i64 ef, .bool false] 34)) = W0 at *
  go_loopw [7, 8] (fun lv iv wr => ∃ (d : Nat), iv = .int .i64 ((i : Int) + (d : Int)) ∧ i + d ≤ x.text.size + 1 ∧ OwnInts w.heap.size wr lv (begsUpto p x i d) ∧ Blk wr w.heap.size 26 #[.slice pa.s p.sets.length pa.cs, .int .i64 p.null, .slice pa.f p.first.length pa.cf, .slice pa.l p.last.length pa.cl, .slice pa.w p.follow.length pa.cw] ∧ Blk wr (w.heap.size + 1) 34 #[.string x.text, .int .i64 cf, .int .i64 ef, .bool false] ∧ Below w.heap.size w wr) (fun _ iv _ => x.text.size + 1 - (intOf iv).toNat)
  case atStart => exact ⟨0, by simp, by omega, OwnInts.nil _ _, H0.out⟩
  case round =>
    clear H0
    obtain ⟨d, rfl, hd, hown, hbp, hbs, hbel⟩ := hrel
    have cs := hbs.cell
    by_cases hlt : i + d ≤ x.text.size
    case neg =>
      have g1 : decide ((i : Int) + (d : Int) ≤ (x.text.size : Int)) = false := decide_eq_false (by omega)
      have hlist : begsUpto p x i d = startList p x i := by rw [← begs_all HOK.out hi, show x.len + 1 - i = d by have : x.len = x.text.size := rfl; omega]
      rw [hlist] at hown
      have HF := hide (And.intro hown hbel)
      clear hown hbel hbp hbs
      go_wp2_with fail
      go_ret
      exact ⟨_, rfl, HF.out.1, HF.out.2⟩
    have g1 : decide ((i : Int) + (d : Int) ≤ (x.text.size : Int)) = true := decide_eq_true (by omega)
    have hcast : ((i + d : Nat) : Int) = (i : Int) + (d : Int) := by omega
    have HE1 := hide (HEn.out d wr hlt hbel)
    rw [hcast] at HE1
    have cp := hbp.cell
    have hes := begsUpto_succ p x i d
    rw [hcast] at hes
    have hel := begsUpto_len p x i d
    generalize endList p x (i + d) = E at *
    have HH := hide (And.intro hown (And.intro hbp (And.intro hbs (And.intro hbel hes))))
    clear hown hbp hbs hbel hes
    go_wp2_with fail
    refine HE1.out.mono ?_
    rintro e w2 ⟨v2, rfl, ho2, hb⟩
    have hz2 := hb.size
    obtain ⟨A2, c2, rfl, hl2, _⟩ := ho2.form
    have H2 := hide (And.intro (HH.out.1.below hb (Nat.le_refl _)) (And.intro (HH.out.2.1.nxt hb) (And.intro (HH.out.2.2.1.nxt hb) (HH.out.2.2.2.1.trans (hb.mono HH.out.2.2.2.1.size)))))
    have HES := hide HH.out.2.2.2.2
    clear hb ho2 HE1 cs cp HH
    cases E with
    | nil =>
      have he2 : begsUpto p x i (d + 1) = begsUpto p x i d := by rw [HES.out]; simp
      have HE2 := hide he2
      clear he2
      go_wp2_with fail
      go_roundw
      case rel => exact ⟨d + 1, by go_num, by omega, by rw [HE2.out]; exact H2.out.1, H2.out.2⟩
      case measure => simp [intOf]; omega
    | cons z E =>
      have hpos : 0 < (z :: E).length := by simp
      have he2 : begsUpto p x i (d + 1) = begsUpto p x i d ++ [(i : Int) + (d : Int)] := by rw [HES.out]; simp
      have HE2 := hide he2
      generalize z :: E = E2 at *
      have hgt : decide ((E2.length : Int) > 0) = true := decide_eq_true (by omega)
      have hal := (Below.refl w2.heap.size w2).alloc (Nat.le_refl _) (.cells #[.int .i64 ((i : Int) + (d : Int))] 3)
      have hoA := hide (H2.out.1.below hal (Nat.le_refl _))
      have hlen : (begsUpto p x i d).length < 1000000 := by omega
      have hw2s := H2.out.2.2.2.size
      clear he2 HES
      go_wp2_with (at_builtin; refine wpList_push_int rfl _ _ rfl w.heap.size _ _ rfl hoA.out ((i : Int) + (d : Int)) w2.heap.size 1 rfl (Blk.new _ _ _) hlen (by simp; omega) ?_)
      intro v' w5 hown5 hg5 hv5
      have hb5 : Below w.heap.size w w5 := below_grew (H2.out.2.2.2.alloc (by omega) (.cells #[.int .i64 ((i : Int) + (d : Int))] 3)) hg5 (Nat.le_refl _) (fun g hg => (World.ownsRow.lt H2.out.1 g hg).1)
      have H5 := hide (And.intro hown5 (And.intro (H2.out.2.1.grew (by decide) H2.out.1 hg5) (And.intro (H2.out.2.2.1.grew (by decide) H2.out.1 hg5) hb5)))
      clear hown5 hg5 hb5 hv5 hoA hal
      go_wp2_with fail
      go_roundw
      case rel => exact ⟨d + 1, by go_num, by omega, by rw [HE2.out]; exact H5.out.1, H5.out.2⟩
      case measure => simp [intOf]; omega

set_option maxRecDepth 100000 in
set_option maxHeartbeats 4000000 in
theorem refAny18_any (p : Po) (pa : PoA) (x : Sc) (cf ef : Int) (i : Nat) (w : World) (hr : RefSc x cf ef) (hi : i ≤ x.text.size) (hx6 : x.text.size < 900000) (hn6 : p.sets.length < 1000000) (hwf : p.wf) (hok : p.Ok) (hin : PoIn (· < w.heap.size) w p pa) :
    Calls Tryd.prog 22 #[.agg (p.cells pa).toArray, .agg #[.string x.text, .int .i64 cf, .int .i64 ef, .bool false], .int .i64 i] w fun e w' => e = .returned (.int .i64 (leastB p x i (x.len + 1 - i))) ∧ Below w.heap.size w w' := by
  have HEn := hide (fun (d : Nat) (y : World) (hd : i + d ≤ x.text.size) (hy : Below w.heap.size w y) => refEnds18_any p pa x cf ef (i + d) y hr hd hx6 hn6 hwf hok (hin.next hy))
  have HOK := hide hok
  clear hr hwf hok hin
  simp only [Po.cells] at HEn ⊢
  have hbp := (Blk.new w 26 #[.slice pa.s p.sets.length pa.cs, .int .i64 p.null, .slice pa.f p.first.length pa.cf, .slice pa.l p.last.length pa.cl, .slice pa.w p.follow.length pa.cw]).alloc (.cells #[.string x.text, .int .i64 cf, .int .i64 ef, .bool false] 34)
  have hbs := Blk.new (w.alloc (.cells #[.slice pa.s p.sets.length pa.cs, .int .i64 p.null, .slice pa.f p.first.length pa.cf, .slice pa.l p.last.length pa.cl, .slice pa.w p.follow.length pa.cw] 26)) 34 #[.string x.text, .int .i64 cf, .int .i64 ef, .bool false]
  rw [World.size_alloc] at hbs
  have hbel := ((Below.refl w.heap.size w).alloc (Nat.le_refl _) (.cells #[.slice pa.s p.sets.length pa.cs, .int .i64 p.null, .slice pa.f p.first.length pa.cf, .slice pa.l p.last.length pa.cl, .slice pa.w p.follow.length pa.cw] 26)).alloc (by simp) (.cells #[.string x.text, .int .i64 cf, .int .i64 ef, .bool false] 34)
  have H0 := hide (And.intro hbp (And.intro hbs hbel))
  clear hbp hbs hbel
  go_enter Tryd.func22, Tryd.ntmps22
  go_wp2_with fail
  generalize ((w.alloc (.cells #[.slice pa.s p.sets.length pa.cs, .int .i64 p.null, .slice pa.f p.first.length pa.cf, .slice pa.l p.last.length pa.cl, .slice pa.w p.follow.length pa.cw] 26)).alloc (.cells #[.string x.text, .int .i64 cf, .int .i64 ef, .bool false] 34)) = W0 at *
  go_loopw [7, 8] (fun lv iv wr => ∃ (d : Nat), iv = .int .i64 ((i : Int) + (d : Int)) ∧ i + d ≤ x.text.size + 1 ∧ lv = .int .i64 (leastB p x i d) ∧ Blk wr w.heap.size 26 #[.slice pa.s p.sets.length pa.cs, .int .i64 p.null, .slice pa.f p.first.length pa.cf, .slice pa.l p.last.length pa.cl, .slice pa.w p.follow.length pa.cw] ∧ Blk wr (w.heap.size + 1) 34 #[.string x.text, .int .i64 cf, .int .i64 ef, .bool false] ∧ Below w.heap.size w wr) (fun _ iv _ => x.text.size + 1 - (intOf iv).toNat)
  case atStart => exact ⟨0, by simp, by omega, rfl, H0.out⟩
  case round =>
    clear H0
    obtain ⟨d, rfl, hd, rfl, hbp, hbs, hbel⟩ := hrel
    have cs := hbs.cell
    by_cases hlt : i + d ≤ x.text.size
    case neg =>
      have g1 : decide ((i : Int) + (d : Int) ≤ (x.text.size : Int)) = false := decide_eq_false (by omega)
      have hlist : x.len + 1 - i = d := by have : x.len = x.text.size := rfl; omega
      have HF := hide (And.intro hlist hbel)
      clear hlist hbel hbp hbs
      go_wp2_with fail
      go_ret
      exact ⟨by rw [HF.out.1]; rfl, HF.out.2⟩
    have g1 : decide ((i : Int) + (d : Int) ≤ (x.text.size : Int)) = true := decide_eq_true (by omega)
    have hcast : ((i + d : Nat) : Int) = (i : Int) + (d : Int) := by omega
    have HE1 := hide (HEn.out d wr hlt hbel)
    rw [hcast] at HE1
    have cp := hbp.cell
    have hes : leastB p x i (d + 1) = match (endList p x (i + d))[0]? with
      | some h => if leastB p x i d < 0 ∨ h < leastB p x i d then h else leastB p x i d
      | none => leastB p x i d := rfl
    generalize endList p x (i + d) = E at *
    generalize leastB p x i d = L at *
    have HH := hide (And.intro hbp (And.intro hbs (And.intro hbel hes)))
    clear hbp hbs hbel hes
    go_wp2_with fail
    refine HE1.out.mono ?_
    rintro e w2 ⟨v2, rfl, ho2, hb⟩
    have hz2 := hb.size
    obtain ⟨A2, c2, rfl, hl2, hc2⟩ := ho2.form
    have H2 := hide (And.intro (HH.out.1.nxt hb) (And.intro (HH.out.2.1.nxt hb) (HH.out.2.2.1.trans (hb.mono HH.out.2.2.1.size))))
    have HES := hide HH.out.2.2.2
    clear hb ho2 HE1 cs cp HH
    cases E with
    | nil =>
      have he2 : leastB p x i (d + 1) = L := by rw [HES.out]; rfl
      have HE2 := hide he2
      clear he2 hc2 HES
      go_wp2_with fail
      go_roundw
      case rel => exact ⟨d + 1, by go_num, by omega, by rw [HE2.out], H2.out⟩
      case measure => simp [intOf]; omega
    | cons z E =>
      obtain ⟨gl, rfl, _, _, cl⟩ := hc2 0 z rfl
      have he2 : leastB p x i (d + 1) = if L < 0 ∨ z < L then z else L := by rw [HES.out]; rfl
      have HE2 := hide he2
      have hpos : 0 < (z :: E).length := by simp
      generalize z :: E = E2 at *
      have hgt : decide ((E2.length : Int) > 0) = true := decide_eq_true (by omega)
      clear he2 HES hc2
      by_cases h1 : L < 0
      · have g2 : decide (L < 0) = true := decide_eq_true h1
        go_wp2_with fail
        go_roundw
        case rel => exact ⟨d + 1, by go_num, by omega, by rw [HE2.out, if_pos (.inl h1)], H2.out⟩
        case measure => simp [intOf]; omega
      · have g2 : decide (L < 0) = false := decide_eq_false h1
        by_cases h3 : z < L
        · have g3 : decide (z < L) = true := decide_eq_true h3
          go_wp2_with fail
          go_roundw
          case rel => exact ⟨d + 1, by go_num, by omega, by rw [HE2.out, if_pos (.inr h3)], H2.out⟩
          case measure => simp [intOf]; omega
        · have g3 : decide (z < L) = false := decide_eq_false h3
          go_wp2_with fail
          go_roundw
          case rel => exact ⟨d + 1, by go_num, by omega, by rw [HE2.out, if_neg (by omega)], H2.out⟩
          case measure => simp [intOf]; omega
end Go.Proofs.YtlomjepemnlliaaDoor
