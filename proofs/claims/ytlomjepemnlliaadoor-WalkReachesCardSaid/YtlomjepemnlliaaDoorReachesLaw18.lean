/- trawllaw18.WalkReaches: it returns true, and what was there stays. -/
import Derived.Test.YtlomjepemnlliaaDoorGluWalk
import Derived.Test.YtlomjepemnlliaaDoorLives18
import Derived.Test.YtlomjepemnlliaaDoorSceneNew
import Derived.Test.YtlomjepemnlliaaDoorFew
import Derived.Test.YtlomjepemnlliaaDoorRefAll
import Derived.Test.YtlomjepemnlliaaDoorNum
set_option linter.unusedSimpArgs false
set_option linter.unusedVariables false
namespace Go.Proofs.YtlomjepemnlliaaDoor
open Go.RowKit

theorem Tryd.sizePositsR : (Tryd.prog.info? 26).map (·.size) = some 5 := by kernel_rfl
/-- What the walk keeps: the tree's box, the view's box. -/
structure VW (w : World) (gt gv : Nat) (cs vs : Array Value) (y : World) : Prop where
  below : Below w.heap.size w y
  box : Blk y gt 52 cs
  view : Blk y gv 28 vs
theorem VW.next {w y y' : World} {gt gv : Nat} {cs vs : Array Value} (h : VW w gt gv cs vs y) (hb : Below y.heap.size y y') : VW w gt gv cs vs y' := ⟨h.below.trans (hb.mono h.below.size), h.box.nxt hb, h.view.nxt hb⟩
theorem VW.grew {w y y' : World} {gt gv b : Nat} {cs vs : Array Value} (h : VW w gt gv cs vs y) (hgt : gt < b) (hgv : gv < b) (hwt : w.heap.size ≤ b) (hg : y.grownBy y' (some b)) : VW w gt gv cs vs y' :=
  ⟨below_grew h.below hg (Nat.le_refl _) (fun q hq => by rw [← Option.some.inj hq]; exact hwt), h.box.grown hg (fun e => by have := Option.some.inj e; omega), h.view.grown hg (fun e => by have := Option.some.inj e; omega)⟩

set_option maxRecDepth 100000 in
set_option maxHeartbeats 4000000 in
theorem reachesLaw18_true (t : T) (A : Option Addr) (c : Nat) (s : ByteArray) (cf ef q : Int) (w : World) (a : Nat → Addr) (hwf : t.wf) (hin : T.In w (· < w.heap.size) t A) (hs : s.size ≤ 140737488355328) (hcf : IsI64 cf) (hef : IsI64 ef) (hq : IsI64 q) (hE : Env w a) (hG : Errs w a) :
    Calls Tryd.prog 10 #[.agg (t.hd.cells (.slice A t.subs.length c)).toArray, .agg [.string s, .int .i64 cf, .int .i64 ef].toArray, .int .i64 q] w fun e w' => e = .returned (.bool true) ∧ Below w.heap.size w w' := by
  have hne := fun y ad => run_neq_iface_nil (P := Tryd.prog) (w := y) 37 (by kernel_rfl) 161 (.pointer (some ad))
  have hei := fun y ad => run_eql_iface_nil (P := Tryd.prog) (w := y) 37 (by kernel_rfl) 161 (.pointer (some ad))
  have hnn := fun y => run_neq_nil_nil_at (P := Tryd.prog) (w := y) 37 (by kernel_rfl)
  have hen := fun y => run_eql_nil_nil_at (P := Tryd.prog) (w := y) 37 (by kernel_rfl)
  have HG := hide (fun x (hx : Below w.heap.size w x) => hG.below hx)
  have HS := hide (fun y (hy : Below w.heap.size w y) g (hg : g ∈ [12, 13, 9]) => (hG.below hy).var g (by
    simp only [List.mem_cons, List.not_mem_nil, or_false] at hg
    omega))
  have HS2 := hide (fun y (hy : Below w.heap.size w y) g (hg : g ∈ [12, 14]) => (hG.below hy).var g (by
    simp only [List.mem_cons, List.not_mem_nil, or_false] at hg
    omega))
  have HEn := hide (fun y (hy : Below w.heap.size w y) => hE.below hy)
  have HIN := hide (fun x (hx : Below w.heap.size w x) => (hin.same (same_of_below hx) (fun y hy => Nat.lt_of_lt_of_le hy hx.size) : T.In x (· < x.heap.size) t A))
  have HL := hide (fun y (hy : Below w.heap.size w y) => lives18_true y a (HS2.out y hy))
  have HFw := hide (fun y (hy : Below w.heap.size w y) => few_any t A c 2000 y hwf (by decide) (by decide) (HIN.out y hy))
  have hnod := hide (fun h => few_nodes (t := t) (m := 2000) (by decide) h)
  have HSz := hide (fun y (hy : Below w.heap.size w y) (h : t.nodes ≤ 1000000) => refSizeAll_any t A c y h (HIN.out y hy))
  have HO := hide (fun y (hy : Below w.heap.size w y) (h : t.nodes ≤ 1000000) => posOfAll_any t A c y a h (HIN.out y hy) (HS.out y hy))
  have HR := hide (fun (x : Sc) (b m : Nat) y (hy : Below w.heap.size w y) (h : t.nodes ≤ 1000000) (hsc : Scn y b m x) => ends_any t A c q y a h hwf (HIN.out y hy) hsc (HEn.out y hy) hq)
  have hfl := fun h : t.check = none => T.exp_flat t (t.flat_of (T.check_none h).1 hwf)
  have hxn := fun h : t.check = none => T.exp_nodes t (T.check_none h).1 (T.check_none h).2
  have hxs := fun h : t.check = none => (T.check_none h).2
  have HNm := hide (fun y (hy : Below w.heap.size w y) (g : Nat) hg => num_err y a g hg (HG.out y hy))
  have HLo := hide (fun _ : True => t.exp.laid_ok)
  have HLw := hide (fun (h : t.check = none) => T.laid_wf (hfl h) (by have := hxn h; have := hxs h; omega))
  have HLd := hide (fun (h : t.check = none) => (show t.exp.laid.sets.length < 1000000 from by
    have h1 := t.exp.pos_len ⟨[], fun _ _ => 0⟩
    have h2 := hxn h
    have h3 := hxs h
    simp only [List.length_nil] at h1
    show t.exp.posOf.2.S.length < 1000000
    unfold T.posOf
    omega))
  have HWk := hide (fun p pa (x : Sc) sb sm y hwf hi hsc (hy : Below w.heap.size w y) h6 hx6 => walkEnds_any p pa x sb sm q a y hwf hi hsc (HS2.out y hy) hq h6 hx6)
  have HCG := hide t.check_lt
  have HAK := hide (fun x => asked_none (t := t) (x := x) (ps := [q]))
  have HAS := hide (fun x => (show ∀ g, t.check = some g → asked t x [q] = some g from fun g hg => by unfold asked; rw [hg]))
  have HES := hide (fun (x : Sc) (hm : ∀ i, x.mark i < 4) (h : t.check = none) (hq0 : q.toNat ≤ x.len) (hx : x.len ≤ 63) l (hl : EndsOf (t.R x) x.len q.toNat l) => ends_same hm (T.check_none h).1 hq0 hx hl)
  have HAL := hide (fun (x : Sc) => (show ∀ g, asked t x [q] = some g → ∃ ad, errOf a (some g) = .iface 161 (.pointer (some ad)) from fun g _ => ⟨a g, rfl⟩))
  unfold Made17 at HO
  unfold Ended at HR
  clear hfl hxn hxs hin hwf hE hG HIN HS HS2 HEn
  obtain ⟨q1, q2⟩ := hq
  obtain ⟨P, hP⟩ : ∃ P, P = t.exp.laid := ⟨_, rfl⟩
  rw [← hP] at HO HLo HLw HLd HES
  obtain ⟨ck, hck⟩ : ∃ ck, ck = t.check := ⟨_, rfl⟩
  rw [← hck] at HO HLw HLd HES HCG HAK HAS
  generalize hfs : t.fullSize = sz at HSz
  generalize hnd : t.nodes = nd at HSz HO HR hnod
  generalize has : asked t = ask at HR HAK HAS HAL
  clear hP hck hfs hnd has
  simp only [Hd.cells] at HFw HSz HO HR ⊢
  have hbel := ((Below.refl w.heap.size w).alloc (Nat.le_refl _) (.cells #[.int .i64 t.hd.kind, .int .u64 t.hd.s0, .int .u64 t.hd.s1, .int .u64 t.hd.s2, .int .u64 t.hd.s3, .slice A t.subs.length c, .int .i64 t.hd.num, .int .i64 t.hd.min, .int .i64 t.hd.max, .bool t.hd.bare] 52)).alloc (by simp) (.cells #[.string s, .int .i64 cf, .int .i64 ef] 28)
  have hbt := (Blk.new w 52 #[.int .i64 t.hd.kind, .int .u64 t.hd.s0, .int .u64 t.hd.s1, .int .u64 t.hd.s2, .int .u64 t.hd.s3, .slice A t.subs.length c, .int .i64 t.hd.num, .int .i64 t.hd.min, .int .i64 t.hd.max, .bool t.hd.bare]).alloc (.cells #[.string s, .int .i64 cf, .int .i64 ef] 28)
  have hbv := Blk.new (w.alloc (.cells #[.int .i64 t.hd.kind, .int .u64 t.hd.s0, .int .u64 t.hd.s1, .int .u64 t.hd.s2, .int .u64 t.hd.s3, .slice A t.subs.length c, .int .i64 t.hd.num, .int .i64 t.hd.min, .int .i64 t.hd.max, .bool t.hd.bare] 52)) 28 #[.string s, .int .i64 cf, .int .i64 ef]
  rw [World.size_alloc] at hbv
  have H0 := hide (VW.mk hbel hbt hbv)
  clear hbel hbt hbv
  go_enter Tryd.func10, Tryd.ntmps10
  go_wp2_with fail
  generalize ((w.alloc (.cells #[.int .i64 t.hd.kind, .int .u64 t.hd.s0, .int .u64 t.hd.s1, .int .u64 t.hd.s2, .int .u64 t.hd.s3, .slice A t.subs.length c, .int .i64 t.hd.num, .int .i64 t.hd.min, .int .i64 t.hd.max, .bool t.hd.bare] 52)).alloc (.cells #[.string s, .int .i64 cf, .int .i64 ef] 28)) = W0 at *
  refine (HL.out _ H0.out.below).mono ?_
  rintro e w1 ⟨rfl, hb⟩
  have H1 := hide (H0.out.next hb)
  clear hb HL H0
  have c1 := H1.out.box.cell
  have v1 := H1.out.view.cell
  go_wp2_with fail
  refine (HFw.out _ H1.out.below).mono ?_
  rintro e w2 ⟨rfl, hb⟩
  have H2 := hide (H1.out.next hb)
  clear hb HFw H1 c1 v1
  have c2 := H2.out.box.cell
  have v2 := H2.out.view.cell
  generalize hfew : decide (0 ≤ t.left 2000) = few at *
  cases few with
  | false =>
    clear hfew hnod
    go_wp2_with fail
    go_ret
    exact ⟨rfl, H2.out.below⟩
  | true =>
    have hN := hnod.out (by first | rfl | trivial)
    have hN2 : nd ≤ 1000000 := by omega
    clear hnod hfew hN
    go_wp2_with fail
    refine (HSz.out w2 H2.out.below hN2).mono ?_
    rintro e w3 ⟨rfl, hb⟩
    have H3 := hide (H2.out.next hb)
    clear hb HSz H2 c2 v2
    have c3 := H3.out.box.cell
    have v3 := H3.out.view.cell
    by_cases h4 : 300 < sz
    · have e4 : decide (300 < sz) = true := decide_eq_true h4
      go_wp2_with fail
      go_ret
      exact ⟨rfl, H3.out.below⟩
    have e4 : decide (300 < sz) = false := decide_eq_false h4
    by_cases h6 : 63 < s.size
    · have e6 : decide ((63 : Int) < (s.size : Int)) = true := decide_eq_true (by omega)
      go_wp2_with fail
      go_ret
      exact ⟨rfl, H3.out.below⟩
    have e6 : decide ((63 : Int) < (s.size : Int)) = false := decide_eq_false (by omega)
    go_wp2_with fail
    refine (new_any s cf ef w3 hs).mono ?_
    rintro e w4 ⟨b, m, x, rfl, hscn, hxt, _, _, _, hb⟩
    have hxl : x.len ≤ 63 := by
      have : x.len = s.size := by rw [← hxt]; rfl
      omega
    have H4 := hide (And.intro (H3.out.next hb) hscn)
    clear hb H3 c3 v3 hscn hxt
    have c4 := H4.out.1.box.cell
    go_wp2_with fail
    refine (HO.out w4 H4.out.1.below hN2).mono ?_
    rintro e w5 hm
    cases ck with
    | some g =>
      have hm2 : e = .returned (.tuple #[.agg #[.slice none 0 0, .int .i64 0, .slice none 0 0, .slice none 0 0, .slice none 0 0], errV (a g)]) ∧ Below w4.heap.size w4 w5 := by
        rcases hm with ⟨g', h1, h2, h3⟩ | ⟨h, _⟩
        · obtain rfl := Option.some.inj h1
          exact ⟨h2, h3⟩
        · cases h
      obtain ⟨rfl, hb⟩ := hm2
      have H5 := hide (And.intro (H4.out.1.next hb) (H4.out.2.below hb))
      clear hb hm HO H4 c4
      have hg21 := HCG.out g rfl
      have hask := HAS.out x g rfl
      have hbp := Blk.new w5 26 #[.slice none 0 0, .int .i64 0, .slice none 0 0, .slice none 0 0, .slice none 0 0]
      have hal := (Below.refl w5.heap.size w5).alloc (Nat.le_refl _) (.cells #[.slice none 0 0, .int .i64 0, .slice none 0 0, .slice none 0 0, .slice none 0 0] 26)
      go_wp2_with (refine wpList_store_row rfl _ _ _ rfl w5.heap.size 0 _ _ _ rfl rfl hbp Tryd.sizePositsR (by simp) (by simp [Value.oneCell']) ?_)
      intro w6 _ hg6 _
      have hb6 := below_grew hal hg6 (Nat.le_refl _) (fun q hq => by rw [← Option.some.inj hq]; exact Nat.le_refl _)
      have H6 := hide (And.intro (H5.out.1.next hb6) (H5.out.2.below hb6))
      clear hg6 hal hbp H5 hb6
      have c6 := H6.out.1.box.cell
      go_wp2_with fail
      refine (HR.out x b m w6 H6.out.1.below hN2 H6.out.2).mono ?_
      rintro e w7 ⟨v, r, rfl, _, _, _, hb⟩
      have H7 := hide (H6.out.1.next hb)
      clear hb HR H6 c6
      rw [hask]
      simp only [errOf, errV]
      go_wp2_with fail
      refine (HNm.out w7 H7.out.below g hg21).mono ?_
      rintro e w9 ⟨rfl, hb⟩
      have H9 := hide (H7.out.next hb)
      clear hb H7
      go_wp2_with fail
      refine (HNm.out w9 H9.out.below g hg21).mono ?_
      rintro e w10 ⟨rfl, hb⟩
      have H10 := hide (H9.out.next hb)
      clear hb H9
      go_wp2_with fail
      go_ret
      exact ⟨rfl, H10.out.below⟩
    | none =>
      have hm2 : ∃ sv v1 v2 fv vs, e = .returned (.tuple #[.agg #[sv, .int .i64 P.null, v1, v2, fv], .nilIface]) ∧ OwnPo w4.heap.size P sv v1 v2 fv vs w5 ∧ Below w4.heap.size w4 w5 := by
        rcases hm with ⟨g', h1, h2, h3⟩ | ⟨_, h⟩
        · cases h1
        · exact h
      obtain ⟨sv, v1, v2, fv, vs, rfl, hown, hb⟩ := hm2
      obtain ⟨pa, hpa, hpi⟩ := hown.in_
      have hpi5 : PoIn (· < w5.heap.size) w5 P pa := hpi.same (Same.refl _ _) fun b hb => hb.2
      have H5 := hide (And.intro (H4.out.1.next hb) (And.intro (H4.out.2.below hb) hpi5))
      clear hb hm HO H4 c4 hown hpi hpi5
      simp only [Po.cells] at hpa
      injection hpa with hpa
      injection hpa with e1 hpa
      injection hpa with _ hpa
      injection hpa with e2 hpa
      injection hpa with e3 hpa
      injection hpa with e4 _
      subst e1 e2 e3 e4
      have HLd' := hide (HLd.out rfl)
      have HLw' := hide (HLw.out rfl)
      have HLo' := hide (HLo.out trivial)
      clear HLd HLw HLo HCG HNm HAS HAL
      have hbp := Blk.new w5 26 #[.slice none 0 0, .int .i64 0, .slice none 0 0, .slice none 0 0, .slice none 0 0]
      have hal := (Below.refl w5.heap.size w5).alloc (Nat.le_refl _) (.cells #[.slice none 0 0, .int .i64 0, .slice none 0 0, .slice none 0 0, .slice none 0 0] 26)
      go_wp2_with (refine wpList_store_row rfl _ _ _ rfl w5.heap.size 0 _ _ _ rfl rfl hbp Tryd.sizePositsR (by simp) (by simp [Value.oneCell']) ?_)
      intro w6 hrow hg6 _
      have hrow6 := hrow.out
      rw [splice_full (by rfl)] at hrow6
      have hb6 := below_grew hal hg6 (Nat.le_refl _) (fun q hq => by rw [← Option.some.inj hq]; exact Nat.le_refl _)
      have H6 := hide (And.intro (H5.out.1.next hb6) (And.intro (H5.out.2.1.below hb6) (And.intro (H5.out.2.2.next hb6) hrow6)))
      clear hg6 hal hbp H5 hb6 hrow6 hrow
      have c6 := H6.out.1.box.cell
      go_wp2_with fail
      refine (HR.out x b m w6 H6.out.1.below hN2 H6.out.2.1).mono ?_
      rintro e w7 ⟨v, r, rfl, hov, hen1, _, hb⟩
      have H7 := hide (And.intro (H6.out.1.next hb) (And.intro (H6.out.2.1.below hb) (And.intro (H6.out.2.2.1.next hb) (And.intro (H6.out.2.2.2.nxt hb) hov))))
      clear hb HR H6 c6 hov
      cases hak : ask x [q] with
      | some g =>
        clear hen1 hak
        simp only [errOf, errV]
        go_wp2_with fail
        go_ret
        exact ⟨rfl, H7.out.1.below⟩
      | none =>
        have hA := (HAK.out x).1 hak
        have hq0 := hA.2.2 q (by simp)
        have HEn := hide (hen1 hak)
        clear hen1 hak hA
        simp only [errOf]
        have c7 := H7.out.2.2.2.1.cell
        simp only [Po.cells] at HWk
        go_wp2_with fail
        refine (HWk.out P pa x b m w7 HLw'.out H7.out.2.2.1 H7.out.2.1 H7.out.1.below (fun _ => HLd'.out) (by omega)).mono ?_
        rintro e w8 ⟨g, v8, r8, rfl, has, how8, hr8, _, hb⟩
        obtain rfl : g = none := by
          rcases has with ⟨_, h⟩ | ⟨_, _, h⟩ | ⟨h, _⟩
          · exact absurd HLo'.out h
          · omega
          · exact h
        have hr8' := hr8 rfl
        obtain ⟨rr, hrr⟩ : ∃ rr, rr = r := ⟨_, rfl⟩
        have heq : r8 = r := by
          rw [hr8']
          exact HES.out x H7.out.2.1.small (by first | trivial | rfl) (by omega) hxl r HEn.out
        have H8 := hide (And.intro (H7.out.1.next hb) (And.intro (H7.out.2.2.2.2.below hb (Nat.le_refl _)) how8))
        have HEQ := hide heq
        clear hb HWk H7 c7 has hr8 hr8' how8 heq hrr HEn HES
        simp only [walkErr]
        go_wp2_with fail
        refine (sameInts_any w8 H8.out.2.2 H8.out.2.1).mono ?_
        rintro e w9 ⟨rfl, hb⟩
        have H9 := hide (H8.out.1.next hb)
        have hde : decide (r8 = r) = true := decide_eq_true HEQ.out
        rw [hde]
        clear hb H8 hde HEQ
        go_wp2_with fail
        go_ret
        exact ⟨rfl, H9.out.below⟩
end Go.Proofs.YtlomjepemnlliaaDoor
