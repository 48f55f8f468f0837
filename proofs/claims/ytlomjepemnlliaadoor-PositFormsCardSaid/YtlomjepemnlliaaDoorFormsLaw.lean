/- trawllaw17.PositForms: it returns true, and what was there stays. -/
import Derived.Test.YtlomjepemnlliaaDoorLaidLaw
import Derived.Test.YtlomjepemnlliaaDoorPosChecksLaw
import Derived.Test.YtlomjepemnlliaaDoorFew
import Derived.Test.YtlomjepemnlliaaDoorRefAll
set_option linter.unusedSimpArgs false
set_option linter.unusedVariables false
namespace Go.Proofs.YtlomjepemnlliaaDoor
open Go.RowKit

theorem Tryd.sizePosits : (Tryd.prog.info? 26).map (·.size) = some 5 := by kernel_rfl
structure TW (w : World) (gt : Nat) (cs : Array Value) (y : World) : Prop where
  below : Below w.heap.size w y
  box : Blk y gt 52 cs
theorem TW.next {w y y' : World} {gt : Nat} {cs : Array Value} (h : TW w gt cs y) (hb : Below y.heap.size y y') : TW w gt cs y' := ⟨h.below.trans (hb.mono h.below.size), h.box.nxt hb⟩
theorem TW.grew {w y y' : World} {gt b : Nat} {cs : Array Value} (h : TW w gt cs y) (hgt : gt < b) (hwt : w.heap.size ≤ b) (hg : y.grownBy y' (some b)) : TW w gt cs y' :=
  ⟨below_grew h.below hg (Nat.le_refl _) (fun q hq => by rw [← Option.some.inj hq]; exact hwt), h.box.grown hg (fun e => by have := Option.some.inj e; omega)⟩

set_option maxRecDepth 100000 in
set_option maxHeartbeats 1000000 in
theorem posForms_true (t : T) (A : Option Addr) (c : Nat) (w : World) (a : Nat → Addr) (hwf : t.wf) (hin : T.In w (· < w.heap.size) t A) (hG : Errs w a) :
    Calls Tryd.prog 8 #[.agg (t.hd.cells (.slice A t.subs.length c)).toArray] w fun e w' => e = .returned (.bool true) ∧ Below w.heap.size w w' := by
  have hne := fun y ad => run_neq_iface_nil (P := Tryd.prog) (w := y) 37 (by kernel_rfl) 161 (.pointer (some ad))
  have hnn := fun y => run_neq_nil_nil_at (P := Tryd.prog) (w := y) 37 (by kernel_rfl)
  have hen := fun y => run_eql_nil_nil_at (P := Tryd.prog) (w := y) 37 (by kernel_rfl)
  have HG := hide (fun x (hx : Below w.heap.size w x) => hG.below hx)
  have HS := hide (fun y (hy : Below w.heap.size w y) g (hg : g ∈ [12, 13, 9]) => (hG.below hy).var g (by
    simp only [List.mem_cons, List.not_mem_nil, or_false] at hg
    omega))
  have HIN := hide (fun x (hx : Below w.heap.size w x) => (hin.same (same_of_below hx) (fun y hy => Nat.lt_of_lt_of_le hy hx.size) : T.In x (· < x.heap.size) t A))
  have HL := hide (fun y (hy : Below w.heap.size w y) => lives17_true y a (HS.out y hy))
  have HFw := hide (fun y (hy : Below w.heap.size w y) => few_any t A c 2500 y hwf (by decide) (by decide) (HIN.out y hy))
  have hnod := hide (fun h => few_nodes (t := t) (m := 2500) (by decide) h)
  have HSz := hide (fun y (hy : Below w.heap.size w y) (h : t.nodes ≤ 1000000) => refSizeAll_any t A c y h (HIN.out y hy))
  have HO := hide (fun y (hy : Below w.heap.size w y) (h : t.nodes ≤ 1000000) => posOfAll_any t A c y a h (HIN.out y hy) (HS.out y hy))
  have HX := hide (fun y (hy : Below w.heap.size w y) (h : t.nodes ≤ 1000000) => expand_any t A c y a h (HIN.out y hy) (HS.out y hy))
  have HFl := hide (fun h : t.check = none => T.exp_flat t (t.flat_of (T.check_none h).1 hwf))
  have HXn := hide (fun h : t.check = none => T.exp_nodes t (T.check_none h).1 (T.check_none h).2)
  have HXs := hide (fun h : t.check = none => (T.check_none h).2)
  have HNm := hide (fun y (hy : Below w.heap.size w y) (g : Nat) hg => num_err y a g hg (HG.out y hy))
  have HLo := hide (fun _ : True => t.exp.laid_ok)
  have HLw := hide (fun (h : t.check = none) (h2 : t.exp.nodes ≤ 1000000) => T.laid_wf (HFl.out h) h2)
  have HLd := hide (fun (h : t.check = none) => T.laid_dots (HFl.out h))
  have HCk := hide (fun p pa y hwf hi hy => posCheck_any p pa y a hwf hi (fun g hg => HS.out y hy g (by simp only [List.mem_cons, List.not_mem_nil, or_false] at hg ⊢; omega)))
  have HBy := hide (fun B c2 y (h2 : t.exp.nodes ≤ 1000000) hi => bytes17_any t.exp.nodes t.exp B c2 y (Nat.le_refl _) h2 hi)
  have hcg := t.check_lt
  unfold Made17 Expanded at *
  obtain ⟨ck, hck⟩ : ∃ ck, ck = t.check := ⟨_, rfl⟩
  rw [← hck] at HFl HXn HXs HO HX HLw HLd hcg
  clear hck hin hwf hG HIN HS HFl
  obtain ⟨P, hP⟩ : ∃ P, P = t.exp.laid := ⟨_, rfl⟩
  rw [← hP] at HO HLo HLw HLd
  obtain ⟨tx, htx⟩ : ∃ tx, tx = t.exp := ⟨_, rfl⟩
  rw [← htx] at HX HXn HLw HLd HBy
  clear hP htx
  have HCG := hide hcg
  clear hcg
  generalize hfs : t.fullSize = sz at HSz
  generalize hnd : t.nodes = nd at HSz HO HX hnod
  clear hfs hnd
  obtain ⟨h, l⟩ := t
  obtain ⟨kind, s0, s1, s2, s3, num, mn, mx, bare⟩ := h
  simp only [T.hd, T.subs, Hd.cells] at HFw HSz HO HX ⊢
  have H0 := hide (TW.mk ((Below.refl w.heap.size w).alloc (Nat.le_refl _) (.cells #[.int .i64 kind, .int .u64 s0, .int .u64 s1, .int .u64 s2, .int .u64 s3, .slice A l.length c, .int .i64 num, .int .i64 mn, .int .i64 mx, .bool bare] 52)) (Blk.new w 52 #[.int .i64 kind, .int .u64 s0, .int .u64 s1, .int .u64 s2, .int .u64 s3, .slice A l.length c, .int .i64 num, .int .i64 mn, .int .i64 mx, .bool bare]))
  go_enter Tryd.func8, Tryd.ntmps8
  go_wp2_with fail
  generalize (w.alloc (.cells #[.int .i64 kind, .int .u64 s0, .int .u64 s1, .int .u64 s2, .int .u64 s3, .slice A l.length c, .int .i64 num, .int .i64 mn, .int .i64 mx, .bool bare] 52)) = W0 at *
  refine (HL.out _ H0.out.below).mono ?_
  rintro e w1 ⟨rfl, hb⟩
  have H1 := hide (H0.out.next hb)
  clear hb HL H0
  have c1 := H1.out.box.cell
  go_wp2_with fail
  refine (HFw.out _ H1.out.below).mono ?_
  rintro e w2 ⟨rfl, hb⟩
  have H2 := hide (H1.out.next hb)
  clear hb HFw H1 c1
  have c2 := H2.out.box.cell
  generalize hfew : decide (0 ≤ (T.mk ⟨kind, s0, s1, s2, s3, num, mn, mx, bare⟩ l).left 2500) = few at *
  cases few with
  | false =>
    clear hfew hnod
    go_wp2_with fail
    go_ret
    exact ⟨rfl, H2.out.below⟩
  | true =>
    have hN := hnod.out (by first | rfl | trivial)
    have hN2 : nd ≤ 1000000 := by omega
    clear hnod hfew hN
    go_wp2_with fail
    refine (HSz.out w2 H2.out.below hN2).mono ?_
    rintro e w3 ⟨rfl, hb⟩
    have H3 := hide (H2.out.next hb)
    clear hb HSz H2 c2
    have c3 := H3.out.box.cell
    by_cases h4 : 400 < sz
    · have e4 : decide (400 < sz) = true := decide_eq_true h4
      go_wp2_with fail
      go_ret
      exact ⟨rfl, H3.out.below⟩
    have e4 : decide (400 < sz) = false := decide_eq_false h4
    go_wp2_with fail
    refine (HO.out w3 H3.out.below hN2).mono ?_
    rintro e w4 hm
    cases ck with
    | some g =>
      have hm2 : e = .returned (.tuple #[.agg #[.slice none 0 0, .int .i64 0, .slice none 0 0, .slice none 0 0, .slice none 0 0], errV (a g)]) ∧ Below w3.heap.size w3 w4 := by
        rcases hm with ⟨g', h1, h2, h3⟩ | ⟨h, _⟩
        · obtain rfl := Option.some.inj h1
          exact ⟨h2, h3⟩
        · cases h
      obtain ⟨rfl, hb⟩ := hm2
      have H4 := hide (H3.out.next hb)
      clear hb hm HO H3 c3
      have hg21 := HCG.out g rfl
      have hbp := Blk.new w4 26 #[.slice none 0 0, .int .i64 0, .slice none 0 0, .slice none 0 0, .slice none 0 0]
      have H5 := hide (H4.out.next ((Below.refl w4.heap.size w4).alloc (Nat.le_refl _) (.cells #[.slice none 0 0, .int .i64 0, .slice none 0 0, .slice none 0 0, .slice none 0 0] 26)))
      have hlt := H4.out.box.lt
      have hle := H4.out.below.size
      go_wp2_with (refine wpList_store_row rfl _ _ _ rfl w4.heap.size 0 _ _ _ rfl rfl hbp Tryd.sizePosits (by simp) (by simp [Value.oneCell']) ?_)
      intro w5 _ hg5 hz5
      have H6 := hide (H5.out.grew hlt hle hg5)
      clear hg5 hz5 H5 hbp H4
      have c6 := H6.out.box.cell
      go_wp2_with fail
      refine (HX.out w5 H6.out.below hN2).mono ?_
      rintro e w7 hm
      have hm2 : e = .returned (.tuple #[.agg #[.int .i64 0, .int .u64 0, .int .u64 0, .int .u64 0, .int .u64 0, .slice none 0 0, .int .i64 0, .int .i64 0, .int .i64 0, .bool false], errV (a g)]) ∧ Below w5.heap.size w5 w7 := by
        rcases hm with ⟨g', h1, h2, h3⟩ | ⟨h, _⟩
        · obtain rfl := Option.some.inj h1
          exact ⟨h2, h3⟩
        · cases h
      obtain ⟨rfl, hb⟩ := hm2
      have H7 := hide (H6.out.next hb)
      clear hb hm HX H6 c6
      have hbn := Blk.new w7 52 #[.int .i64 0, .int .u64 0, .int .u64 0, .int .u64 0, .int .u64 0, .slice none 0 0, .int .i64 0, .int .i64 0, .int .i64 0, .bool false]
      have H8 := hide (H7.out.next ((Below.refl w7.heap.size w7).alloc (Nat.le_refl _) (.cells #[.int .i64 0, .int .u64 0, .int .u64 0, .int .u64 0, .int .u64 0, .slice none 0 0, .int .i64 0, .int .i64 0, .int .i64 0, .bool false] 52)))
      have hlt2 := H7.out.box.lt
      have hle2 := H7.out.below.size
      go_wp2_with (refine wpList_store_row rfl _ _ _ rfl w7.heap.size 0 _ _ _ rfl rfl hbn Tryd.sizeNode (by simp) (by simp [Value.oneCell']) ?_)
      intro w8 _ hg8 hz8
      have H9 := hide (H8.out.grew hlt2 hle2 hg8)
      clear hg8 hz8 H8 hbn H7
      simp only [errV]
      go_wp2_with fail
      refine (HNm.out w8 H9.out.below g hg21).mono ?_
      rintro e w9 ⟨rfl, hb⟩
      have H10 := hide (H9.out.next hb)
      clear hb H9
      go_wp2_with fail
      refine (HNm.out w9 H10.out.below g hg21).mono ?_
      rintro e w10 ⟨rfl, hb⟩
      have H11 := hide (H10.out.next hb)
      clear hb H10
      go_wp2_with fail
      go_ret
      exact ⟨rfl, H11.out.below⟩
    | none =>
      have hm2 : ∃ sv v1 v2 fv vs, e = .returned (.tuple #[.agg #[sv, .int .i64 P.null, v1, v2, fv], .nilIface]) ∧ OwnPo w3.heap.size P sv v1 v2 fv vs w4 ∧ Below w3.heap.size w3 w4 := by
        rcases hm with ⟨g', h1, h2, h3⟩ | ⟨_, h⟩
        · cases h1
        · exact h
      obtain ⟨sv, v1, v2, fv, vs, rfl, hown, hb⟩ := hm2
      obtain ⟨pa, hpa, hpi⟩ := hown.in_
      have hpi4 : PoIn (· < w4.heap.size) w4 P pa := hpi.same (Same.refl _ _) fun b hb => hb.2
      have H4 := hide (H3.out.next hb)
      clear hb hm HO H3 c3 hown hpi
      simp only [Po.cells] at hpa
      injection hpa with hpa
      injection hpa with e1 hpa
      injection hpa with _ hpa
      injection hpa with e2 hpa
      injection hpa with e3 hpa
      injection hpa with e4 _
      subst e1 e2 e3 e4
      have hx2 : tx.nodes ≤ 1000000 := by have := HXn.out rfl; have := HXs.out rfl; omega
      have hLd := hide (HLd.out rfl)
      have hLw := HLw.out rfl hx2
      have hLo := HLo.out trivial
      clear HLd HLw HLo HXn HXs HCG HNm
      have hbp := Blk.new w4 26 #[.slice none 0 0, .int .i64 0, .slice none 0 0, .slice none 0 0, .slice none 0 0]
      have hal := (Below.refl w4.heap.size w4).alloc (Nat.le_refl _) (.cells #[.slice none 0 0, .int .i64 0, .slice none 0 0, .slice none 0 0, .slice none 0 0] 26)
      have H5 := hide (H4.out.next hal)
      have hpi5 := hpi4.next hal
      have hlt := H4.out.box.lt
      have hle := H4.out.below.size
      go_wp2_with (refine wpList_store_row rfl _ _ _ rfl w4.heap.size 0 _ _ _ rfl rfl hbp Tryd.sizePosits (by simp) (by simp [Value.oneCell']) ?_)
      intro w5 hrow hg5 hz5
      have hrow5 := hrow.out
      rw [splice_full (by rfl)] at hrow5
      have hpi6 : PoIn (· < w5.heap.size) w5 P pa := hpi4.same (fun b hb => (hg5.block b (by rw [World.size_alloc]; omega) (fun e => by have := Option.some.inj e; omega)).trans (hal.block b hb)) (fun b hb => by have := hg5.size; rw [World.size_alloc] at this; omega)
      have H6 := hide (And.intro (H5.out.grew hlt hle hg5) (And.intro hrow5 hpi6))
      clear hg5 hz5 H5 hbp H4 hrow hrow5 hpi6 hpi5 hpi4 hal
      have c6 := H6.out.1.box.cell
      go_wp2_with fail
      refine (HX.out w5 H6.out.1.below hN2).mono ?_
      rintro e w7 hm
      have hm2 : ∃ B c, e = .returned (.tuple #[.agg (tx.hd.cells (.slice B tx.subs.length c)).toArray, .nilIface]) ∧ T.In w7 (fun b => w5.heap.size ≤ b ∧ b < w7.heap.size) tx B ∧ Below w5.heap.size w5 w7 := by
        rcases hm with ⟨g', h1, h2, h3⟩ | ⟨_, h⟩
        · cases h1
        · exact h
      obtain ⟨B, cx, rfl, hxi, hb⟩ := hm2
      have hxi7 : T.In w7 (· < w7.heap.size) tx B := hxi.same (Same.refl _ _) fun b hb => hb.2
      have H7 := hide (And.intro (H6.out.1.next hb) (And.intro (H6.out.2.1.nxt hb) (H6.out.2.2.next hb)))
      clear hb hm HX H6 c6 hxi
      obtain ⟨hx, lx⟩ := tx
      obtain ⟨xk, x0, x1, x2, x3, xnum, xmn, xmx, xbare⟩ := hx
      have HBy' := HBy.out B cx
      clear HBy
      simp only [T.hd, T.subs, Hd.cells] at HBy' ⊢
      have HBy := hide HBy'
      clear HBy'
      rw [← hLd.out] at HBy
      have hbn := Blk.new w7 52 #[.int .i64 0, .int .u64 0, .int .u64 0, .int .u64 0, .int .u64 0, .slice none 0 0, .int .i64 0, .int .i64 0, .int .i64 0, .bool false]
      have hal := (Below.refl w7.heap.size w7).alloc (Nat.le_refl _) (.cells #[.int .i64 0, .int .u64 0, .int .u64 0, .int .u64 0, .int .u64 0, .slice none 0 0, .int .i64 0, .int .i64 0, .int .i64 0, .bool false] 52)
      have H8 := hide (And.intro (H7.out.1.next hal) (H7.out.2.1.nxt hal))
      have hlt2 := H7.out.1.box.lt
      have hle2 := H7.out.1.below.size
      have hlp := H7.out.2.1.lt
      go_wp2_with (refine wpList_store_row rfl _ _ _ rfl w7.heap.size 0 _ _ _ rfl rfl hbn Tryd.sizeNode (by simp) (by simp [Value.oneCell']) ?_)
      intro w8 hrow hg8 hz8
      have hrow8 := hrow.out
      rw [splice_full (by rfl)] at hrow8
      have hk8 : ∀ b, b < w7.heap.size → w8.heap[b]? = w7.heap[b]? := fun b hb => (hg8.block b (by rw [World.size_alloc]; omega) (fun e => by have := Option.some.inj e; omega)).trans (hal.block b hb)
      have hz8' : w7.heap.size ≤ w8.heap.size := by have := hg8.size; rw [World.size_alloc] at this; omega
      have hpi8 : PoIn (· < w8.heap.size) w8 P pa := H7.out.2.2.same hk8 (fun b hb => by omega)
      have hxi8 : T.In w8 (· < w8.heap.size) (.mk ⟨xk, x0, x1, x2, x3, xnum, xmn, xmx, xbare⟩ lx) B := hxi7.same hk8 (fun b hb => by omega)
      have hbp8 := H8.out.2.grown hg8 (fun e => by have := Option.some.inj e; omega)
      have H9 := hide (And.intro (H8.out.1.grew hlt2 hle2 hg8) (And.intro hpi8 hxi8))
      have hB8 := H9.out.1.below
      have q0 := fun (x : Later w8) => (hbp8.nxt x.2).cell
      have q1 := fun (x : Later w8) => (hrow8.nxt x.2).cell
      have HC := hide (fun (x : Later w8) => (HCk.out P pa x.val hLw (H9.out.2.1.next x.2) (hB8.trans (x.2.mono hB8.size))).mono (fun e w' h => (show e = .returned .nilIface ∧ Below x.val.heap.size x.val w' by
        obtain ⟨r, h1, h2, h3, h4⟩ := h
        rw [h2.2 hLo] at h1
        exact ⟨h1, h4⟩)))
      have HD := hide (fun (x : Later w8) => HBy.out x.val hx2 (T.In.next H9.out.2.2 x.2))
      simp only [Po.cells] at HC
      clear hal hg8 hz8 H8 hbn hrow hrow8 hk8 hz8' hpi8 hxi8 hbp8 H7 hxi7 HCk HBy hLw hLo hLd hB8
      go_upto_region 9 with fail
      refine wp_region_later (by kernel_rfl) (by kernel_rfl) ?_
      repeat (go_big_quiet_step (first | exact calls_later (HC.out _) | exact calls_later (HD.out _)))
      refine wpQuiet_nil ?_
      rintro w' ⟨x, rfl⟩
      have HF := hide (H9.out.1.below.trans (x.2.mono H9.out.1.below.size))
      clear q0 q1
      go_wp2_with fail
      go_ret
      exact ⟨rfl, HF.out⟩
end Go.Proofs.YtlomjepemnlliaaDoor
