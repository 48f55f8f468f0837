/- TagsLaw23: trawllaw23.PlanTags: for every tree true, and what was there stays. (Printed by gen_tagslaw23.py.)
PlanTagsProof: trawl/trawllaw23.PlanTags: for every tree, the call answers true, and what it was given reads afterwards as before; the program's variables lie as its text lays them (the card ties that). Conditions: those of the given card alone. (Printed by gen_card.py.) -/
import Derived.Test.YtbbhobojghmkpaaDoorLives23
import Derived.Test.YtbbhobojghmkpaaDoorRefTags23b
import Derived.Test.YtbbhobojghmkpaaDoorSames
import Derived.Test.YtbbhobojghmkpaaDoorRows
import Derived.Test.YtbbhobojghmkpaaDoorCards
import Derived.Test.YtbbhobojghmkpaaDoorTie
import Derived.Test.YtbbhobojghmkpaaDoorReads
import Derived.WalkKit
import Derived.ProofKit
import Derived.LaidMore
import Derived.OpenShut
import Derived.ChangeOld
import Derived.Below
import Derived.Stop.Joined
import Derived.SevenTiedAt
import Derived.MakeChecks
set_option linter.unusedSimpArgs false
set_option linter.unusedVariables false
set_option linter.unnecessarySimpa false

/-! ## TagsLaw23 -/
namespace Go.Proofs.YtbbhobojghmkpaaDoor
open Go.RowKit

mutual
theorem T.same_self23 : ∀ t : T, t.same t = true
  | .mk h l => by
    have hh : h.same h = true := by obtain ⟨k, a, b, c, d, n, i, x, f⟩ := h; simp [Hd.same]
    simp [T.same, hh, TL.same_self23 l]
theorem TL.same_self23 : ∀ l : List T, TL.same l l = true
  | [] => rfl
  | t :: l => by simp [TL.same, T.same_self23 t, TL.same_self23 l]
end
set_option maxRecDepth 100000 in
set_option maxHeartbeats 2000000 in
theorem tagsLaw_true (t : T) (A : Option Addr) (c : Nat) (w : World) (a : Nat → Addr) (hwf : t.wf) (hin : T.In w (· < w.heap.size) t A) (hE : Sent [0, 1, 2] w a) (hT : Tab w) :
    Calls Tryd.prog 5 #[.agg (t.hd.cells (.slice A t.subs.length c)).toArray] w fun e w' => e = .returned (.bool true) ∧ Below w.heap.size w w' := by
  have HLv := hide (fun (x : World) (hx : Below w.heap.size w x) => lives23_any x a (hT.below hx) (hE.below hx))
  have HI := hide (fun (x : World) (hx : Below w.heap.size w x) => hin.same (same_of_below hx) (fun y hy => Nat.lt_of_lt_of_le hy hx.size))
  have HFe := hide (fun (x : World) (hi : T.In x (· < x.heap.size) t A) => few_any t A c 2500 x hwf (by decide) (by decide) hi)
  have HSz := hide (fun (x : World) (hi : T.In x (· < x.heap.size) t A) => refSizeAll_gen t A c x (.inr hwf) hi)
  have HCp := hide (fun (hN : t.nodes ≤ 2500) (x : World) (hi : T.In x (· < x.heap.size) t A) => copyNode_any 2500 t A c x hN (by decide) hi)
  have HSm := hide (fun (hN : t.nodes ≤ 2500) (B : Option Addr) (d : Nat) (x : World) (hj : T.In x (· < x.heap.size) t B) (hi : T.In x (· < x.heap.size) t A) => T.same_self23 t ▸ same_any 2500 t t B A d c x hN (by decide) hj hi)
  have HTg := hide (fun (hN : t.nodes ≤ 2500) (B : Option Addr) (d : Nat) (x : World) (hx : Below w.heap.size w x) (hj : T.In x (· < x.heap.size) t B) => tags_any t B d x a (Nat.le_trans hN (by decide)) hwf (hT.below hx) (hE.below hx) hj)
  have HRT := hide (fun (hN : t.nodes ≤ 2500) (x : World) (hi : T.In x (· < x.heap.size) t A) => refTags_any t A c x (Nat.le_trans hN (by decide)) hwf hi)
  have HN := hide (fun (h : decide (0 ≤ t.left 2500) = true) => (by have := few_nodes (t := t) (m := 2500) (by decide) h; omega : t.nodes ≤ 2500))
  clear hin hE hT hwf
  generalize t.tags = tg at *
  generalize t.fullSize = sz at *
  simp only [Hd.cells] at HFe HSz HCp HSm HTg HRT ⊢
  have hbW := (Below.refl w.heap.size w).alloc (Nat.le_refl _) (.cells #[.int .i64 t.hd.kind, .int .u64 t.hd.s0, .int .u64 t.hd.s1, .int .u64 t.hd.s2, .int .u64 t.hd.s3, .slice A t.subs.length c, .int .i64 t.hd.num, .int .i64 t.hd.min, .int .i64 t.hd.max, .bool t.hd.bare] 27)
  have hk := Blk.new w 27 #[.int .i64 t.hd.kind, .int .u64 t.hd.s0, .int .u64 t.hd.s1, .int .u64 t.hd.s2, .int .u64 t.hd.s3, .slice A t.subs.length c, .int .i64 t.hd.num, .int .i64 t.hd.min, .int .i64 t.hd.max, .bool t.hd.bare]
  have H0 := hide (And.intro hbW hk)
  clear hbW hk
  go_enter Tryd.func5, Tryd.ntmps5
  go_wp2_with fail
  generalize (w.alloc (.cells #[.int .i64 t.hd.kind, .int .u64 t.hd.s0, .int .u64 t.hd.s1, .int .u64 t.hd.s2, .int .u64 t.hd.s3, .slice A t.subs.length c, .int .i64 t.hd.num, .int .i64 t.hd.min, .int .i64 t.hd.max, .bool t.hd.bare] 27)) = w0 at *
  refine (HLv.out w0 H0.out.1).mono ?_
  rintro e w1 ⟨rfl, hb⟩
  have H1 := hide (And.intro (H0.out.1.trans (hb.mono H0.out.1.size)) (H0.out.2.next hb))
  clear hb H0 HLv
  have c1 := H1.out.2.cell
  go_wp2_with fail
  refine (HFe.out w1 (HI.out w1 H1.out.1)).mono ?_
  rintro e w2 ⟨rfl, hb⟩
  have H2 := hide (And.intro (H1.out.1.trans (hb.mono H1.out.1.size)) (H1.out.2.next hb))
  clear hb H1 HFe c1
  have c2 := H2.out.2.cell
  generalize decide (0 ≤ t.left 2500) = few at *
  cases few with
  | false =>
    go_wp2_with fail
    refine bodyPost_ret (v := .bool true) (by simp [results, Tryd.results5, go_sem]) rfl ?_
    exact ⟨rfl, H2.out.1⟩
  | true =>
    have hN := HN.out rfl
    clear HN
    have key : ∀ (y : World), Below w.heap.size w y → Blk y w.heap.size 27 #[.int .i64 t.hd.kind, .int .u64 t.hd.s0, .int .u64 t.hd.s1, .int .u64 t.hd.s2, .int .u64 t.hd.s3, .slice A t.subs.length c, .int .i64 t.hd.num, .int .i64 t.hd.min, .int .i64 t.hd.max, .bool t.hd.bare] → True := fun _ _ _ => trivial
    clear key
    cases d1 : decide (200 < sz) with
    | false =>
      go_wp2_with fail
      refine (HSz.out w2 (HI.out w2 H2.out.1)).mono ?_
      rintro e w3 ⟨rfl, hb⟩
      have H3 := hide (And.intro (H2.out.1.trans (hb.mono H2.out.1.size)) (H2.out.2.next hb))
      clear hb H2 HSz c2
      have c3 := H3.out.2.cell
      go_wp2_with fail
      refine (HCp.out hN w3 (HI.out w3 H3.out.1)).mono ?_
      rintro e w4 ⟨B, d, bs, rfl, hown, _, hbs, hb⟩
      have H4 := hide (And.intro (H3.out.1.trans (hb.mono H3.out.1.size)) (And.intro (H3.out.2.next hb) (hown.in_ (fun b hb => (hbs b hb).2))))
      clear hb H3 HCp hown hbs c3
      simp only [Hd.cells]
      go_upto_region 6 with fail
      have hbW := (Below.refl w4.heap.size w4).alloc (Nat.le_refl _) (.cells #[.int .i64 t.hd.kind, .int .u64 t.hd.s0, .int .u64 t.hd.s1, .int .u64 t.hd.s2, .int .u64 t.hd.s3, .slice B t.subs.length d, .int .i64 t.hd.num, .int .i64 t.hd.min, .int .i64 t.hd.max, .bool t.hd.bare] 27)
      have hk := Blk.new w4 27 #[.int .i64 t.hd.kind, .int .u64 t.hd.s0, .int .u64 t.hd.s1, .int .u64 t.hd.s2, .int .u64 t.hd.s3, .slice B t.subs.length d, .int .i64 t.hd.num, .int .i64 t.hd.min, .int .i64 t.hd.max, .bool t.hd.bare]
      have H5 := hide (And.intro (H4.out.1.trans (hbW.mono H4.out.1.size)) (And.intro (H4.out.2.1.next hbW) (And.intro hk (H4.out.2.2.next hbW))))
      have hlt := H4.out.2.1.lt
      clear hbW hk H4
      generalize (w4.alloc (.cells #[.int .i64 t.hd.kind, .int .u64 t.hd.s0, .int .u64 t.hd.s1, .int .u64 t.hd.s2, .int .u64 t.hd.s3, .slice B t.subs.length d, .int .i64 t.hd.num, .int .i64 t.hd.min, .int .i64 t.hd.max, .bool t.hd.bare] 27)) = w5 at *
      generalize w4.heap.size = g5 at *
      have q0 := fun (x : Later w5) => (H5.out.2.1.next x.2).cell
      have q1 := fun (x : Later w5) => (H5.out.2.2.1.next x.2).cell
      have HT1 := hide (fun (x : Later w5) => HTg.out hN B d x.val (H5.out.1.trans (x.2.mono H5.out.1.size)) (H5.out.2.2.2.next x.2))
      have HT2 := hide (fun (x : Later w5) => HRT.out hN x.val (HI.out x.val (H5.out.1.trans (x.2.mono H5.out.1.size))))
      have HT3 := hide (fun (x : Later w5) => HSm.out hN B d x.val (H5.out.2.2.2.next x.2) (HI.out x.val (H5.out.1.trans (x.2.mono H5.out.1.size))))
      clear HTg HRT HSm hN
      refine wp_region_later (by kernel_rfl) (by kernel_rfl) ?_
      repeat (go_big_quiet_step (first | exact calls_later (HT1.out _) | exact calls_later (HT2.out _) | exact calls_later (HT3.out _)))
      refine wpQuiet_nil ?_
      rintro w' ⟨x, rfl⟩
      have HF := hide (H5.out.1.trans (x.2.mono H5.out.1.size))
      clear q0 q1
      go_wp2_with fail
      refine bodyPost_ret (v := .bool true) (by simp [results, Tryd.results5, go_sem]) rfl ?_
      exact ⟨rfl, HF.out⟩
    | true =>
      go_wp2_with fail
      refine (HSz.out w2 (HI.out w2 H2.out.1)).mono ?_
      rintro e w3a ⟨rfl, hb⟩
      have H3a := hide (And.intro (H2.out.1.trans (hb.mono H2.out.1.size)) (H2.out.2.next hb))
      clear hb H2 c2
      have c2 := H3a.out.2.cell
      cases d2 : decide (sz ≤ 2000) with
      | true =>
        go_wp2_with fail
        refine (HSz.out w3a (HI.out w3a H3a.out.1)).mono ?_
        rintro e w3 ⟨rfl, hb⟩
        have H3 := hide (H3a.out.1.trans (hb.mono H3a.out.1.size))
        clear hb H3a HSz c2
        go_wp2_with fail
        refine bodyPost_ret (v := .bool true) (by simp [results, Tryd.results5, go_sem]) rfl ?_
        exact ⟨rfl, H3.out⟩
      | false =>
        go_wp2_with fail
        refine (HSz.out w3a (HI.out w3a H3a.out.1)).mono ?_
        rintro e w3 ⟨rfl, hb⟩
        have H3 := hide (And.intro (H3a.out.1.trans (hb.mono H3a.out.1.size)) (H3a.out.2.next hb))
        clear hb H3a HSz c2
        have c3 := H3.out.2.cell
        go_wp2_with fail
        refine (HCp.out hN w3 (HI.out w3 H3.out.1)).mono ?_
        rintro e w4 ⟨B, d, bs, rfl, hown, _, hbs, hb⟩
        have H4 := hide (And.intro (H3.out.1.trans (hb.mono H3.out.1.size)) (And.intro (H3.out.2.next hb) (hown.in_ (fun b hb => (hbs b hb).2))))
        clear hb H3 HCp hown hbs c3
        simp only [Hd.cells]
        go_upto_region 6 with fail
        have hbW := (Below.refl w4.heap.size w4).alloc (Nat.le_refl _) (.cells #[.int .i64 t.hd.kind, .int .u64 t.hd.s0, .int .u64 t.hd.s1, .int .u64 t.hd.s2, .int .u64 t.hd.s3, .slice B t.subs.length d, .int .i64 t.hd.num, .int .i64 t.hd.min, .int .i64 t.hd.max, .bool t.hd.bare] 27)
        have hk := Blk.new w4 27 #[.int .i64 t.hd.kind, .int .u64 t.hd.s0, .int .u64 t.hd.s1, .int .u64 t.hd.s2, .int .u64 t.hd.s3, .slice B t.subs.length d, .int .i64 t.hd.num, .int .i64 t.hd.min, .int .i64 t.hd.max, .bool t.hd.bare]
        have H5 := hide (And.intro (H4.out.1.trans (hbW.mono H4.out.1.size)) (And.intro (H4.out.2.1.next hbW) (And.intro hk (H4.out.2.2.next hbW))))
        have hlt := H4.out.2.1.lt
        clear hbW hk H4
        generalize (w4.alloc (.cells #[.int .i64 t.hd.kind, .int .u64 t.hd.s0, .int .u64 t.hd.s1, .int .u64 t.hd.s2, .int .u64 t.hd.s3, .slice B t.subs.length d, .int .i64 t.hd.num, .int .i64 t.hd.min, .int .i64 t.hd.max, .bool t.hd.bare] 27)) = w5 at *
        generalize w4.heap.size = g5 at *
        have q0 := fun (x : Later w5) => (H5.out.2.1.next x.2).cell
        have q1 := fun (x : Later w5) => (H5.out.2.2.1.next x.2).cell
        have HT1 := hide (fun (x : Later w5) => HTg.out hN B d x.val (H5.out.1.trans (x.2.mono H5.out.1.size)) (H5.out.2.2.2.next x.2))
        have HT2 := hide (fun (x : Later w5) => HRT.out hN x.val (HI.out x.val (H5.out.1.trans (x.2.mono H5.out.1.size))))
        have HT3 := hide (fun (x : Later w5) => HSm.out hN B d x.val (H5.out.2.2.2.next x.2) (HI.out x.val (H5.out.1.trans (x.2.mono H5.out.1.size))))
        clear HTg HRT HSm hN
        refine wp_region_later (by kernel_rfl) (by kernel_rfl) ?_
        repeat (go_big_quiet_step (first | exact calls_later (HT1.out _) | exact calls_later (HT2.out _) | exact calls_later (HT3.out _)))
        refine wpQuiet_nil ?_
        rintro w' ⟨x, rfl⟩
        have HF := hide (H5.out.1.trans (x.2.mono H5.out.1.size))
        clear q0 q1
        go_wp2_with fail
        refine bodyPost_ret (v := .bool true) (by simp [results, Tryd.results5, go_sem]) rfl ?_
        exact ⟨rfl, HF.out⟩
end Go.Proofs.YtbbhobojghmkpaaDoor

/-! ## PlanTagsProof -/
namespace Go.Proofs.YtbbhobojghmkpaaDoor
open Go.ChangeShapes Go.WideShapes Go.ChangeAt Go.RowKit

theorem own : ownKnob Tryd.prog.godebug = none := by kernel_rfl
theorem laidOut : laidOutB Tryd.prog = true := by kernel_rfl
theorem star : ("*" ++ "errors.errorString" : String) = "*errors.errorString" := by decide
theorem rowE (u : TypeId) (h : Tryd.prog.typeName? 3 u = some "*errors.errorString") : u = 169 :=
  typeName_ptr_named (nm := "errors.errorString") (by rw [star]; kernel_rfl) (by kernel_rfl) (by decide) u (by rw [star]; exact h)

theorem agg_of {v : Value} {cs : Array Value} {l : List Value} (h : v = .agg cs) (hl : v.cells.toList = l) : v = .agg l.toArray := by
  subst h
  subst hl
  simp [Value.cells]

theorem env_of_laid {W : World} (h : laidMetH Tryd.prog Rows.planTagsRow.laid W) : ∃ a, Sent [0, 1, 2] W a ∧ Tab W := by
  rw [Go.MakeChecks.laidMetH_plain Tryd.prog Rows.planTagsRow.laid W (by kernel_rfl)] at h
  have ht := tab_of_met h (by simp only [Rows.planTagsRow, Rows.laid_math_bits_deBruijn64tab]; exact List.mem_of_getElem? (i := 0) rfl)
  obtain ⟨a, ha⟩ := sent_of_met (S := [0, 1, 2]) h rowE (fun g hg => by
    simp only [List.mem_cons, List.not_mem_nil, or_false] at hg
    rcases hg with e | e | e <;> subst e
    · exact ⟨ "trawl/api.ErrTree", _, List.mem_of_getElem? (i := 2) rfl, by kernel_rfl, by kernel_rfl⟩
    · exact ⟨ "trawl/api.ErrDeep", _, List.mem_of_getElem? (i := 3) rfl, by kernel_rfl, by kernel_rfl⟩
    · exact ⟨ "trawl/api.ErrTooBig", _, List.mem_of_getElem? (i := 1) rfl, by kernel_rfl, by kernel_rfl⟩)
  exact ⟨a, ha, ht⟩

theorem door_met (os : Os) (args : Array Value) : laidMetH Tryd.prog Rows.planTagsRow.laid ((World.doorLaid Tryd.prog 420 os).forCall (fun _ _ => 0) ⟨#[], args, []⟩).memory :=
  laidMetH_of_parts3 (fuel := 8) (laidMet_of_run' 8 (by kernel_rfl) (by kernel_rfl)) (by kernel_rfl) (by kernel_rfl)

set_option maxRecDepth 100000 in
theorem lifted (os : Os) (started : os.Started) (H : Type) (enc : TypeId × Value → H) :
    ReturnsInHanded {} Tryd.checked os 5 .any (fun w args => (Rows.planTagsSpec.pre enc Tryd.prog Tryd.f5 [] false w args ∧ laidMetH Tryd.prog Rows.planTagsRow.laid w) ∧ sizedMet enc Tryd.prog Tryd.f5 (OpenSpec.ofChange Rows.planTagsSpec) false w args)
      (Rows.planTagsSpec.post enc Tryd.prog Tryd.f5 false true false false) := by
  refine returnsInHanded_of_change_and (C := Tryd.checked) (X := fun w _ => laidMetH Tryd.prog Rows.planTagsRow.laid w) (fun _ _ _ hh h => h.of_heap hh) own started (by kernel_rfl) Tryd.func5
    (ChangeSpec.witness_shaped (enc := enc) (C := Tryd.checked) (os := os) (X := fun w _ => laidMetH Tryd.prog Rows.planTagsRow.laid w) false (World.doorLaid Tryd.prog 420 os) #[.agg zeroCells] 8 rfl (World.shaped_of_RefB (by kernel_rfl) (by kernel_rfl)) (by kernel_rfl) (by kernel_rfl) (by kernel_rfl) (door_met os _)) ?_
  intro W base args ds gs before hval0 hW _ hsz0 hL _
  have hval : ∀ (j : Nat) t v, Tryd.f5.params[j]? = some t → args[j]? = some v → Value.okWide Tryd.prog W .any base t v := hval0
  have hW' := hW
  obtain ⟨p, q, hA0, hV, rfl, hfz, hnd⟩ := hW
  have hA : DataW.TrodAll enc Tryd.prog W 0 (fun _ => true) true Tryd.f5.params.toList args.toList ds p := hA0
  have hsz : (DataW.weightsEach Tryd.prog (Tryd.f5.params.toList ++ []) (ds ++ gs)).all (· ≤ reachBytes) = true := hsz0
  rw [Tryd.params5] at hA hval hsz
  obtain ⟨v0, vs0, d0, ds0, p0, q0, e0, rfl, rfl, h0, r0⟩ := trodAll_cons hA
  obtain ⟨rfl, rfl, rfl⟩ := trodAll_nil r0
  obtain rfl : args = #[v0] := by cases args; simp_all
  obtain ⟨rfl, rfl⟩ := trodVars_none hV
  have k0 := h0
  have lt0 : ∀ x ∈ p0, x.block < W.heap.size := by obtain ⟨m, hm⟩ := k0; exact DataW.trod_lt m _ _ _ hm
  obtain ⟨t0, A0, c0, e0, hin0, hwf0⟩ : ∃ (t : T) (A : Option Addr) (c : Nat), v0.cells.toList = t.hd.cells (.slice A t.subs.length c) ∧ T.In W (· < W.heap.size) t A ∧ t.wf := by
    obtain ⟨fuel, hf⟩ := h0
    exact trod_node fuel _ _ hf
  obtain ⟨cs0, hv0, _⟩ := okWide_struct Tryd.underlying27 (hval 0 27 v0 rfl rfl)
  have ev0 := agg_of hv0 e0
  clear hv0 e0
  subst ev0
  obtain ⟨a, ha, hb⟩ := env_of_laid hL
  clear hA0 hval0 hval hA
  refine (tagsLaw_true t0 A0 c0 W a hwf0 hin0 ha hb).mono fun e W' ⟨he, bel⟩ => ?_
  subst he
  exact ⟨_, rfl, _, _, _, [], _, [], hW', trodAll_mk1 (shut_bool Tryd.underlying4 _), (trodAll_cons_mk (Below.trod laidOut (by kernel_rfl) (of_decide_eq_true (by kernel_rfl)) k0 bel lt0) trodAll_mk0), rfl, bel.frame _, fun h => by cases h⟩

theorem said : Rows.PlanTagsSaid :=
  OpenClaim.holds_of_wide 5 Tryd.f5 rfl rfl rfl rfl rfl rfl rfl ⟨rfl, rfl, rfl, rfl, rfl⟩ rfl rfl rfl rfl rfl (by kernel_rfl) Tryd.func5 (by kernel_rfl)
    (of_decide_eq_true (by kernel_rfl)) (by unfold Func.isWrapper; first | (rw [if_pos (by decide +kernel)]; kernel_rfl) | (rw [if_neg (by decide +kernel)]; exact ⟨rfl, rfl⟩))
    (fun os started H enc _ => lifted os started H enc)

theorem plain (f : FuncId) (fn : Func) (hf : Tryd.pinned.checked.prog.funcNamed "trawl/trawllaw23.PlanTags" = some f) (hfn : Tryd.pinned.checked.prog.funcs[f]? = some fn) :
    false = Tryd.pinned.checked.prog.looks [] ∧ ∀ (j : Nat) t, fn.params[j]? = some t → Tryd.pinned.checked.prog.wantsStandIn t = false := by
  obtain rfl : f = 5 := Option.some.inj ((show Tryd.prog.funcNamed "trawl/trawllaw23.PlanTags" = some 5 by kernel_rfl).symm.trans hf) |>.symm
  obtain rfl : fn = Tryd.f5 := (Option.some.inj (Tryd.func5.symm.trans hfn)).symm
  refine ⟨by kernel_rfl, fun j t ht => ?_⟩
  rw [Tryd.params5] at ht
  have hm := Array.mem_of_getElem? ht
  simp only [List.mem_toArray, List.mem_cons, List.not_mem_nil, or_false] at hm
  subst hm
  · exact (show Tryd.prog.wantsStandIn 27 = false by kernel_rfl)

theorem planTags_holds : Rows.PlanTagsCardSaid :=
  Claim7.holds_tied_plain_at .later [] _ _ _ _ said (fun _ h => by cases h) (by kernel_rfl) (fun _ h => by cases h) planTags_row_tie rfl ⟨rfl, rfl⟩ (by kernel_rfl) rfl plain (by kernel_rfl)
#print axioms planTags_holds
end Go.Proofs.YtbbhobojghmkpaaDoor
