/- ReadPlan: A reading of a plan gives its number and its two marks.
ChoosesLaw23: trawllaw23.PlanChooses: for every two numbers and plan true, and what was there stays. (Printed by gen_chooseslaw23.py.)
PlanChoosesProof: trawl/trawllaw23.PlanChooses: for every two numbers and plan, the call answers true, and what it was given reads afterwards as before; the program's variables lie as its text lays them (the card ties that). Conditions: those of the given card alone. (Printed by gen_card.py.) -/
import Derived.Test.YtbbhobojghmkpaaDoorReads
import Derived.Test.YtbbhobojghmkpaaDoorLives23
import Derived.Test.YtbbhobojghmkpaaDoorRows
import Derived.Test.YtbbhobojghmkpaaDoorCards
import Derived.Test.YtbbhobojghmkpaaDoorTie
import Derived.WalkKit
import Derived.ProofKit
import Derived.LaidMore
import Derived.OpenShut
import Derived.ChangeOld
import Derived.Below
import Derived.Stop.Joined
import Derived.SevenTiedAt
import Derived.MakeChecks
set_option linter.unusedSimpArgs false
set_option linter.unusedVariables false
set_option linter.unnecessarySimpa false

/-! ## ReadPlan -/
namespace Go.Proofs.YtbbhobojghmkpaaDoor
open Go.RowKit Go.WideShapes Go.ChangeAt

theorem Tryd.cellsPlan : Tryd.prog.cellsOf 44 = 3 := by kernel_rfl
theorem trod_plan {H : Type} {enc : TypeId × Value → H} {w : World} {base : Nat} {spare : Nat → Bool} {held : Bool} (fuel : Nat) (cs : List Value) (x : DataW H × List MemPlace) (h : DataW.trod enc Tryd.prog w base spare held fuel 44 cs = some x) :
    ∃ (n : Int) (k b : Bool), cs = [.int .i64 n, .bool k, .bool b] ∧ IsI64 n := by
  obtain ⟨xs, m, rfl, hx, hlen, hl, hel⟩ := DataW.trod_struct Tryd.underlying44 h
  rw [Tryd.cellsPlan] at hlen
  obtain ⟨v0, v1, v2, rfl⟩ := three hlen
  have hl' : xs.length = 3 := hl
  obtain ⟨x0, x1, x2, rfl⟩ := three hl'
  have f0 := hel 0 _ rfl
  have f1 := hel 1 _ rfl
  have f2 := hel 2 _ rfl
  simp only [List.getElem?_cons_zero, List.getElem?_cons_succ, List.getElem_toArray, List.getElem_cons_zero, List.getElem_cons_succ, Tryd.cellsBool, Tryd.cellsInt, List.drop_zero, List.drop_succ_cons, List.take_succ_cons, List.take_zero] at f0 f1 f2
  obtain ⟨n, e0, _, w0⟩ := DataW.trod_int Tryd.underlying3 f0
  obtain ⟨k, e1, _⟩ := DataW.trod_bool Tryd.underlying4 f1
  obtain ⟨b, e2, _⟩ := DataW.trod_bool Tryd.underlying4 f2
  simp only [List.cons.injEq, and_true] at e0 e1 e2
  subst e0 e1 e2
  exact ⟨n, k, b, rfl, bounds_i64 w0⟩
end Go.Proofs.YtbbhobojghmkpaaDoor

/-! ## ChoosesLaw23 -/
namespace Go.Proofs.YtbbhobojghmkpaaDoor
open Go.RowKit

theorem beq_self23 (x : ByteArray) : (x.toList == x.toList) = true := by rw [toList_beq]; simp
theorem planOf_is (b0 b2 b3 b4 b5 w2 : Bool) : ∃ (e : Int) (k s : Bool), planOf b0 b2 b3 b4 b5 w2 = .agg #[.int .i64 e, .bool k, .bool s] := ⟨_, _, _, rfl⟩
set_option maxRecDepth 100000 in
set_option maxHeartbeats 2000000 in
theorem choosesLaw_true (x n e : Int) (k b : Bool) (w : World) (a : Nat → Addr) (hx : IsI64 x) (hn : IsI64 n) (he : IsI64 e) (hE : Sent [0, 1, 2] w a) (hT : Tab w) :
    Calls Tryd.prog 6 #[.int .i64 x, .int .i64 n, .agg [.int .i64 e, .bool k, .bool b].toArray] w fun r w' => r = .returned (.bool true) ∧ Below w.heap.size w w' := by
  have HLv := hide (fun (y : World) (hy : Below w.heap.size w y) => lives23_any y a (hT.below hy) (hE.below hy))
  have hw : decide (1 < n) = decide (2 ≤ n) := by by_cases h : 1 < n <;> simp [h] <;> omega
  have hc := fun (y : World) => choose_gen x n (bitI x 0) (bitI x 2) (bitI x 3) (bitI x 4) (bitI x 5) y (and_1 x) (and_4 x) (and_8 x) (and_16 x) (and_32 x)
  have hr := fun (y : World) => refChoose_gen x n (bitI x 0) (bitI x 2) (bitI x 3) (bitI x 4) (bitI x 5) y (and_1 x) (and_4 x) (and_8 x) (and_16 x) (and_32 x)
  rw [hw] at hr
  obtain ⟨qe, qk, qs, hq⟩ := planOf_is (bitI x 0) (bitI x 2) (bitI x 3) (bitI x 4) (bitI x 5) (decide (2 ≤ n))
  rw [hq] at hc hr
  have HC := hide hc
  have HR := hide hr
  clear hE hT hw hc hr hq
  have hbW := (Below.refl w.heap.size w).alloc (Nat.le_refl _) (.cells #[.int .i64 e, .bool k, .bool b] 44)
  have hk := Blk.new w 44 #[.int .i64 e, .bool k, .bool b]
  have H0 := hide (And.intro hbW hk)
  clear hbW hk
  go_enter Tryd.func6, Tryd.ntmps6
  go_wp2_with fail
  generalize (w.alloc (.cells #[.int .i64 e, .bool k, .bool b] 44)) = w0 at *
  refine (HLv.out w0 H0.out.1).mono ?_
  rintro r w1 ⟨rfl, hb⟩
  have H1 := hide (And.intro (H0.out.1.trans (hb.mono H0.out.1.size)) (H0.out.2.next hb))
  clear hb H0 HLv
  go_wp2_with fail
  refine (HC.out w1).mono ?_
  rintro r w2 ⟨rfl, hb⟩
  have H2 := hide (And.intro (H1.out.1.trans (hb.mono H1.out.1.size)) (H1.out.2.next hb))
  clear hb H1 HC
  go_upto_region 4 with fail
  have hbW := (Below.refl w2.heap.size w2).alloc (Nat.le_refl _) (.cells #[.int .i64 qe, .bool qk, .bool qs] 44)
  have hk := Blk.new w2 44 #[.int .i64 qe, .bool qk, .bool qs]
  have H3 := hide (And.intro (H2.out.1.trans (hbW.mono H2.out.1.size)) (And.intro (H2.out.2.next hbW) hk))
  clear hbW hk H2
  generalize (w2.alloc (.cells #[.int .i64 qe, .bool qk, .bool qs] 44)) = w3 at *
  generalize w2.heap.size = g3 at *
  have q0 := fun (y : Later w3) => (H3.out.2.1.next y.2).cell
  have q1 := fun (y : Later w3) => (H3.out.2.2.next y.2).cell
  have hes := fun W => run_eql_plan W qe qe qk qk qs qs
  have hpg := Tryd.planGuard
  have HR' := hide (fun (y : Later w3) => HR.out y.val)
  have T1 := hide (fun (y : Later w3) => tell_any e k b y.val)
  have T2 := hide (fun (y : Later w3) => refTell_any e k b y.val)
  have T3 := hide (fun (y : Later w3) => tell_any qe qk qs y.val)
  have T4 := hide (fun (y : Later w3) => refTell_any qe qk qs y.val)
  unfold planV at T1 T2 T3 T4
  clear HR
  have s1 := beq_self23 (tellP e k b)
  have s2 := beq_self23 (tellP qe qk qs)
  generalize tellP e k b = x1 at *
  generalize tellP qe qk qs = x2 at *
  refine wp_region_later (by kernel_rfl) (by kernel_rfl) ?_
  iterate 4 (go_big_quiet_step (exact calls_later (HR'.out _)))
  iterate 4 (go_big_quiet_step (exact calls_later (T1.out _)))
  iterate 2 (go_big_quiet_step (exact calls_later (T2.out _)))
  iterate 5 (go_big_quiet_step (exact calls_later (T3.out _)))
  iterate 2 (go_big_quiet_step (exact calls_later (T4.out _)))
  iterate 3 (go_big_quiet_step (exact calls_later (T4.out _)))
  refine wpQuiet_nil ?_
  rintro w' ⟨y, rfl⟩
  have HF := hide (H3.out.1.trans (y.2.mono H3.out.1.size))
  clear q0 q1 hes
  go_wp2_with fail
  refine bodyPost_ret (v := .bool true) (by simp [results, Tryd.results6, go_sem]) rfl ?_
  exact ⟨rfl, HF.out⟩
end Go.Proofs.YtbbhobojghmkpaaDoor

/-! ## PlanChoosesProof -/
namespace Go.Proofs.YtbbhobojghmkpaaDoor
open Go.ChangeShapes Go.WideShapes Go.ChangeAt Go.RowKit

theorem own : ownKnob Tryd.prog.godebug = none := by kernel_rfl
theorem laidOut : laidOutB Tryd.prog = true := by kernel_rfl
theorem star : ("*" ++ "errors.errorString" : String) = "*errors.errorString" := by decide
theorem rowE (u : TypeId) (h : Tryd.prog.typeName? 3 u = some "*errors.errorString") : u = 169 :=
  typeName_ptr_named (nm := "errors.errorString") (by rw [star]; kernel_rfl) (by kernel_rfl) (by decide) u (by rw [star]; exact h)

theorem agg_of {v : Value} {cs : Array Value} {l : List Value} (h : v = .agg cs) (hl : v.cells.toList = l) : v = .agg l.toArray := by
  subst h
  subst hl
  simp [Value.cells]

theorem env_of_laid {W : World} (h : laidMetH Tryd.prog Rows.planChoosesRow.laid W) : ∃ a, Sent [0, 1, 2] W a ∧ Tab W := by
  rw [Go.MakeChecks.laidMetH_plain Tryd.prog Rows.planChoosesRow.laid W (by kernel_rfl)] at h
  have ht := tab_of_met h (by simp only [Rows.planChoosesRow, Rows.laid_math_bits_deBruijn64tab]; exact List.mem_of_getElem? (i := 0) rfl)
  obtain ⟨a, ha⟩ := sent_of_met (S := [0, 1, 2]) h rowE (fun g hg => by
    simp only [List.mem_cons, List.not_mem_nil, or_false] at hg
    rcases hg with e | e | e <;> subst e
    · exact ⟨ "trawl/api.ErrTree", _, List.mem_of_getElem? (i := 2) rfl, by kernel_rfl, by kernel_rfl⟩
    · exact ⟨ "trawl/api.ErrDeep", _, List.mem_of_getElem? (i := 3) rfl, by kernel_rfl, by kernel_rfl⟩
    · exact ⟨ "trawl/api.ErrTooBig", _, List.mem_of_getElem? (i := 1) rfl, by kernel_rfl, by kernel_rfl⟩)
  exact ⟨a, ha, ht⟩

theorem door_met (os : Os) (args : Array Value) : laidMetH Tryd.prog Rows.planChoosesRow.laid ((World.doorLaid Tryd.prog 420 os).forCall (fun _ _ => 0) ⟨#[], args, []⟩).memory :=
  laidMetH_of_parts3 (fuel := 8) (laidMet_of_run' 8 (by kernel_rfl) (by kernel_rfl)) (by kernel_rfl) (by kernel_rfl)

set_option maxRecDepth 100000 in
theorem lifted (os : Os) (started : os.Started) (H : Type) (enc : TypeId × Value → H) :
    ReturnsInHanded {} Tryd.checked os 6 .any (fun w args => (Rows.planChoosesSpec.pre enc Tryd.prog Tryd.f6 [] false w args ∧ laidMetH Tryd.prog Rows.planChoosesRow.laid w) ∧ sizedMet enc Tryd.prog Tryd.f6 (OpenSpec.ofChange Rows.planChoosesSpec) false w args)
      (Rows.planChoosesSpec.post enc Tryd.prog Tryd.f6 false true false false) := by
  refine returnsInHanded_of_change_and (C := Tryd.checked) (X := fun w _ => laidMetH Tryd.prog Rows.planChoosesRow.laid w) (fun _ _ _ hh h => h.of_heap hh) own started (by kernel_rfl) Tryd.func6
    (ChangeSpec.witness_shaped (enc := enc) (C := Tryd.checked) (os := os) (X := fun w _ => laidMetH Tryd.prog Rows.planChoosesRow.laid w) false (World.doorLaid Tryd.prog 420 os) #[.int .i64 0, .int .i64 0, .agg #[.int .i64 0, .bool false, .bool false]] 8 rfl (World.shaped_of_RefB (by kernel_rfl) (by kernel_rfl)) (by kernel_rfl) (by kernel_rfl) (by kernel_rfl) (door_met os _)) ?_
  intro W base args ds gs before hval0 hW _ hsz0 hL _
  have hval : ∀ (j : Nat) t v, Tryd.f6.params[j]? = some t → args[j]? = some v → Value.okWide Tryd.prog W .any base t v := hval0
  have hW' := hW
  obtain ⟨p, q, hA0, hV, rfl, hfz, hnd⟩ := hW
  have hA : DataW.TrodAll enc Tryd.prog W 0 (fun _ => true) true Tryd.f6.params.toList args.toList ds p := hA0
  have hsz : (DataW.weightsEach Tryd.prog (Tryd.f6.params.toList ++ []) (ds ++ gs)).all (· ≤ reachBytes) = true := hsz0
  rw [Tryd.params6] at hA hval hsz
  obtain ⟨v0, vs0, d0, ds0, p0, q0, e0, rfl, rfl, h0, r0⟩ := trodAll_cons hA
  obtain ⟨v1, vs1, d1, ds1, p1, q1, e1, rfl, rfl, h1, r1⟩ := trodAll_cons r0
  obtain ⟨v2, vs2, d2, ds2, p2, q2, e2, rfl, rfl, h2, r2⟩ := trodAll_cons r1
  obtain ⟨rfl, rfl, rfl⟩ := trodAll_nil r2
  subst e2
  subst e1
  obtain rfl : args = #[v0, v1, v2] := by cases args; simp_all
  obtain ⟨rfl, rfl⟩ := trodVars_none hV
  have k0 := h0
  have lt0 : ∀ x ∈ p0, x.block < W.heap.size := by obtain ⟨m, hm⟩ := k0; exact DataW.trod_lt m _ _ _ hm
  have k1 := h1
  have lt1 : ∀ x ∈ p1, x.block < W.heap.size := by obtain ⟨m, hm⟩ := k1; exact DataW.trod_lt m _ _ _ hm
  have k2 := h2
  have lt2 : ∀ x ∈ p2, x.block < W.heap.size := by obtain ⟨m, hm⟩ := k2; exact DataW.trod_lt m _ _ _ hm
  obtain ⟨n0, e0, hn0⟩ : ∃ n : Int, v0 = .int .i64 n ∧ IsI64 n := by
    obtain ⟨n, e, _, _, hw⟩ := open_int Tryd.underlying3 (hval 0 3 v0 rfl rfl) h0
    exact ⟨n, e, bounds_i64 hw⟩
  subst e0
  obtain ⟨n1, e1, hn1⟩ : ∃ n : Int, v1 = .int .i64 n ∧ IsI64 n := by
    obtain ⟨n, e, _, _, hw⟩ := open_int Tryd.underlying3 (hval 1 3 v1 rfl rfl) h1
    exact ⟨n, e, bounds_i64 hw⟩
  subst e1
  obtain ⟨n2, pk2, pb2, e2, hn2⟩ : ∃ (n : Int) (k b : Bool), v2.cells.toList = [.int .i64 n, .bool k, .bool b] ∧ IsI64 n := by
    obtain ⟨fuel, hf⟩ := h2
    exact trod_plan fuel _ _ hf
  obtain ⟨cs2, hv2, _⟩ := okWide_struct Tryd.underlying44 (hval 2 44 v2 rfl rfl)
  have ev2 := agg_of hv2 e2
  clear hv2 e2
  subst ev2
  obtain ⟨a, ha, hb⟩ := env_of_laid hL
  clear hA0 hval0 hval hA
  refine (choosesLaw_true n0 n1 n2 pk2 pb2 W a hn0 hn1 hn2 ha hb).mono fun e W' ⟨he, bel⟩ => ?_
  subst he
  exact ⟨_, rfl, _, _, _, [], _, [], hW', trodAll_mk1 (shut_bool Tryd.underlying4 _), (trodAll_cons_mk (Below.trod laidOut (by kernel_rfl) (of_decide_eq_true (by kernel_rfl)) k0 bel lt0) (trodAll_cons_mk (Below.trod laidOut (by kernel_rfl) (of_decide_eq_true (by kernel_rfl)) k1 bel lt1) (trodAll_cons_mk (Below.trod laidOut (by kernel_rfl) (of_decide_eq_true (by kernel_rfl)) k2 bel lt2) trodAll_mk0))), rfl, bel.frame _, fun h => by cases h⟩

theorem said : Rows.PlanChoosesSaid :=
  OpenClaim.holds_of_wide 6 Tryd.f6 rfl rfl rfl rfl rfl rfl rfl ⟨rfl, rfl, rfl, rfl, rfl⟩ rfl rfl rfl rfl rfl (by kernel_rfl) Tryd.func6 (by kernel_rfl)
    (of_decide_eq_true (by kernel_rfl)) (by unfold Func.isWrapper; first | (rw [if_pos (by decide +kernel)]; kernel_rfl) | (rw [if_neg (by decide +kernel)]; exact ⟨rfl, rfl⟩))
    (fun os started H enc _ => lifted os started H enc)

theorem plain (f : FuncId) (fn : Func) (hf : Tryd.pinned.checked.prog.funcNamed "trawl/trawllaw23.PlanChooses" = some f) (hfn : Tryd.pinned.checked.prog.funcs[f]? = some fn) :
    false = Tryd.pinned.checked.prog.looks [] ∧ ∀ (j : Nat) t, fn.params[j]? = some t → Tryd.pinned.checked.prog.wantsStandIn t = false := by
  obtain rfl : f = 6 := Option.some.inj ((show Tryd.prog.funcNamed "trawl/trawllaw23.PlanChooses" = some 6 by kernel_rfl).symm.trans hf) |>.symm
  obtain rfl : fn = Tryd.f6 := (Option.some.inj (Tryd.func6.symm.trans hfn)).symm
  refine ⟨by kernel_rfl, fun j t ht => ?_⟩
  rw [Tryd.params6] at ht
  have hm := Array.mem_of_getElem? ht
  simp only [List.mem_toArray, List.mem_cons, List.not_mem_nil, or_false] at hm
  rcases hm with rfl | rfl | rfl
  · exact (show Tryd.prog.wantsStandIn 3 = false by kernel_rfl)
  · exact (show Tryd.prog.wantsStandIn 3 = false by kernel_rfl)
  · exact (show Tryd.prog.wantsStandIn 44 = false by kernel_rfl)

theorem planChooses_holds : Rows.PlanChoosesCardSaid :=
  Claim7.holds_tied_plain_at .later [] _ _ _ _ said (fun _ h => by cases h) (by kernel_rfl) (fun _ h => by cases h) planChooses_row_tie rfl ⟨rfl, rfl⟩ (by kernel_rfl) rfl plain (by kernel_rfl)
#print axioms planChooses_holds
end Go.Proofs.YtbbhobojghmkpaaDoor
