/- trawl/trawllaw08.SpellTexts: for every tree, the call answers true, and what it was given reads afterwards as before; the program's variables lie as its text lays them (the card ties that). Conditions: those of the given card alone. (Printed by gen_card.py.) -/
import Derived.Test.YtpkcklpjbeginaaGreatDoorRows
import Derived.Test.YtpkcklpjbeginaaGreatDoorCards
import Derived.Test.YtpkcklpjbeginaaGreatDoorTie
import Derived.Test.YtpkcklpjbeginaaGreatDoorTextsLaw8
import Derived.Test.YtpkcklpjbeginaaGreatDoorReads
import Derived.Test.YtpkcklpjbeginaaGreatDoorLaidAll
import Derived.WalkKit
import Derived.ProofKit
import Derived.LaidMore
import Derived.OpenShut
import Derived.ChangeOld
import Derived.Below
import Derived.Stop.Joined
import Derived.SevenTiedAt
import Derived.MakeChecks
namespace Go.Proofs.YtpkcklpjbeginaaGreatDoor
open Go.ChangeShapes Go.WideShapes Go.ChangeAt Go.RowKit
set_option linter.unusedVariables false

theorem own : ownKnob Tryz.prog.godebug = none := by kernel_rfl
theorem laidOut : laidOutB Tryz.prog = true := by kernel_rfl
theorem star : ("*" ++ "errors.errorString" : String) = "*errors.errorString" := by decide
theorem rowE (u : TypeId) (h : Tryz.prog.typeName? 3 u = some "*errors.errorString") : u = 211 :=
 typeName_ptr_named (nm := "errors.errorString") (by rw [star]; kernel_rfl) (by kernel_rfl) (by decide) u (by rw [star]; exact h)

theorem agg_of {v : Value} {cs : Array Value} {l : List Value} (h : v = .agg cs) (hl : v.cells.toList = l) : v = .agg l.toArray := by
 subst h
 subst hl
 simp [Value.cells]

theorem glob : ((List.range 21).all fun g => (Tryz.prog.globals[g]?).map (·.type) == some 32) = true := by kernel_rfl
theorem tab8_of_met {l : List (String × DataW Unit)} {W : World} (h : laidMet Tryz.prog l W)
  (hm : ("internal/strconv.uint64pow10", (Lib.tabData .u64 Lib.pow10Tab : DataW Unit)) ∈ l) : Tab8 W := by
 obtain ⟨g, t, cs, fuel, p, h1, h2, h3, h4⟩ := Lib.laidMet.reads h hm
 obtain rfl : g = 24 := Option.some.inj (h1.symm.trans (show Tryz.prog.globalNamed "internal/strconv.uint64pow10" = some 24 by kernel_rfl))
 obtain rfl : t = 203 := Option.some.inj (h2.symm.trans (show (Tryz.prog.globals[24]?).map (·.type) = some 203 by kernel_rfl))
 unfold Tab8 Lib.TabIs
 rw [h3, ← Lib.cells_of_tab Tryz.underlying203 Tryz.underlying22 (by kernel_rfl) (by kernel_rfl) h4]

theorem env_of_laid {W : World} (h : laidMetH Tryz.prog Rows.spellTextsRow.laid W) : ∃ a, E8 W a := by
 rw [Go.MakeChecks.laidMetH_plain Tryz.prog Rows.spellTextsRow.laid W (by kernel_rfl)] at h
 have ht := tab_of_met h (by simp only [Rows.spellTextsRow, Rows.laid_math_bits_deBruijn64tab]; exact List.mem_of_getElem? (i := 1) rfl)
 have ht8 := tab8_of_met h (by simp only [Rows.spellTextsRow, Rows.laid_internal_strconv_uint64pow10]; exact List.mem_of_getElem? (i := 2) rfl)
 obtain ⟨a, ha⟩ := errs_of_some (fun x => !(x.1 == "math/bits.deBruijn64tab" || x.1 == "math/bits.deBruijn32tab" || x.1 == "internal/strconv.uint64pow10")) h (by
  intro x hx hpr
  have hx' := hx
  simp only [Rows.spellTextsRow, List.mem_cons, List.not_mem_nil, or_false] at hx'
  rcases hx' with e | e | e | e | e | e | e | e | e | e | e | e | e | e | e | e | e | e | e | e | e | e | e | e <;> subst e <;> first | exact ⟨_, rfl⟩ | exact absurd hpr (by decide)) rowE (by kernel_rfl) (fun g hg => by
   have := List.all_eq_true.1 glob g (by simpa using hg)
   simpa using this)
 exact ⟨a, ha, ht, ht8⟩

theorem door_met (os : Os) (args : Array Value) : laidMetH Tryz.prog Rows.spellTextsRow.laid ((World.doorLaid Tryz.prog 420 os).forCall (fun _ _ => 0) ⟨#[], args, []⟩).memory :=
 laidMetH_of_parts3 (fuel := 8) (laidMet_of_run' 8 (by kernel_rfl) (by kernel_rfl)) (by kernel_rfl) (by kernel_rfl)

set_option maxRecDepth 100000 in
theorem lifted (os : Os) (started : os.Started) (H : Type) (enc : TypeId × Value → H) :
  ReturnsInHanded {} Tryz.checked os 3 .any (fun w args => (Rows.spellTextsSpec.pre enc Tryz.prog Tryz.f3 [] false w args ∧ laidMetH Tryz.prog Rows.spellTextsRow.laid w) ∧ sizedMet enc Tryz.prog Tryz.f3 (OpenSpec.ofChange Rows.spellTextsSpec) false w args)
   (Rows.spellTextsSpec.post enc Tryz.prog Tryz.f3 false true false false) := by
 refine returnsInHanded_of_change_and (C := Tryz.checked) (X := fun w _ => laidMetH Tryz.prog Rows.spellTextsRow.laid w) (fun _ _ _ hh h => h.of_heap hh) own started (by kernel_rfl) Tryz.func3
  (ChangeSpec.witness_shaped (enc := enc) (C := Tryz.checked) (os := os) (X := fun w _ => laidMetH Tryz.prog Rows.spellTextsRow.laid w) false (World.doorLaid Tryz.prog 420 os) #[.agg zeroCells] 8 rfl (World.shaped_of_RefB (by kernel_rfl) (by kernel_rfl)) (by kernel_rfl) (by kernel_rfl) (by kernel_rfl) (door_met os _)) ?_
 intro W base args ds gs before hval0 hW _ hsz0 hL _
 have hval : ∀ (j : Nat) t v, Tryz.f3.params[j]? = some t → args[j]? = some v → Value.okWide Tryz.prog W .any base t v := hval0
 have hW' := hW
 obtain ⟨p, q, hA0, hV, rfl, hfz, hnd⟩ := hW
 have hA : DataW.TrodAll enc Tryz.prog W 0 (fun _ => true) true Tryz.f3.params.toList args.toList ds p := hA0
 have hsz : (DataW.weightsEach Tryz.prog (Tryz.f3.params.toList ++ []) (ds ++ gs)).all (· ≤ reachBytes) = true := hsz0
 rw [Tryz.params3] at hA hval hsz
 obtain ⟨v0, vs0, d0, ds0, p0, q0, e0, rfl, rfl, h0, r0⟩ := trodAll_cons hA
 obtain ⟨rfl, rfl, rfl⟩ := trodAll_nil r0
 obtain rfl : args = #[v0] := by cases args; simp_all
 obtain ⟨rfl, rfl⟩ := trodVars_none hV
 have k0 := h0
 have lt0 : ∀ x ∈ p0, x.block < W.heap.size := by obtain ⟨m, hm⟩ := k0; exact DataW.trod_lt m _ _ _ hm
 obtain ⟨t0, A0, c0, e0, hin0, hwf0⟩ : ∃ (t : T) (A : Option Addr) (c : Nat), v0.cells.toList = t.hd.cells (.slice A t.subs.length c) ∧ T.In W (· < W.heap.size) t A ∧ t.wf := by
  obtain ⟨fuel, hf⟩ := h0
  exact trod_node fuel _ _ hf
 obtain ⟨cs0, hv0, _⟩ := okWide_struct Tryz.underlying27 (hval 0 27 v0 rfl rfl)
 have ev0 := agg_of hv0 e0
 clear hv0 e0
 subst ev0
 obtain ⟨a, ha⟩ := env_of_laid hL
 clear hA0 hval0 hval hA
 refine (textsLaw8 t0 A0 c0 W a hwf0 hin0 ha).mono fun e W' ⟨he, bel⟩ => ?_
 subst he
 exact ⟨_, rfl, _, _, _, [], _, [], hW', trodAll_mk1 (shut_bool Tryz.underlying4 _), (trodAll_cons_mk (Below.trod laidOut (by kernel_rfl) (of_decide_eq_true (by kernel_rfl)) k0 bel lt0) trodAll_mk0), rfl, bel.frame _, fun h => by cases h⟩

theorem said : Rows.SpellTextsSaid :=
 OpenClaim.holds_of_wide 3 Tryz.f3 rfl rfl rfl rfl rfl rfl rfl ⟨rfl, rfl, rfl, rfl, rfl⟩ rfl rfl rfl rfl rfl (by kernel_rfl) Tryz.func3 (by kernel_rfl)
  (of_decide_eq_true (by kernel_rfl)) (by unfold Func.isWrapper; first | (rw [if_pos (by decide +kernel)]; kernel_rfl) | (rw [if_neg (by decide +kernel)]; exact ⟨rfl, rfl⟩))
  (fun os started H enc _ => lifted os started H enc)

theorem plain (f : FuncId) (fn : Func) (hf : Tryz.pinned.checked.prog.funcNamed "trawl/trawllaw08.SpellTexts" = some f) (hfn : Tryz.pinned.checked.prog.funcs[f]? = some fn) :
  true = Tryz.pinned.checked.prog.looks [] ∧ ∀ (j : Nat) t, fn.params[j]? = some t → Tryz.pinned.checked.prog.wantsStandIn t = false := by
 obtain rfl : f = 3 := Option.some.inj ((show Tryz.prog.funcNamed "trawl/trawllaw08.SpellTexts" = some 3 by kernel_rfl).symm.trans hf) |>.symm
 obtain rfl : fn = Tryz.f3 := (Option.some.inj (Tryz.func3.symm.trans hfn)).symm
 refine ⟨by kernel_rfl, fun j t ht => ?_⟩
 rw [Tryz.params3] at ht
 have hm := Array.mem_of_getElem? ht
 simp only [List.mem_toArray, List.mem_cons, List.not_mem_nil, or_false] at hm
 subst hm
 ·exact (show Tryz.prog.wantsStandIn 27 = false by kernel_rfl)

theorem spellTexts_holds : Rows.SpellTextsCardSaid :=
 Claim7.holds_tied_plain_at .later [] _ _ _ _ said (fun _ h => by cases h) (by kernel_rfl) (fun _ h => by cases h) spellTexts_row_tie rfl ⟨rfl, rfl⟩ (by kernel_rfl) rfl plain (by kernel_rfl)
#print axioms spellTexts_holds
end Go.Proofs.YtpkcklpjbeginaaGreatDoor
