/- Nexts20: trawllaw20.NeedNexts: for every tree, text and place true, and what was there stays. (Printed by gen_nexts20.py.)
NeedNextsProof: trawl/trawllaw20.NeedNexts: for every tree, text and place, the call answers true, and what it was given reads afterwards as before; the program's variables lie as its text lays them (the card ties that). Conditions: those of the given card alone. (Printed by gen_card.py.) -/
import Derived.Test.YtbbhobojghmkpaaDoorLives20
import Derived.Test.YtbbhobojghmkpaaDoorRefNext20
import Derived.Test.YtbbhobojghmkpaaDoorRows
import Derived.Test.YtbbhobojghmkpaaDoorCards
import Derived.Test.YtbbhobojghmkpaaDoorTie
import Derived.Test.YtbbhobojghmkpaaDoorReads
import Derived.ChangeMaps5
import Derived.WalkKit
import Derived.ProofKit
import Derived.LaidMore
import Derived.OpenShut
import Derived.ChangeOld
import Derived.Below
import Derived.Stop.Joined
import Derived.SevenTiedAt
import Derived.MakeChecks
set_option linter.unusedSimpArgs false
set_option linter.unusedVariables false
set_option linter.unnecessarySimpa false

/-! ## Nexts20 -/
namespace Go.Proofs.YtbbhobojghmkpaaDoor
open Go.RowKit

theorem cells_of_blkN {w : World} {g : Nat} {ty : TypeId} {cs : List Value} (h : Blk w g ty cs.toArray) : CellsAt w ⟨g, 0, none⟩ cs := fun j u hu => by
  rw [Addr.add_lit, Nat.zero_add, h.cell, List.getElem?_toArray]
  exact hu
set_option maxRecDepth 100000 in
set_option maxHeartbeats 2000000 in
theorem nexts_true (t : T) (A : Option Addr) (c : Nat) (s : ByteArray) (z : Int) (w : World) (a : Nat → Addr) (hwf : t.wf) (hs : s.size ≤ 9223372036854775807) (hz : IsI64 z) (hT : Tab w) (hE : Sent [0, 1, 2] w a) (hin : T.In w (· < w.heap.size) t A) :
    Calls Tryd.prog 4 #[.agg (t.hd.cells (.slice A t.subs.length c)).toArray, .string s, .int .i64 z] w fun e w' => e = .returned (.bool true) ∧ Below w.heap.size w w' := by
  have HLv := hide (fun (x : World) (hx : Below w.heap.size w x) => lives20_any x a (hT.below hx) (hE.below hx))
  have HI := hide (fun (x : World) (hx : Below w.heap.size w x) => hin.same (same_of_below hx) (fun y hy => Nat.lt_of_lt_of_le hy hx.size))
  have HLg := hide (fun (x : World) (hi : T.In x (· < x.heap.size) t A) => long20_any t A c x hwf hi)
  have HFi := hide (fun (hN : t.nodes ≤ 2500) (x : World) (hx : Below w.heap.size w x) (hi : T.In x (· < x.heap.size) t A) => firsts_any t A c x a (Nat.le_trans hN (by decide)) hwf (hE.below hx) hi)
  have HNx := hide (fun (hN : t.nodes ≤ 2500) (hs : s.size ≤ 5000) (x : World) (hx : Below w.heap.size w x) (hi : T.In x (· < x.heap.size) t A) => next_any t A c s z x a (by omega) (Nat.le_trans hN (by decide)) hwf (hT.below hx) (hE.below hx) hi)
  have HCk := hide (fun (hN : t.nodes ≤ 2500) (x : World) (hi : T.In x (· < x.heap.size) t A) => refCheck_any t A c x (Nat.le_trans hN (by decide)) hi)
  have HRF := hide (fun (hN : t.nodes ≤ 2500) (hc : t.check = none) (x : World) (hi : T.In x (· < x.heap.size) t A) => refFirsts_any t A c x (Nat.le_trans hN (by decide)) hwf hc hi)
  have HRN := hide (fun (hN : t.nodes ≤ 2500) (hs : s.size ≤ 5000) (hc : t.check = none) (x : World) (hi : T.In x (· < x.heap.size) t A) => refNext_any t A c s z x (by omega) (Nat.le_trans hN (by decide)) hwf hc hi)
  clear hin hE hT hwf
  go_enter Tryd.func4, Tryd.ntmps4
  go_wp2_with fail
  obtain ⟨w0, hw0⟩ : ∃ y, y = w.alloc (.cells (t.hd.cells (.slice A t.subs.length c)).toArray 27) := ⟨_, rfl⟩
  have hbW := (Below.refl w.heap.size w).alloc (Nat.le_refl _) (.cells (t.hd.cells (.slice A t.subs.length c)).toArray 27)
  have hk := Blk.new w 27 (t.hd.cells (.slice A t.subs.length c)).toArray
  rw [← hw0] at hbW hk
  have H0 := hide (And.intro hbW hk)
  rw [← hw0]
  clear hbW hk hw0
  refine (HLv.out w0 H0.out.1).mono ?_
  rintro e w1 ⟨rfl, hb⟩
  have H1 := hide (And.intro (H0.out.1.trans (hb.mono H0.out.1.size)) (H0.out.2.next hb))
  clear hb H0 HLv
  go_wp2_with (refine wpList_load_cells rfl 27 _ rfl ⟨w.heap.size, 0, none⟩ rfl (t.hd.cells (.slice A t.subs.length c)) _ Tryd.underlying27 rfl (by rw [Tryd.sizeNode]; simp [Hd.cells_length]) (cells_of_blkN H1.out.2) ?_)
  refine (HLg.out w1 (HI.out w1 H1.out.1)).mono ?_
  rintro e w2 ⟨lg, rfl, hlg, hb⟩
  have H2 := hide (And.intro (H1.out.1.trans (hb.mono H1.out.1.size)) (H1.out.2.next hb))
  clear hb H1 HLg
  cases lg with
  | true =>
    go_wp2_with fail
    refine bodyPost_ret (v := .bool true) (by simp [results, Tryd.results4, go_sem]) rfl ?_
    exact ⟨rfl, H2.out.1⟩
  | false =>
    have hN := hlg rfl
    clear hlg
    by_cases h5 : (5000 : Int) < (s.size : Int)
    · have g1 : decide ((5000 : Int) < (s.size : Int)) = true := decide_eq_true h5
      have g2 : 5000 < s.size := by omega
      go_wp2_with fail
      refine bodyPost_ret (v := .bool true) (by simp [results, Tryd.results4, go_sem]) rfl ?_
      exact ⟨rfl, H2.out.1⟩
    have g1 : decide ((5000 : Int) < (s.size : Int)) = false := decide_eq_false h5
    have g2 : ¬ 5000 < s.size := by omega
    have hs5 : s.size ≤ 5000 := by omega
    go_wp2_with (refine wpList_load_cells rfl 27 _ rfl ⟨w.heap.size, 0, none⟩ rfl (t.hd.cells (.slice A t.subs.length c)) _ Tryd.underlying27 rfl (by rw [Tryd.sizeNode]; simp [Hd.cells_length]) (cells_of_blkN H2.out.2) ?_)
    refine (HFi.out hN w2 H2.out.1 (HI.out w2 H2.out.1)).mono ?_
    rintro e w3 ⟨rfl, hb⟩
    have H3 := hide (And.intro (H2.out.1.trans (hb.mono H2.out.1.size)) (H2.out.2.next hb))
    clear hb H2 HFi
    have hfs : ∀ q, t.check = some q → t.firsts = (fun _ => false) ∧ t.mayNull = false ∧ t.nextOf s z = none := fun q h => by
      unfold T.firsts T.mayNull T.nextOf
      rw [h]
      exact ⟨rfl, rfl, rfl⟩
    have HNo := hide hfs
    have hnx := HNx.out hN hs5
    have hrf := HRF.out hN
    have hrn := HRN.out hN hs5
    clear hfs HNx HRF HRN
    generalize t.firsts = F at *
    generalize t.mayNull = nb at *
    generalize t.nextOf s z = nx at *
    have HNx := hide hnx
    have HRF := hide hrf
    have HRN := hide hrn
    clear hnx hrf hrn
    unfold setV setC at HRF ⊢
    go_upto_region 6 with fail
    have hbs := Blk.new w3 24 (setC F).toArray
    have hal := (Below.refl w3.heap.size w3).alloc (Nat.le_refl _) (.cells (setC F).toArray 24)
    obtain ⟨w4, hw4⟩ : ∃ y, y = w3.alloc (.cells (setC F).toArray 24) := ⟨_, rfl⟩
    rw [← hw4] at hbs hal
    have H4 := hide (And.intro (H3.out.1.trans (hal.mono H3.out.1.size)) (And.intro (H3.out.2.next hal) hbs))
    unfold setC at hw4
    rw [← hw4]
    clear hbs hal hw4 H3
    generalize w3.heap.size = g7 at *
    go_wp2_with (refine wpList_load_cells rfl 27 _ rfl ⟨w.heap.size, 0, none⟩ rfl (t.hd.cells (.slice A t.subs.length c)) _ Tryd.underlying27 rfl (by rw [Tryd.sizeNode]; simp [Hd.cells_length]) (cells_of_blkN H4.out.2.1) ?_)
    refine (HNx.out w4 H4.out.1 (HI.out w4 H4.out.1)).mono ?_
    rintro e w5 ⟨rfl, hb⟩
    have H5 := hide (And.intro (H4.out.1.trans (hb.mono H4.out.1.size)) (And.intro (H4.out.2.1.next hb) (H4.out.2.2.next hb)))
    clear hb H4 HNx
    unfold optN
    go_wp2_with (refine wpList_load_cells rfl 27 _ rfl ⟨w.heap.size, 0, none⟩ rfl (t.hd.cells (.slice A t.subs.length c)) _ Tryd.underlying27 rfl (by rw [Tryd.sizeNode]; simp [Hd.cells_length]) (cells_of_blkN H5.out.2.1) ?_)
    refine (HCk.out hN w5 (HI.out w5 H5.out.1)).mono ?_
    rintro e w6 ⟨rfl, hb⟩
    have H6 := hide (And.intro (H5.out.1.trans (hb.mono H5.out.1.size)) (And.intro (H5.out.2.1.next hb) (H5.out.2.2.next hb)))
    clear hb H5 HCk
    cases hck : t.check with
    | some q =>
      obtain ⟨rfl, rfl, rfl⟩ := HNo.out q hck
      have gz : decide (t.chkN = 0) = false := decide_eq_false (T.chkN_some hck)
      have gz' : t.chkN ≠ 0 := T.chkN_some hck
      have c6 := H6.out.2.2.cell
      rw [set_none] at c6
      have hes := fun W => run_eql_set W 0 0 0 0 0 0 0 0
      generalize t.chkN = n at *
      clear hck HNo HRF HRN
      go_wp2_with fail
      refine bodyPost_ret (v := .bool true) (by simp [results, Tryd.results4, go_sem]) rfl ?_
      exact ⟨rfl, H6.out.1⟩
    | none =>
      have gz : t.chkN = 0 := T.chkN_none hck
      rw [gz]
      have HF := hide (HRF.out hck)
      have HX := hide (HRN.out hck)
      clear hck HNo HRF HRN gz
      go_wp2_with (refine wpList_load_cells rfl 27 _ rfl ⟨w.heap.size, 0, none⟩ rfl (t.hd.cells (.slice A t.subs.length c)) _ Tryd.underlying27 rfl (by rw [Tryd.sizeNode]; simp [Hd.cells_length]) (cells_of_blkN H6.out.2.1) ?_)
      refine (HF.out w6 (HI.out w6 H6.out.1)).mono ?_
      rintro e w7 ⟨rfl, hb⟩
      have H7 := hide (And.intro (H6.out.1.trans (hb.mono H6.out.1.size)) (And.intro (H6.out.2.1.next hb) (H6.out.2.2.next hb)))
      clear hb H6 HF
      go_upto_region 10 with fail
      have hbs := Blk.new w7 24 (setC F).toArray
      have hal := (Below.refl w7.heap.size w7).alloc (Nat.le_refl _) (.cells (setC F).toArray 24)
      obtain ⟨w8, hw8⟩ : ∃ y, y = w7.alloc (.cells (setC F).toArray 24) := ⟨_, rfl⟩
      rw [← hw8] at hbs hal
      have H8 := hide (And.intro (H7.out.1.trans (hal.mono H7.out.1.size)) (And.intro (H7.out.2.1.next hal) (And.intro (H7.out.2.2.next hal) hbs)))
      unfold setC at hw8
      rw [← hw8]
      clear hbs hal hw8 H7
      generalize w7.heap.size = g11 at *
      go_wp2_with (refine wpList_load_cells rfl 27 _ rfl ⟨w.heap.size, 0, none⟩ rfl (t.hd.cells (.slice A t.subs.length c)) _ Tryd.underlying27 rfl (by rw [Tryd.sizeNode]; simp [Hd.cells_length]) (cells_of_blkN H8.out.2.1) ?_)
      refine (HX.out w8 (HI.out w8 H8.out.1)).mono ?_
      rintro e w9 ⟨rfl, hb⟩
      have H9 := hide (And.intro (H8.out.1.trans (hb.mono H8.out.1.size)) (And.intro (H8.out.2.2.1.next hb) (H8.out.2.2.2.next hb)))
      clear hb H8 HX
      have c7 := H9.out.2.1.cell
      have c11 := H9.out.2.2.cell
      unfold setC at c7 c11
      have hes := fun W => run_eql_set W (wd F 0) (wd F 1) (wd F 2) (wd F 3) (wd F 0) (wd F 1) (wd F 2) (wd F 3)
      cases nx with
      | none =>
        simp only [nextI, Option.getD_none, Option.isSome_none]
        have e0 : max (-1 : Int) 0 = 0 := by decide
        cases nb <;> (
          go_wp2_with fail
          refine bodyPost_ret (v := .bool true) (by simp [results, Tryd.results4, go_sem, e0]) rfl ?_
          exact ⟨rfl, H9.out.1⟩)
      | some k =>
        simp only [nextI, Option.getD_some, Option.isSome_some]
        have e1 : decide ((0 : Int) ≤ (k : Int)) = true := decide_eq_true (by omega)
        cases nb <;> (
          go_wp2_with fail
          refine bodyPost_ret (v := .bool true) (by simp [results, Tryd.results4, go_sem]) rfl ?_
          exact ⟨rfl, H9.out.1⟩)
theorem nexts_law (t : T) (A : Option Addr) (c : Nat) (s : ByteArray) (z : Int) (w : World) (a : Nat → Addr) (hwf : t.wf) (hin : T.In w (· < w.heap.size) t A) (hs : s.size ≤ 9223372036854775807) (hz : IsI64 z) (hE : Sent [0, 1, 2] w a) (hT : Tab w) :
    Calls Tryd.prog 4 #[.agg (t.hd.cells (.slice A t.subs.length c)).toArray, .string s, .int .i64 z] w fun e w' => e = .returned (.bool true) ∧ Below w.heap.size w w' := nexts_true t A c s z w a hwf hs hz hT hE hin
end Go.Proofs.YtbbhobojghmkpaaDoor

/-! ## NeedNextsProof -/
namespace Go.Proofs.YtbbhobojghmkpaaDoor
open Go.ChangeShapes Go.WideShapes Go.ChangeAt Go.RowKit

theorem own : ownKnob Tryd.prog.godebug = none := by kernel_rfl
theorem laidOut : laidOutB Tryd.prog = true := by kernel_rfl
theorem star : ("*" ++ "errors.errorString" : String) = "*errors.errorString" := by decide
theorem rowE (u : TypeId) (h : Tryd.prog.typeName? 3 u = some "*errors.errorString") : u = 169 :=
  typeName_ptr_named (nm := "errors.errorString") (by rw [star]; kernel_rfl) (by kernel_rfl) (by decide) u (by rw [star]; exact h)

theorem agg_of {v : Value} {cs : Array Value} {l : List Value} (h : v = .agg cs) (hl : v.cells.toList = l) : v = .agg l.toArray := by
  subst h
  subst hl
  simp [Value.cells]

theorem env_of_laid {W : World} (h : laidMetH Tryd.prog Rows.needNextsRow.laid W) : ∃ a, Sent [0, 1, 2] W a ∧ Tab W := by
  rw [Go.MakeChecks.laidMetH_plain Tryd.prog Rows.needNextsRow.laid W (by kernel_rfl)] at h
  have ht := tab_of_met h (by simp only [Rows.needNextsRow, Rows.laid_math_bits_deBruijn64tab]; exact List.mem_of_getElem? (i := 0) rfl)
  obtain ⟨a, ha⟩ := sent_of_met (S := [0, 1, 2]) h rowE (fun g hg => by
    simp only [List.mem_cons, List.not_mem_nil, or_false] at hg
    rcases hg with e | e | e <;> subst e
    · exact ⟨ "trawl/api.ErrTree", _, List.mem_of_getElem? (i := 2) rfl, by kernel_rfl, by kernel_rfl⟩
    · exact ⟨ "trawl/api.ErrDeep", _, List.mem_of_getElem? (i := 3) rfl, by kernel_rfl, by kernel_rfl⟩
    · exact ⟨ "trawl/api.ErrTooBig", _, List.mem_of_getElem? (i := 1) rfl, by kernel_rfl, by kernel_rfl⟩)
  exact ⟨a, ha, ht⟩

theorem door_met (os : Os) (args : Array Value) : laidMetH Tryd.prog Rows.needNextsRow.laid ((World.doorLaid Tryd.prog 420 os).forCall (fun _ _ => 0) ⟨#[], args, []⟩).memory :=
  laidMetH_of_parts3 (fuel := 8) (laidMet_of_run' 8 (by kernel_rfl) (by kernel_rfl)) (by kernel_rfl) (by kernel_rfl)

set_option maxRecDepth 100000 in
theorem lifted (os : Os) (started : os.Started) (H : Type) (enc : TypeId × Value → H) :
    ReturnsInHanded {} Tryd.checked os 4 .any (fun w args => (Rows.needNextsSpec.pre enc Tryd.prog Tryd.f4 [] false w args ∧ laidMetH Tryd.prog Rows.needNextsRow.laid w) ∧ sizedMet enc Tryd.prog Tryd.f4 (OpenSpec.ofChange Rows.needNextsSpec) false w args)
      (Rows.needNextsSpec.post enc Tryd.prog Tryd.f4 false true false false) := by
  refine returnsInHanded_of_change_and (C := Tryd.checked) (X := fun w _ => laidMetH Tryd.prog Rows.needNextsRow.laid w) (fun _ _ _ hh h => h.of_heap hh) own started (by kernel_rfl) Tryd.func4
    (ChangeSpec.witness_shaped (enc := enc) (C := Tryd.checked) (os := os) (X := fun w _ => laidMetH Tryd.prog Rows.needNextsRow.laid w) false (World.doorLaid Tryd.prog 420 os) #[.agg zeroCells, .string ⟨#[]⟩, .int .i64 0] 8 rfl (World.shaped_of_RefB (by kernel_rfl) (by kernel_rfl)) (by kernel_rfl) (by kernel_rfl) (by kernel_rfl) (door_met os _)) ?_
  intro W base args ds gs before hval0 hW _ hsz0 hL _
  have hval : ∀ (j : Nat) t v, Tryd.f4.params[j]? = some t → args[j]? = some v → Value.okWide Tryd.prog W .any base t v := hval0
  have hW' := hW
  obtain ⟨p, q, hA0, hV, rfl, hfz, hnd⟩ := hW
  have hA : DataW.TrodAll enc Tryd.prog W 0 (fun _ => true) true Tryd.f4.params.toList args.toList ds p := hA0
  have hsz : (DataW.weightsEach Tryd.prog (Tryd.f4.params.toList ++ []) (ds ++ gs)).all (· ≤ reachBytes) = true := hsz0
  rw [Tryd.params4] at hA hval hsz
  obtain ⟨v0, vs0, d0, ds0, p0, q0, e0, rfl, rfl, h0, r0⟩ := trodAll_cons hA
  obtain ⟨v1, vs1, d1, ds1, p1, q1, e1, rfl, rfl, h1, r1⟩ := trodAll_cons r0
  obtain ⟨v2, vs2, d2, ds2, p2, q2, e2, rfl, rfl, h2, r2⟩ := trodAll_cons r1
  obtain ⟨rfl, rfl, rfl⟩ := trodAll_nil r2
  subst e2
  subst e1
  obtain rfl : args = #[v0, v1, v2] := by cases args; simp_all
  obtain ⟨rfl, rfl⟩ := trodVars_none hV
  have k0 := h0
  have lt0 : ∀ x ∈ p0, x.block < W.heap.size := by obtain ⟨m, hm⟩ := k0; exact DataW.trod_lt m _ _ _ hm
  have k1 := h1
  have lt1 : ∀ x ∈ p1, x.block < W.heap.size := by obtain ⟨m, hm⟩ := k1; exact DataW.trod_lt m _ _ _ hm
  have k2 := h2
  have lt2 : ∀ x ∈ p2, x.block < W.heap.size := by obtain ⟨m, hm⟩ := k2; exact DataW.trod_lt m _ _ _ hm
  obtain ⟨t0, A0, c0, e0, hin0, hwf0⟩ : ∃ (t : T) (A : Option Addr) (c : Nat), v0.cells.toList = t.hd.cells (.slice A t.subs.length c) ∧ T.In W (· < W.heap.size) t A ∧ t.wf := by
    obtain ⟨fuel, hf⟩ := h0
    exact trod_node fuel _ _ hf
  obtain ⟨cs0, hv0, _⟩ := okWide_struct Tryd.underlying27 (hval 0 27 v0 rfl rfl)
  have ev0 := agg_of hv0 e0
  clear hv0 e0
  subst ev0
  obtain ⟨s1, e1, hs1⟩ : ∃ s : ByteArray, v1 = .string s ∧ s.size ≤ 9223372036854775807 := by
    obtain ⟨s, e, f, _, hw⟩ := Go.ChangeMaps.open_string Tryd.underlying9 (hval 1 9 v1 rfl rfl) h1
    exact ⟨s, e, hw⟩
  subst e1
  obtain ⟨n2, e2, hn2⟩ : ∃ n : Int, v2 = .int .i64 n ∧ IsI64 n := by
    obtain ⟨n, e, _, _, hw⟩ := open_int Tryd.underlying3 (hval 2 3 v2 rfl rfl) h2
    exact ⟨n, e, bounds_i64 hw⟩
  subst e2
  obtain ⟨a, ha, hb⟩ := env_of_laid hL
  clear hA0 hval0 hval hA
  refine (nexts_law t0 A0 c0 s1 n2 W a hwf0 hin0 hs1 hn2 ha hb).mono fun e W' ⟨he, bel⟩ => ?_
  subst he
  exact ⟨_, rfl, _, _, _, [], _, [], hW', trodAll_mk1 (shut_bool Tryd.underlying4 _), (trodAll_cons_mk (Below.trod laidOut (by kernel_rfl) (of_decide_eq_true (by kernel_rfl)) k0 bel lt0) (trodAll_cons_mk (Below.trod laidOut (by kernel_rfl) (of_decide_eq_true (by kernel_rfl)) k1 bel lt1) (trodAll_cons_mk (Below.trod laidOut (by kernel_rfl) (of_decide_eq_true (by kernel_rfl)) k2 bel lt2) trodAll_mk0))), rfl, bel.frame _, fun h => by cases h⟩

theorem said : Rows.NeedNextsSaid :=
  OpenClaim.holds_of_wide 4 Tryd.f4 rfl rfl rfl rfl rfl rfl rfl ⟨rfl, rfl, rfl, rfl, rfl⟩ rfl rfl rfl rfl rfl (by kernel_rfl) Tryd.func4 (by kernel_rfl)
    (of_decide_eq_true (by kernel_rfl)) (by unfold Func.isWrapper; first | (rw [if_pos (by decide +kernel)]; kernel_rfl) | (rw [if_neg (by decide +kernel)]; exact ⟨rfl, rfl⟩))
    (fun os started H enc _ => lifted os started H enc)

theorem plain (f : FuncId) (fn : Func) (hf : Tryd.pinned.checked.prog.funcNamed "trawl/trawllaw20.NeedNexts" = some f) (hfn : Tryd.pinned.checked.prog.funcs[f]? = some fn) :
    false = Tryd.pinned.checked.prog.looks [] ∧ ∀ (j : Nat) t, fn.params[j]? = some t → Tryd.pinned.checked.prog.wantsStandIn t = false := by
  obtain rfl : f = 4 := Option.some.inj ((show Tryd.prog.funcNamed "trawl/trawllaw20.NeedNexts" = some 4 by kernel_rfl).symm.trans hf) |>.symm
  obtain rfl : fn = Tryd.f4 := (Option.some.inj (Tryd.func4.symm.trans hfn)).symm
  refine ⟨by kernel_rfl, fun j t ht => ?_⟩
  rw [Tryd.params4] at ht
  have hm := Array.mem_of_getElem? ht
  simp only [List.mem_toArray, List.mem_cons, List.not_mem_nil, or_false] at hm
  rcases hm with rfl | rfl | rfl
  · exact (show Tryd.prog.wantsStandIn 27 = false by kernel_rfl)
  · exact (show Tryd.prog.wantsStandIn 9 = false by kernel_rfl)
  · exact (show Tryd.prog.wantsStandIn 3 = false by kernel_rfl)

theorem needNexts_holds : Rows.NeedNextsCardSaid :=
  Claim7.holds_tied_plain_at .later [] _ _ _ _ said (fun _ h => by cases h) (by kernel_rfl) (fun _ h => by cases h) needNexts_row_tie rfl ⟨rfl, rfl⟩ (by kernel_rfl) rfl plain (by kernel_rfl)
#print axioms needNexts_holds
end Go.Proofs.YtbbhobojghmkpaaDoor
