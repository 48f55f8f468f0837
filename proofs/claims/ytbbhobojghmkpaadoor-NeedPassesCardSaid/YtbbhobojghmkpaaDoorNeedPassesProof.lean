/- PassesLaw20: trawllaw20.NeedPasses: for every tree, subject and place true, and what was there stays. (Printed by gen_passeslaw20.py.)
NeedPassesProof: trawl/trawllaw20.NeedPasses: for every tree, subject and place, the call answers true, and what it was given reads afterwards as before; the program's variables lie as its text lays them (the card ties that). Conditions: those of the given card alone. (Printed by gen_card.py.) -/
import Derived.Test.YtbbhobojghmkpaaDoorLives20
import Derived.Test.YtbbhobojghmkpaaDoorNeedLaw
import Derived.Test.YtbbhobojghmkpaaDoorAlgLaw
import Derived.Test.YtbbhobojghmkpaaDoorSceneNew
import Derived.Test.YtbbhobojghmkpaaDoorRows
import Derived.Test.YtbbhobojghmkpaaDoorCards
import Derived.Test.YtbbhobojghmkpaaDoorTie
import Derived.Test.YtbbhobojghmkpaaDoorReads
import Derived.WalkKit
import Derived.ProofKit
import Derived.LaidMore
import Derived.OpenShut
import Derived.ChangeOld
import Derived.Below
import Derived.Stop.Joined
import Derived.SevenTiedAt
import Derived.MakeChecks
set_option linter.unusedSimpArgs false
set_option linter.unusedVariables false
set_option linter.unnecessarySimpa false

/-! ## PassesLaw20 -/
namespace Go.Proofs.YtbbhobojghmkpaaDoor
open Go.RowKit

/-- What the walk keeps: the tree's box, the view's box. -/
structure PV (w : World) (cs vs : Array Value) (y : World) : Prop where
  below : Below w.heap.size w y
  box : Blk y w.heap.size 27 cs
  view : Blk y (w.heap.size + 1) 52 vs
theorem PV.next {w y y' : World} {cs vs : Array Value} (h : PV w cs vs y) (hb : Below y.heap.size y y') : PV w cs vs y' := ⟨h.below.trans (hb.mono h.below.size), h.box.next hb, h.view.next hb⟩
theorem three_of_five {w : World} {a : Nat → Addr} (h : Env w a) : Sent [0, 1, 2] w a := h.sent.mono (fun g hg => by
  simp only [five, List.mem_cons, List.not_mem_nil, or_false] at hg ⊢
  omega)
set_option maxRecDepth 100000 in
set_option maxHeartbeats 4000000 in
theorem passesLaw_true (t : T) (A : Option Addr) (c : Nat) (s : ByteArray) (cf ef z : Int) (w : World) (a : Nat → Addr) (hwf : t.wf) (hin : T.In w (· < w.heap.size) t A) (hs : s.size ≤ 140737488355328) (hcf : IsI64 cf) (hef : IsI64 ef) (hz : IsI64 z) (hE : Env w a) :
    Calls Tryd.prog 8 #[.agg (t.hd.cells (.slice A t.subs.length c)).toArray, .agg [.string s, .int .i64 cf, .int .i64 ef].toArray, .int .i64 z] w fun e w' => e = .returned (.bool true) ∧ Below w.heap.size w w' := by
  have hne := fun y ad => run_neq_iface_nil (P := Tryd.prog) (w := y) 49 (by kernel_rfl) 169 (.pointer (some ad))
  have hnn := fun y => run_neq_nil_nil_at (P := Tryd.prog) (w := y) 49 (by kernel_rfl)
  have HEn := hide (fun y (hy : Below w.heap.size w y) => hE.below hy)
  have HI := hide (fun x (hx : Below w.heap.size w x) => (hin.same (same_of_below hx) (fun y hy => Nat.lt_of_lt_of_le hy hx.size) : T.In x (· < x.heap.size) t A))
  have HLv := hide (fun y (hy : Below w.heap.size w y) => lives20_any y a (hE.below hy).tab (three_of_five (hE.below hy)))
  have HLg := hide (fun (y : World) (hy : Below w.heap.size w y) => longN_any t A c y hwf (HI.out y hy))
  have HCk := hide (fun (hN : t.nodes ≤ 2500) (y : World) (hy : Below w.heap.size w y) => check_any t A c y a (Nat.le_trans hN (by decide)) (HI.out y hy) (three_of_five (hE.below hy)))
  have HNx := hide (fun (hN : t.nodes ≤ 2500) (h4 : s.size ≤ 40) (q : Int) (y : World) (hy : Below w.heap.size w y) => next_any t A c s q y a (by omega) (Nat.le_trans hN (by decide)) hwf (hE.below hy).tab (three_of_five (hE.below hy)) (HI.out y hy))
  have HR := hide (fun (hN : t.nodes ≤ 2500) (hck : t.check = none) (x : Sc) (b m : Nat) (i : Nat) (hi : i ≤ x.len) (hl : x.len ≤ 40) (y : World) (hy : Below w.heap.size w y) (hsc : Scn y b m x) => ends_fine t A c (i : Int) a (Nat.le_trans hN (by decide)) hwf (by unfold IsI64; omega) (by omega) (by omega) (by omega) hck y (HI.out y hy) hsc (hE.below hy))
  clear hin hE hwf HEn
  simp only [Hd.cells] at HLg HCk HNx HR ⊢
  have hbel := ((Below.refl w.heap.size w).alloc (Nat.le_refl _) (.cells #[.int .i64 t.hd.kind, .int .u64 t.hd.s0, .int .u64 t.hd.s1, .int .u64 t.hd.s2, .int .u64 t.hd.s3, .slice A t.subs.length c, .int .i64 t.hd.num, .int .i64 t.hd.min, .int .i64 t.hd.max, .bool t.hd.bare] 27)).alloc (by simp) (.cells #[.string s, .int .i64 cf, .int .i64 ef] 52)
  have hbt := (Blk.new w 27 #[.int .i64 t.hd.kind, .int .u64 t.hd.s0, .int .u64 t.hd.s1, .int .u64 t.hd.s2, .int .u64 t.hd.s3, .slice A t.subs.length c, .int .i64 t.hd.num, .int .i64 t.hd.min, .int .i64 t.hd.max, .bool t.hd.bare]).alloc (.cells #[.string s, .int .i64 cf, .int .i64 ef] 52)
  have hbv := Blk.new (w.alloc (.cells #[.int .i64 t.hd.kind, .int .u64 t.hd.s0, .int .u64 t.hd.s1, .int .u64 t.hd.s2, .int .u64 t.hd.s3, .slice A t.subs.length c, .int .i64 t.hd.num, .int .i64 t.hd.min, .int .i64 t.hd.max, .bool t.hd.bare] 27)) 52 #[.string s, .int .i64 cf, .int .i64 ef]
  rw [World.size_alloc] at hbv
  have H0 := hide (PV.mk hbel hbt hbv)
  clear hbel hbt hbv
  go_enter Tryd.func8, Tryd.ntmps8
  go_wp2_with fail
  generalize ((w.alloc (.cells #[.int .i64 t.hd.kind, .int .u64 t.hd.s0, .int .u64 t.hd.s1, .int .u64 t.hd.s2, .int .u64 t.hd.s3, .slice A t.subs.length c, .int .i64 t.hd.num, .int .i64 t.hd.min, .int .i64 t.hd.max, .bool t.hd.bare] 27)).alloc (.cells #[.string s, .int .i64 cf, .int .i64 ef] 52)) = w0 at *
  refine (HLv.out w0 H0.out.below).mono ?_
  rintro e w1 ⟨rfl, hb⟩
  have H1 := hide (H0.out.next hb)
  clear hb HLv H0
  have c1 := H1.out.box.cell
  have v1 := H1.out.view.cell
  go_wp2_with fail
  refine (HLg.out w1 H1.out.below).mono ?_
  rintro e w2 ⟨lg, rfl, hlg, hb⟩
  have H2 := hide (H1.out.next hb)
  clear hb H1 HLg c1 v1
  have c2 := H2.out.box.cell
  have v2 := H2.out.view.cell
  cases lg with
  | true =>
    clear hlg
    go_wp2_with fail
    go_ret
    exact ⟨rfl, H2.out.below⟩
  | false =>
    have hN := hlg rfl
    clear hlg
    by_cases h40 : (40 : Int) < (s.size : Int)
    · have g1 : decide ((40 : Int) < (s.size : Int)) = true := decide_eq_true h40
      have g2 : 40 < s.size := by omega
      go_wp2_with fail
      go_ret
      exact ⟨rfl, H2.out.below⟩
    have g1 : decide ((40 : Int) < (s.size : Int)) = false := decide_eq_false h40
    have g2 : ¬ 40 < s.size := by omega
    have hs40 : s.size ≤ 40 := by omega
    go_wp2_with fail
    refine (HCk.out hN w2 H2.out.below).mono ?_
    rintro e w3 ⟨rfl, hb⟩
    have H3 := hide (H2.out.next hb)
    clear hb H2 HCk c2 v2
    have c3 := H3.out.box.cell
    have v3 := H3.out.view.cell
    have HPN := hide (fun (hc : t.check = none) (n : Nat) (hn : n ≤ s.size) (h : t.nextOf s (n : Int) = none) (x : Sc) (hm : ∀ i, x.mark i < 4) (hx : x.text = s) => (by subst hx; exact T.next_none hm hc hn h : ∀ i j, n ≤ i → i ≤ x.len → ¬ t.R x i j))
    have HPS := hide (fun (hc : t.check = none) (n k : Nat) (hn : n ≤ s.size) (h : t.nextOf s (n : Int) = some k) (x : Sc) (hm : ∀ i, x.mark i < 4) (hx : x.text = s) => (by subst hx; exact T.next_some hm hc hn h : n ≤ k ∧ k ≤ x.len ∧ (∀ i j, n ≤ i → i < k → ¬ t.R x i j) ∧ t.nextOf x.text (k : Int) = some k))
    have HLow := hide (fun (hc : t.check = none) (q : Int) (h : q < 0 ∨ (s.size : Int) < q) => (by unfold T.nextOf; rw [hc]; exact if_pos h : t.nextOf s q = none))
    cases hck : t.check with
    | some q =>
      simp only [errOf, errV]
      clear hck HPN HPS HLow HR HNx
      go_wp2_with fail
      go_ret
      exact ⟨rfl, H3.out.below⟩
    | none =>
      simp only [errOf]
      have HR := hide (HR.out hN hck)
      have HPN := hide (HPN.out hck)
      have HPS := hide (HPS.out hck)
      have HLow := hide (HLow.out hck)
      have HNx := hide (HNx.out hN hs40)
      clear hck
      go_wp2_with fail
      refine (HNx.out z w3 H3.out.below).mono ?_
      rintro e w4 ⟨rfl, hb⟩
      have H4 := hide (H3.out.next hb)
      clear hb H3 c3 v3
      have c4 := H4.out.box.cell
      have v4 := H4.out.view.cell
      by_cases hz0 : z < 0
      · have g3 : decide (z < 0) = true := decide_eq_true hz0
        rw [HLow.out z (.inl hz0)]
        simp only [optN, Option.getD_none, Option.isSome_none]
        clear HLow HPN HPS HR HNx
        go_wp2_with fail
        go_ret
        exact ⟨rfl, H4.out.below⟩
      have g3 : decide (z < 0) = false := decide_eq_false hz0
      by_cases hz1 : (s.size : Int) < z
      · have g4 : decide ((s.size : Int) < z) = true := decide_eq_true hz1
        rw [HLow.out z (.inr hz1)]
        simp only [optN, Option.getD_none, Option.isSome_none]
        clear HLow HPN HPS HR HNx
        go_wp2_with fail
        go_ret
        exact ⟨rfl, H4.out.below⟩
      have g4 : decide ((s.size : Int) < z) = false := decide_eq_false hz1
      obtain ⟨zn, rfl⟩ : ∃ zn : Nat, z = (zn : Int) := ⟨z.toNat, by omega⟩
      have hzn : zn ≤ s.size := by omega
      clear HLow hz
      cases hnx : t.nextOf s (zn : Int) with
      | none =>
        simp only [optN, Option.getD_none, Option.isSome_none]
        have HNo := hide (HPN.out zn hzn hnx)
        clear HPN HPS HNx hnx
        go_wp2_with fail
        refine (new_any s cf ef w4 hs).mono ?_
        rintro e w6 ⟨b, m, x, rfl, hscn, hxt, _, _, _, hb⟩
        have hxl : x.len = s.size := by rw [← hxt]; rfl
        have HQ := hide (fun i (h1 : zn ≤ i) (h2 : i < (s.size + 1)) j => HNo.out x hscn.small hxt i j h1 (by omega))
        have H6 := hide (And.intro (H4.out.next hb) hscn)
        clear hb hscn hxt H4 c4 v4 HNo
        go_wp2_with fail
        go_loopw [13] (fun iv wr => ∃ i : Nat, iv = .int .i64 i ∧ zn ≤ i ∧ i ≤ (s.size + 1) ∧ PV w #[.int .i64 t.hd.kind, .int .u64 t.hd.s0, .int .u64 t.hd.s1, .int .u64 t.hd.s2, .int .u64 t.hd.s3, .slice A t.subs.length c, .int .i64 t.hd.num, .int .i64 t.hd.min, .int .i64 t.hd.max, .bool t.hd.bare] #[.string s, .int .i64 cf, .int .i64 ef] wr ∧ Scn wr b m x) (fun iv _ => (s.size + 1) - (intOf iv).toNat)
        case atStart => exact ⟨zn, rfl, Nat.le_refl _, by omega, H6.out.1, H6.out.2⟩
        case round =>
          obtain ⟨i, rfl, hi1, hi2, hpv, hsc⟩ := hrel
          have HH := hide (And.intro hpv hsc)
          clear hpv hsc
          by_cases hlt : i < (s.size + 1)
          case neg =>
            have g5 : decide ((i : Int) < ((s.size : Int) + 1)) = false := decide_eq_false (by omega)
            have g6 : ¬ (i : Int) < ((s.size : Int) + 1) := by omega
            go_wp2_with fail
            go_ret
            exact ⟨rfl, HH.out.1.below⟩
          have g5 : decide ((i : Int) < ((s.size : Int) + 1)) = true := decide_eq_true (by omega)
          have g6 : (i : Int) < ((s.size : Int) + 1) := by omega
          have cr := HH.out.1.box.cell
          go_wp2_with fail
          refine (HR.out x b m i (by omega) (by omega) wr HH.out.1.below HH.out.2).mono ?_
          rintro e w7 ⟨v, r, rfl, hown, hends, hb⟩
          have hr := ends_none hends (by omega) (by rw [Int.toNat_natCast]; exact HQ.out i hi1 hlt)
          subst hr
          obtain ⟨LA, lc, rfl, _, _⟩ := hown.form
          have H7 := hide (And.intro (HH.out.1.next hb) (HH.out.2.below hb))
          clear hb hown hends HH cr
          simp only [List.length_nil]
          go_wp2_with fail
          go_roundw
          case rel => exact ⟨i + 1, by go_num, by omega, by omega, H7.out.1, H7.out.2⟩
          case measure => simp [intOf]; omega
      | some k =>
        simp only [optN, Option.getD_some, Option.isSome_some]
        obtain ⟨hk1, hk2, _, hk4⟩ := HPS.out zn k hzn hnx ⟨s, []⟩ (fun i => by simp [Sc.mark]) rfl
        have hk4' : t.nextOf s (k : Int) = some k := hk4
        have hk2' : k ≤ s.size := hk2
        have HNo := hide (fun (x : Sc) hm hx => (HPS.out zn k hzn hnx x hm hx).2.2.1)
        clear HPN HPS hnx hk4 hk2
        go_wp2_with fail
        refine (HNx.out (k : Int) w4 H4.out.below).mono ?_
        rw [hk4']
        rintro e w5 ⟨rfl, hb⟩
        replace H4 := hide (H4.out.next hb)
        clear hb c4 v4 HNx hk4'
        have c4 := H4.out.box.cell
        have v4 := H4.out.view.cell
        simp only [optN, Option.getD_some, Option.isSome_some]
        have k1 : ¬ (k : Int) < (zn : Int) := by omega
        have k2 : decide ((k : Int) < (zn : Int)) = false := decide_eq_false k1
        have k3 : ¬ (s.size : Int) < (k : Int) := by omega
        have k4 : decide ((s.size : Int) < (k : Int)) = false := decide_eq_false k3
        have k1' : ¬ k < zn := by omega
        have k3' : ¬ s.size < k := by omega
        go_wp2_with fail
        refine (new_any s cf ef w5 hs).mono ?_
        rintro e w6 ⟨b, m, x, rfl, hscn, hxt, _, _, _, hb⟩
        have hxl : x.len = s.size := by rw [← hxt]; rfl
        have HQ := hide (fun i (h1 : zn ≤ i) (h2 : i < k) j => HNo.out x hscn.small hxt i j h1 (by omega))
        have H6 := hide (And.intro (H4.out.next hb) hscn)
        clear hb hscn hxt H4 c4 v4 HNo
        go_wp2_with fail
        go_loopw [13] (fun iv wr => ∃ i : Nat, iv = .int .i64 i ∧ zn ≤ i ∧ i ≤ k ∧ PV w #[.int .i64 t.hd.kind, .int .u64 t.hd.s0, .int .u64 t.hd.s1, .int .u64 t.hd.s2, .int .u64 t.hd.s3, .slice A t.subs.length c, .int .i64 t.hd.num, .int .i64 t.hd.min, .int .i64 t.hd.max, .bool t.hd.bare] #[.string s, .int .i64 cf, .int .i64 ef] wr ∧ Scn wr b m x) (fun iv _ => k - (intOf iv).toNat)
        case atStart => exact ⟨zn, rfl, Nat.le_refl _, by omega, H6.out.1, H6.out.2⟩
        case round =>
          obtain ⟨i, rfl, hi1, hi2, hpv, hsc⟩ := hrel
          have HH := hide (And.intro hpv hsc)
          clear hpv hsc
          by_cases hlt : i < k
          case neg =>
            have g5 : decide ((i : Int) < (k : Int)) = false := decide_eq_false (by omega)
            have g6 : ¬ (i : Int) < (k : Int) := by omega
            go_wp2_with fail
            go_ret
            exact ⟨rfl, HH.out.1.below⟩
          have g5 : decide ((i : Int) < (k : Int)) = true := decide_eq_true (by omega)
          have g6 : (i : Int) < (k : Int) := by omega
          have cr := HH.out.1.box.cell
          go_wp2_with fail
          refine (HR.out x b m i (by omega) (by omega) wr HH.out.1.below HH.out.2).mono ?_
          rintro e w7 ⟨v, r, rfl, hown, hends, hb⟩
          have hr := ends_none hends (by omega) (by rw [Int.toNat_natCast]; exact HQ.out i hi1 hlt)
          subst hr
          obtain ⟨LA, lc, rfl, _, _⟩ := hown.form
          have H7 := hide (And.intro (HH.out.1.next hb) (HH.out.2.below hb))
          clear hb hown hends HH cr
          simp only [List.length_nil]
          go_wp2_with fail
          go_roundw
          case rel => exact ⟨i + 1, by go_num, by omega, by omega, H7.out.1, H7.out.2⟩
          case measure => simp [intOf]; omega
end Go.Proofs.YtbbhobojghmkpaaDoor

/-! ## NeedPassesProof -/
namespace Go.Proofs.YtbbhobojghmkpaaDoor
open Go.ChangeShapes Go.WideShapes Go.ChangeAt Go.RowKit

theorem own : ownKnob Tryd.prog.godebug = none := by kernel_rfl
theorem laidOut : laidOutB Tryd.prog = true := by kernel_rfl
theorem star : ("*" ++ "errors.errorString" : String) = "*errors.errorString" := by decide
theorem rowE (u : TypeId) (h : Tryd.prog.typeName? 3 u = some "*errors.errorString") : u = 169 :=
  typeName_ptr_named (nm := "errors.errorString") (by rw [star]; kernel_rfl) (by kernel_rfl) (by decide) u (by rw [star]; exact h)

theorem agg_of {v : Value} {cs : Array Value} {l : List Value} (h : v = .agg cs) (hl : v.cells.toList = l) : v = .agg l.toArray := by
  subst h
  subst hl
  simp [Value.cells]

theorem env_of_laid {W : World} (h : laidMetH Tryd.prog Rows.needPassesRow.laid W) : ∃ a, Env W a := by
  rw [Go.MakeChecks.laidMetH_plain Tryd.prog Rows.needPassesRow.laid W (by kernel_rfl)] at h
  have ht := tab_of_met h (by simp only [Rows.needPassesRow, Rows.laid_math_bits_deBruijn64tab]; exact List.mem_of_getElem? (i := 0) rfl)
  obtain ⟨a, ha⟩ := sent_of_met (S := five) h rowE (fun g hg => by
    simp only [five, List.mem_cons, List.not_mem_nil, or_false] at hg
    rcases hg with e | e | e | e | e <;> subst e
    · exact ⟨ "trawl/api.ErrTooBig", _, List.mem_of_getElem? (i := 1) rfl, by kernel_rfl, by kernel_rfl⟩
    · exact ⟨ "trawl/api.ErrLong", _, List.mem_of_getElem? (i := 2) rfl, by kernel_rfl, by kernel_rfl⟩
    · exact ⟨ "trawl/api.ErrTree", _, List.mem_of_getElem? (i := 3) rfl, by kernel_rfl, by kernel_rfl⟩
    · exact ⟨ "trawl/api.ErrDeep", _, List.mem_of_getElem? (i := 4) rfl, by kernel_rfl, by kernel_rfl⟩
    · exact ⟨ "trawl/api.ErrArgument", _, List.mem_of_getElem? (i := 5) rfl, by kernel_rfl, by kernel_rfl⟩)
  exact ⟨a, ha, ht⟩

theorem door_met (os : Os) (args : Array Value) : laidMetH Tryd.prog Rows.needPassesRow.laid ((World.doorLaid Tryd.prog 420 os).forCall (fun _ _ => 0) ⟨#[], args, []⟩).memory :=
  laidMetH_of_parts3 (fuel := 8) (laidMet_of_run' 8 (by kernel_rfl) (by kernel_rfl)) (by kernel_rfl) (by kernel_rfl)

set_option maxRecDepth 100000 in
theorem lifted (os : Os) (started : os.Started) (H : Type) (enc : TypeId × Value → H) :
    ReturnsInHanded {} Tryd.checked os 8 .any (fun w args => (Rows.needPassesSpec.pre enc Tryd.prog Tryd.f8 [] false w args ∧ laidMetH Tryd.prog Rows.needPassesRow.laid w) ∧ sizedMet enc Tryd.prog Tryd.f8 (OpenSpec.ofChange Rows.needPassesSpec) false w args)
      (Rows.needPassesSpec.post enc Tryd.prog Tryd.f8 false true false false) := by
  refine returnsInHanded_of_change_and (C := Tryd.checked) (X := fun w _ => laidMetH Tryd.prog Rows.needPassesRow.laid w) (fun _ _ _ hh h => h.of_heap hh) own started (by kernel_rfl) Tryd.func8
    (ChangeSpec.witness_shaped (enc := enc) (C := Tryd.checked) (os := os) (X := fun w _ => laidMetH Tryd.prog Rows.needPassesRow.laid w) false (World.doorLaid Tryd.prog 420 os) #[.agg zeroCells, .agg #[.string ⟨#[]⟩, .int .i64 0, .int .i64 0], .int .i64 0] 8 rfl (World.shaped_of_RefB (by kernel_rfl) (by kernel_rfl)) (by kernel_rfl) (by kernel_rfl) (by kernel_rfl) (door_met os _)) ?_
  intro W base args ds gs before hval0 hW _ hsz0 hL _
  have hval : ∀ (j : Nat) t v, Tryd.f8.params[j]? = some t → args[j]? = some v → Value.okWide Tryd.prog W .any base t v := hval0
  have hW' := hW
  obtain ⟨p, q, hA0, hV, rfl, hfz, hnd⟩ := hW
  have hA : DataW.TrodAll enc Tryd.prog W 0 (fun _ => true) true Tryd.f8.params.toList args.toList ds p := hA0
  have hsz : (DataW.weightsEach Tryd.prog (Tryd.f8.params.toList ++ []) (ds ++ gs)).all (· ≤ reachBytes) = true := hsz0
  rw [Tryd.params8] at hA hval hsz
  obtain ⟨v0, vs0, d0, ds0, p0, q0, e0, rfl, rfl, h0, r0⟩ := trodAll_cons hA
  obtain ⟨v1, vs1, d1, ds1, p1, q1, e1, rfl, rfl, h1, r1⟩ := trodAll_cons r0
  obtain ⟨v2, vs2, d2, ds2, p2, q2, e2, rfl, rfl, h2, r2⟩ := trodAll_cons r1
  obtain ⟨rfl, rfl, rfl⟩ := trodAll_nil r2
  subst e2
  subst e1
  obtain rfl : args = #[v0, v1, v2] := by cases args; simp_all
  obtain ⟨rfl, rfl⟩ := trodVars_none hV
  have k0 := h0
  have lt0 : ∀ x ∈ p0, x.block < W.heap.size := by obtain ⟨m, hm⟩ := k0; exact DataW.trod_lt m _ _ _ hm
  have k1 := h1
  have lt1 : ∀ x ∈ p1, x.block < W.heap.size := by obtain ⟨m, hm⟩ := k1; exact DataW.trod_lt m _ _ _ hm
  have k2 := h2
  have lt2 : ∀ x ∈ p2, x.block < W.heap.size := by obtain ⟨m, hm⟩ := k2; exact DataW.trod_lt m _ _ _ hm
  obtain ⟨t0, A0, c0, e0, hin0, hwf0⟩ : ∃ (t : T) (A : Option Addr) (c : Nat), v0.cells.toList = t.hd.cells (.slice A t.subs.length c) ∧ T.In W (· < W.heap.size) t A ∧ t.wf := by
    obtain ⟨fuel, hf⟩ := h0
    exact trod_node fuel _ _ hf
  obtain ⟨cs0, hv0, _⟩ := okWide_struct Tryd.underlying27 (hval 0 27 v0 rfl rfl)
  have ev0 := agg_of hv0 e0
  clear hv0 e0
  subst ev0
  obtain ⟨s1, cf1, ef1, e1, hs1, hcf1, hef1⟩ : ∃ (s : ByteArray) (cf ef : Int), v1.cells.toList = [.string s, .int .i64 cf, .int .i64 ef] ∧ s.size ≤ 140737488355328 ∧ IsI64 cf ∧ IsI64 ef := by
    obtain ⟨fuel, hf⟩ := h1
    obtain ⟨s, cf, ef, g1, g2, g3, g4⟩ := trod_view fuel _ _ hf
    refine ⟨s, cf, ef, g1, ?_, g3, g4⟩
    have h1 := List.all_eq_true.1 hsz _ (DataW.weights_mem_each (j := 1) (t := 52) rfl rfl _ (view_weight g2))
    have h2 := reachBytes_lt
    simp at h1
    omega
  obtain ⟨cs1, hv1, _⟩ := okWide_struct Tryd.underlying52 (hval 1 52 v1 rfl rfl)
  have ev1 := agg_of hv1 e1
  clear hv1 e1
  subst ev1
  obtain ⟨n2, e2, hn2⟩ : ∃ n : Int, v2 = .int .i64 n ∧ IsI64 n := by
    obtain ⟨n, e, _, _, hw⟩ := open_int Tryd.underlying3 (hval 2 3 v2 rfl rfl) h2
    exact ⟨n, e, bounds_i64 hw⟩
  subst e2
  obtain ⟨a, ha⟩ := env_of_laid hL
  clear hA0 hval0 hval hA
  refine (passesLaw_true t0 A0 c0 s1 cf1 ef1 n2 W a hwf0 hin0 hs1 hcf1 hef1 hn2 ha).mono fun e W' ⟨he, bel⟩ => ?_
  subst he
  exact ⟨_, rfl, _, _, _, [], _, [], hW', trodAll_mk1 (shut_bool Tryd.underlying4 _), (trodAll_cons_mk (Below.trod laidOut (by kernel_rfl) (of_decide_eq_true (by kernel_rfl)) k0 bel lt0) (trodAll_cons_mk (Below.trod laidOut (by kernel_rfl) (of_decide_eq_true (by kernel_rfl)) k1 bel lt1) (trodAll_cons_mk (Below.trod laidOut (by kernel_rfl) (of_decide_eq_true (by kernel_rfl)) k2 bel lt2) trodAll_mk0))), rfl, bel.frame _, fun h => by cases h⟩

theorem said : Rows.NeedPassesSaid :=
  OpenClaim.holds_of_wide 8 Tryd.f8 rfl rfl rfl rfl rfl rfl rfl ⟨rfl, rfl, rfl, rfl, rfl⟩ rfl rfl rfl rfl rfl (by kernel_rfl) Tryd.func8 (by kernel_rfl)
    (of_decide_eq_true (by kernel_rfl)) (by unfold Func.isWrapper; first | (rw [if_pos (by decide +kernel)]; kernel_rfl) | (rw [if_neg (by decide +kernel)]; exact ⟨rfl, rfl⟩))
    (fun os started H enc _ => lifted os started H enc)

theorem plain (f : FuncId) (fn : Func) (hf : Tryd.pinned.checked.prog.funcNamed "trawl/trawllaw20.NeedPasses" = some f) (hfn : Tryd.pinned.checked.prog.funcs[f]? = some fn) :
    false = Tryd.pinned.checked.prog.looks [] ∧ ∀ (j : Nat) t, fn.params[j]? = some t → Tryd.pinned.checked.prog.wantsStandIn t = false := by
  obtain rfl : f = 8 := Option.some.inj ((show Tryd.prog.funcNamed "trawl/trawllaw20.NeedPasses" = some 8 by kernel_rfl).symm.trans hf) |>.symm
  obtain rfl : fn = Tryd.f8 := (Option.some.inj (Tryd.func8.symm.trans hfn)).symm
  refine ⟨by kernel_rfl, fun j t ht => ?_⟩
  rw [Tryd.params8] at ht
  have hm := Array.mem_of_getElem? ht
  simp only [List.mem_toArray, List.mem_cons, List.not_mem_nil, or_false] at hm
  rcases hm with rfl | rfl | rfl
  · exact (show Tryd.prog.wantsStandIn 27 = false by kernel_rfl)
  · exact (show Tryd.prog.wantsStandIn 52 = false by kernel_rfl)
  · exact (show Tryd.prog.wantsStandIn 3 = false by kernel_rfl)

theorem needPasses_holds : Rows.NeedPassesCardSaid :=
  Claim7.holds_tied_plain_at .later [] _ _ _ _ said (fun _ h => by cases h) (by kernel_rfl) (fun _ h => by cases h) needPasses_row_tie rfl ⟨rfl, rfl⟩ (by kernel_rfl) rfl plain (by kernel_rfl)
#print axioms needPasses_holds
end Go.Proofs.YtbbhobojghmkpaaDoor
