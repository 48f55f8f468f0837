/- trawllaw17.PositChecks: it returns true, and what was there stays. -/
import Derived.Test.YtlomjepemnlliaaDoorLives17
import Derived.Test.YtlomjepemnlliaaDoorNum
set_option linter.unusedSimpArgs false
set_option linter.unusedVariables false
namespace Go.Proofs.YtlomjepemnlliaaDoor
open Go.RowKit

def num17 : Option Nat → Int
  | none => 0
  | some g => (g : Int) + 1
theorem num17_any (w : World) (a : Nat → Addr) (r : Option Nat) (hr : ∀ g, r = some g → g < 21) (he : Errs w a) :
    Calls Tryd.prog 17 #[walkErr a r] w fun e w' => e = .returned (.int .i64 (num17 r)) ∧ Below w.heap.size w w' := by
  cases r with
  | none => exact (num_nil w).mono fun e w' ⟨h1, h2⟩ => ⟨h1, h2 ▸ Below.refl _ _⟩
  | some g => exact num_err w a g (hr g rfl) he

set_option maxRecDepth 100000 in
set_option maxHeartbeats 2000000 in
theorem posChecksLaw_true (p : Po) (pa : PoA) (w : World) (a : Nat → Addr) (hwf : p.wf) (hin : PoIn (· < w.heap.size) w p pa) (hG : Errs w a) :
    Calls Tryd.prog 7 #[.agg (p.cells pa).toArray] w fun e w' => e = .returned (.bool true) ∧ Below w.heap.size w w' := by
  have HG := hide (fun x (hx : Below w.heap.size w x) => hG.below hx)
  have HL := hide (fun y (hy : Below w.heap.size w y) => lives17_true y a (fun g hg => (hG.below hy).var g (by
    simp only [List.mem_cons, List.not_mem_nil, or_false] at hg
    omega)))
  have HF := hide (fun y hi => posForm_any p pa y hwf hi)
  have HC := hide (fun y hi he => posCheck_any p pa y a hwf hi he)
  have HIN := hide hin
  clear hwf hin hG
  have hbp := Blk.new w 26 (p.cells pa).toArray
  have hbel := (Below.refl w.heap.size w).alloc (Nat.le_refl _) (.cells (p.cells pa).toArray 26)
  have H0 := hide (And.intro hbel hbp)
  clear hbp hbel
  simp only [Po.cells] at H0 HF HC ⊢
  go_enter Tryd.func7, Tryd.ntmps7
  go_wp2_with fail
  generalize (w.alloc (.cells #[.slice pa.s p.sets.length pa.cs, .int .i64 p.null, .slice pa.f p.first.length pa.cf, .slice pa.l p.last.length pa.cl, .slice pa.w p.follow.length pa.cw] 26)) = W0 at *
  refine (HL.out _ H0.out.1).mono ?_
  rintro e w1 ⟨rfl, hb⟩
  have H1 := hide (And.intro (H0.out.1.trans (hb.mono H0.out.1.size)) (H0.out.2.nxt hb))
  clear hb H0 HL
  have cp := H1.out.2.cell
  go_wp2_with fail
  refine (HF.out _ (HIN.out.next H1.out.1)).mono ?_
  rintro e w2 ⟨b, rfl, hbo, hb⟩
  have H2 := hide (And.intro (H1.out.1.trans (hb.mono H1.out.1.size)) (H1.out.2.nxt hb))
  have HB := hide hbo
  clear hb H1 HF cp hbo
  have HC2 := hide (fun (y : World) (hy : Below w.heap.size w y) => HC.out y (HIN.out.next hy) (fun g hg => (HG.out y hy).var g (by
    simp only [List.mem_cons, List.not_mem_nil, or_false] at hg
    omega)))
  clear HC
  have cp := H2.out.2.cell
  cases b with
  | true =>
    go_wp2_with fail
    refine (HC2.out _ H2.out.1).mono ?_
    rintro e w3 ⟨g, rfl, hgo, hg2, hb⟩
    have hg : g = none := hgo.2 (HB.out.1 (by first | rfl | trivial))
    subst hg
    have H3 := hide (H2.out.1.trans (hb.mono H2.out.1.size))
    clear hb hgo hg2 cp
    have HN := hide (num17_any w3 a none (fun g h => by cases h) (HG.out _ H3.out))
    simp only [walkErr, num17] at HN ⊢
    go_wp2_with fail
    refine HN.out.mono ?_
    rintro e w4 ⟨rfl, hb⟩
    have H4 := hide (H3.out.trans (hb.mono H3.out.size))
    clear hb
    go_wp2_with fail
    go_ret
    exact ⟨rfl, H4.out⟩
  | false =>
    go_wp2_with fail
    refine (HC2.out _ H2.out.1).mono ?_
    rintro e w3 ⟨g, rfl, hgo, hg2, hb⟩
    have hg : g = some 12 := by
      rcases hg2 with h | h
      · exact absurd (HB.out.2 (hgo.1 h)) (by simp)
      · exact h
    subst hg
    have H3 := hide (H2.out.1.trans (hb.mono H2.out.1.size))
    clear hb hgo hg2 cp
    have HN := hide (num17_any w3 a (some 12) (fun g h => by rw [← Option.some.inj h]; decide) (HG.out _ H3.out))
    simp only [walkErr, num17] at HN ⊢
    go_wp2_with fail
    refine HN.out.mono ?_
    rintro e w4 ⟨rfl, hb⟩
    have H4 := hide (H3.out.trans (hb.mono H3.out.size))
    clear hb
    go_wp2_with fail
    go_ret
    exact ⟨rfl, H4.out⟩
end Go.Proofs.YtlomjepemnlliaaDoor
