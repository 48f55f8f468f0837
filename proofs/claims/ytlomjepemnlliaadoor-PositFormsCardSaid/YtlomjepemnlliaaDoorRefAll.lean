/- trawlref04.Size: of any tree. -/
import Derived.Test.YtlomjepemnlliaaDoorRefForm
import Derived.Test.YtlomjepemnlliaaDoorRefSize
set_option linter.unusedSimpArgs false
set_option linter.unusedVariables false
namespace Go.Proofs.YtlomjepemnlliaaDoor
open Go.RowKit

set_option maxRecDepth 100000 in
set_option maxHeartbeats 1000000 in
theorem refSizeAll_any (t : T) (A : Option Addr) (c : Nat) (w : World) (hN : t.nodes ≤ 1000000) (hin : T.In w (· < w.heap.size) t A) :
    Calls Tryd.prog 26 #[.agg (t.hd.cells (.slice A t.subs.length c)).toArray] w fun e w' => e = .returned (.int .i64 t.fullSize) ∧ Below w.heap.size w w' := by
  have H1 := hide (fun x hi => refForm_any 1000000 t A c x hN (by decide) hi)
  have H2 := hide (fun x hf hi => refSize_any 1000000 t A c x hN (by decide) hf hi)
  have HIN : ∀ x, Below w.heap.size w x → T.In x (· < x.heap.size) t A := fun x hx => hin.same (same_of_below hx) (fun y hy => Nat.lt_of_lt_of_le hy hx.size)
  have HI := hide HIN
  have hfs : t.fullSize = if t.form = true then t.size else 0 := rfl
  clear HIN hin hN
  generalize t.fullSize = res at *
  generalize t.form = f at *
  generalize t.size = sz at *
  have HR := hide hfs
  clear hfs
  obtain ⟨h, l⟩ := t
  obtain ⟨kind, s0, s1, s2, s3, num, mn, mx, bare⟩ := h
  simp only [T.hd, T.subs, Hd.cells] at H1 H2 ⊢
  go_enter Tryd.func26, Tryd.ntmps26
  go_wp2_with fail
  refine (H1.out _ (HI.out _ ((Below.refl _ _).alloc (Nat.le_refl _) _))).mono ?_
  rintro e w1 ⟨rfl, hb⟩
  have hb0 := (Blk.new w 52 _).below hb (by simp)
  have hbel := ((Below.refl _ _).alloc (Nat.le_refl _) _).trans (hb.mono (by simp))
  have c0 := hb0.cell
  have HB := hide hbel
  clear hb hbel hb0
  cases f with
  | false =>
    go_wp2_with fail
    go_ret
    exact ⟨by rw [HR.out]; rfl, HB.out⟩
  | true =>
    go_wp2_with fail
    refine (H2.out _ (by first | rfl | trivial) (HI.out _ HB.out)).mono ?_
    rintro e w2 ⟨rfl, hb⟩
    have HH := hide hb
    clear hb
    go_wp2_with fail
    go_ret
    exact ⟨by rw [HR.out]; rfl, HB.out.trans (HH.out.mono HB.out.size)⟩
end Go.Proofs.YtlomjepemnlliaaDoor
