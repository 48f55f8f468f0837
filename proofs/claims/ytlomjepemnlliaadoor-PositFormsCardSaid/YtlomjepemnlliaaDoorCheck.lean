/- tree.Check: which error a tree bears. -/
import Derived.Test.YtlomjepemnlliaaDoorForm
import Derived.Test.YtlomjepemnlliaaDoorDepth
import Derived.Test.YtlomjepemnlliaaDoorSent
set_option linter.unusedSimpArgs false
set_option linter.unusedVariables false
namespace Go.Proofs.YtlomjepemnlliaaDoor
open Go.RowKit

def T.check (t : T) : Option Nat :=
  if t.form = true then (if 200 < t.depth then some 13 else if 2000 < t.size then some 9 else none) else some 12
def errOf (a : Nat → Addr) : Option Nat → Value
  | none => .nilIface
  | some g => errV (a g)
theorem T.check_lt (t : T) (g : Nat) (h : t.check = some g) : g < 21 := by
  unfold T.check at h
  split at h
  · split at h
    · simp at h; omega
    · split at h
      · simp at h; omega
      · cases h
  · simp at h; omega

set_option maxRecDepth 100000 in
set_option maxHeartbeats 1000000 in
theorem check_any (t : T) (A : Option Addr) (c : Nat) (w : World) (a : Nat → Addr) (hN : t.nodes ≤ 1000000) (hin : T.In w (· < w.heap.size) t A) (he : Sent [12, 13, 9] w a) :
    Calls Tryd.prog 73 #[.agg (t.hd.cells (.slice A t.subs.length c)).toArray] w fun e w' => e = .returned (errOf a t.check) ∧ Below w.heap.size w w' := by
  have H1 := hide (fun x hi => form_any 1000000 t A c x hN (by omega) hi)
  have H2 := hide (fun hf x hi => size_any 1000000 t A c x hN (by omega) hf hi)
  have H3 := hide (fun x hi => depth_any 1000000 t A c x hN (by omega) hi)
  have HIN := hide hin
  have HE : ∀ x, Below w.heap.size w x → x.cell? ⟨12, 0, none⟩ = some (errV (a 12)) ∧ x.cell? ⟨13, 0, none⟩ = some (errV (a 13)) ∧ x.cell? ⟨9, 0, none⟩ = some (errV (a 9)) := fun x hx =>
    ⟨he.below hx _ (by simp), he.below hx _ (by simp), he.below hx _ (by simp)⟩
  have HE' := hide HE
  clear HE he
  have hf : t.check = if t.form = true then (if 200 < t.depth then some 13 else if 2000 < t.size then some 9 else none) else some 12 := rfl
  have HT : ∀ x, Below w.heap.size w x → T.In x (· < x.heap.size) t A := fun x hx => HIN.out.same (same_of_below hx) (fun y hy => Nat.lt_of_lt_of_le hy hx.size)
  have HTT := hide HT
  clear HT HIN hin
  generalize t.check = res at *
  generalize t.form = f at *
  generalize t.size = sz at *
  generalize t.depth = dp at *
  have HF := hide hf
  clear hf
  obtain ⟨h, l⟩ := t
  obtain ⟨kind, s0, s1, s2, s3, num, mn, mx, bare⟩ := h
  simp only [T.hd, T.subs, Hd.cells] at H1 H2 H3 ⊢
  go_enter Tryd.func73, Tryd.ntmps73
  go_wp2_with fail
  refine (H1.out _ (HTT.out _ ((Below.refl _ _).alloc (Nat.le_refl _) _))).mono ?_
  rintro e w1 ⟨rfl, hb⟩
  have hb0 := (Blk.new w 52 _).below hb (by simp)
  have hbel := ((Below.refl _ _).alloc (Nat.le_refl _) _).trans (hb.mono (by simp))
  have c0 := hb0.cell
  have z0 := hb0.lt
  have ⟨v1, _, _⟩ := HE'.out _ hbel
  have hbf := hide hbel
  clear hb hbel
  cases f with
  | false =>
    have hr : res = some 12 := by rw [HF.out]; simp
    have HR := hide hr
    clear hr
    go_wp2_with fail
    go_ret
    exact ⟨by rw [HR.out]; rfl, hbf.out⟩
  | true =>
    clear v1
    go_wp2_with fail
    refine (H3.out _ (HTT.out _ hbf.out)).mono ?_
    rintro e w2 ⟨rfl, hb⟩
    have hbel := hbf.out.trans (hb.mono hbf.out.size)
    have hb1 := hb0.below hb z0
    have c1 := hb1.cell
    have z1 := hb1.lt
    have ⟨_, v2, _⟩ := HE'.out _ hbel
    have hbg := hide hbel
    clear hb hbel c0 hb0
    by_cases hd : 200 < dp
    · have e1 : decide (200 < dp) = true := decide_eq_true hd
      have hr : res = some 13 := by rw [HF.out]; simp [hd]
      have HR := hide hr
      clear hr
      go_wp2_with fail
      go_ret
      exact ⟨by rw [HR.out]; rfl, hbg.out⟩
    · have e1 : decide (200 < dp) = false := decide_eq_false hd
      clear v2
      go_wp2_with fail
      refine (H2.out (by first | rfl | trivial) _ (HTT.out _ hbg.out)).mono ?_
      rintro e w3 ⟨rfl, hb⟩
      have hbel := hbg.out.trans (hb.mono hbg.out.size)
      have ⟨_, _, v3⟩ := HE'.out _ hbel
      have hbh := hide hbel
      clear hb hbel c1 hb1
      by_cases hs : 2000 < sz
      · have e2 : decide (2000 < sz) = true := decide_eq_true hs
        have hr : res = some 9 := by rw [HF.out]; simp [hd, hs]
        have HR := hide hr
        clear hr
        go_wp2_with fail
        go_ret
        exact ⟨by rw [HR.out]; rfl, hbh.out⟩
      · have e2 : decide (2000 < sz) = false := decide_eq_false hs
        have hr : res = none := by rw [HF.out]; simp [hd, hs]
        have HR := hide hr
        clear hr
        go_wp2_with fail
        go_ret
        exact ⟨by rw [HR.out]; rfl, hbh.out⟩
end Go.Proofs.YtlomjepemnlliaaDoor
