/- reach.Takes: does a tree take the piece between two places. (Printed by gen_takes.py.) -/
import Derived.Test.YtgpmiflfgpnhaaaDoorReach
set_option linter.unusedSimpArgs false
set_option linter.unusedVariables false
set_option linter.unnecessarySimpa false
namespace Go.Proofs.YtgpmiflfgpnhaaaDoor
open Go.RowKit

/-- What Takes answers. -/
def Took (t : T) (x : Sc) (p q : Int) (a : Nat → Addr) (w : World) (e : Ending) (w' : World) : Prop :=
  ∃ r : Bool, e = .returned (.tuple #[.bool r, errOf a (asked t x [p, q])]) ∧ (asked t x [p, q] = none → (r = true ↔ t.R x p.toNat q.toNat)) ∧ (asked t x [p, q] ≠ none → r = false) ∧ Below w.heap.size w w'

theorem T.form_of_check {t : T} (h : t.check = none) : t.form = true := by
  unfold T.check at h
  by_cases hf : t.form = true
  · exact hf
  · rw [if_neg hf] at h; cases h

theorem one_img {R : Nat → Nat → Prop} {i tw : Nat} (h : Img R (2 ^ i) tw) (j : Nat) : tw.testBit j = true ↔ R i j := by
  rw [h j]
  constructor
  · rintro ⟨k, h1, h2⟩
    rw [Nat.testBit_two_pow, decide_eq_true_eq] at h1
    subst h1
    exact h2
  · intro h2
    exact ⟨i, Nat.testBit_two_pow_self, h2⟩
theorem one_fits {n i : Nat} (h : i ≤ n) : Fits n (2 ^ i) := fun j hj => by
  rw [Nat.testBit_two_pow, decide_eq_true_eq] at hj
  omega

set_option maxRecDepth 100000 in
set_option maxHeartbeats 2000000 in
theorem takes_any {x : Sc} {b m : Nat} (t : T) (A : Option Addr) (c : Nat) (p q : Int) (w : World) (a : Nat → Addr) (hN : t.nodes ≤ 1000000) (hwf : t.wf) (hin : T.In w (· < w.heap.size) t A) (hscn : Scn w b m x) (hE : Env w a) (hp : IsI64 p) (hq : IsI64 q) :
    Calls Tryd.prog 31 #[.agg (t.hd.cells (.slice A t.subs.length c)).toArray, .pointer (some ⟨b, 0, none⟩), .int .i64 p, .int .i64 q] w (Took t x p q a w) := by
  have hne := fun y ad => run_neq_iface_nil (P := Tryd.prog) (w := y) 37 (by kernel_rfl) 160 (.pointer (some ad))
  have hnn := fun y => run_neq_nil_nil_at (P := Tryd.prog) (w := y) 37 (by kernel_rfl)
  have HD := hide (show ∀ e w', (∃ r : Bool, e = .returned (.tuple #[.bool r, errOf a (asked t x [p, q])]) ∧ (asked t x [p, q] = none → (r = true ↔ t.R x p.toNat q.toNat)) ∧ (asked t x [p, q] ≠ none → r = false) ∧ Below w.heap.size w w') → Took t x p q a w e w' from fun e w' h => h)
  have HN := hide (@asked_none t x [p, q])
  have HA := hide (fun g y (hy : Below w.heap.size w y) hg => asked_any (x := x) (b := b) (m := m) t A c [p, q] g 2 y a hN (hin.same (same_of_below hy) (fun z hz => Nat.lt_of_lt_of_le hz hy.size)) (hscn.below hy) (hE.below hy) hg (by simp [hp, hq]) (by simp))
  have HSt := hide (fun (hn : x.len ≤ 63) (hf : t.form = true) => step_any 1000000 (b := b) (m := m) hn t hN (by decide) hwf hf A c)
  have HFc := hide (@T.form_of_check t)
  have HH := hide (And.intro hscn (And.intro hE hin))
  clear hscn hE hin hwf hN
  generalize asked t x [p, q] = res at *
  generalize t.check = ck at *
  generalize t.form = fo at *
  generalize t.R x = R at *
  generalize Took t x p q a w = Post at *
  obtain ⟨h, l⟩ := t
  obtain ⟨kind, s0, s1, s2, s3, num, mn, mx, bare⟩ := h
  simp only [T.hd, T.subs, Hd.cells, List.length_cons, List.length_nil, Nat.zero_add, Nat.reduceAdd, List.map_cons, List.map_nil] at HA HSt ⊢
  obtain ⟨hp1, hp2⟩ := hp
  obtain ⟨hq1, hq2⟩ := hq
  go_enter Tryd.func31, Tryd.ntmps31
  go_wp2_with fail
  refine (HA.out _ _ (((Below.refl w.heap.size w).alloc (Nat.le_refl _) _).alloc (by simp) _) (by simpa using Blk.new (w.alloc _) _ _)).mono ?_
  rintro e w1 ⟨rfl, hb⟩
  have hz := hb.size
  simp only [World.size_alloc] at hz
  have hbt := ((Blk.new w 52 #[.int .i64 kind, .int .u64 s0, .int .u64 s1, .int .u64 s2, .int .u64 s3, .slice A l.length c, .int .i64 num, .int .i64 mn, .int .i64 mx, .bool bare]).alloc (.cells #[.int .i64 p, .int .i64 q] 3)).below hb (by simp; omega)
  have hbel := (((Below.refl w.heap.size w).alloc (Nat.le_refl _) (.cells #[.int .i64 kind, .int .u64 s0, .int .u64 s1, .int .u64 s2, .int .u64 s3, .slice A l.length c, .int .i64 num, .int .i64 mn, .int .i64 mx, .bool bare] 52)).alloc (by simp) (.cells #[.int .i64 p, .int .i64 q] 3)).trans (hb.mono (by simp; omega))
  clear hb HA
  cases res with
  | some g =>
    have HB := hide hbel
    clear hbel hbt
    simp only [errOf, errV] at HD ⊢
    go_wp2_with fail
    exact HD.out _ _ ⟨false, rfl, (fun h => by cases h), fun _ => rfl, HB.out⟩
  | none =>
    obtain ⟨hck, hn, hps⟩ := HN.out.1 (by first | rfl | trivial)
    have hf := HFc.out hck
    have hpp := hps p (by simp)
    have hqq := hps q (by simp)
    obtain ⟨i, hi⟩ : ∃ i : Nat, p = i := ⟨p.toNat, by omega⟩
    obtain ⟨j, hj⟩ : ∃ j : Nat, q = j := ⟨q.toNat, by omega⟩
    subst hi
    subst hj
    simp only [errOf] at HD ⊢
    have hsw := wrap_two (k := i) (by omega)
    have hpb := two_pow_lt (i := i) (by omega)
    obtain ⟨f, hf2⟩ : ∃ f, 2 ^ i = f := ⟨_, rfl⟩
    rw [hf2] at hsw hpb
    have hi64 : i < 64 := by omega
    have hj64 : j < 64 := by omega
    have HF := hide (And.intro hf2 (And.intro hpp hqq))
    clear hck hps hpp hqq HN HFc hf2
    go_upto_region 4 with fail
    refine wp_region_mix (fun y => Below w1.heap.size w1 y) [5] (by kernel_rfl) (fun hcl => ?_)
    have hS : Below w1.heap.size w1 w1.drew := (Below.refl _ _).drew
    refine wpAnyT_free (i := 0) hcl rfl (by kernel_rfl) (v := ?_) (fun _ _ _ h => h) hS (Or.inl ⟨rfl, fun w' _ => ?_⟩) (fun hcl => ?_)
    rotate_left
    · go_simp
      with_reducible rfl
    simp only [List.getElem_toArray, List.getElem_cons_zero, List.getElem_cons_succ, Act.put, List.setIfInBounds_toArray, List.set_cons_zero, List.set_cons_succ]
    refine wpAnyT_free (i := 1) hcl rfl (by kernel_rfl) (v := ?_) (fun _ _ _ h => h) hS (Or.inl ⟨rfl, fun w' _ => ?_⟩) (fun hcl => ?_)
    rotate_left
    · go_simp
      with_reducible rfl
    simp only [List.getElem_toArray, List.getElem_cons_zero, List.getElem_cons_succ, Act.put, List.setIfInBounds_toArray, List.set_cons_zero, List.set_cons_succ]
    refine wpAnyT_take (i := 2) hcl rfl (by kernel_rfl) (v := ?_) (fun _ _ _ h => h) hS (Or.inl ⟨rfl, fun w' hS => ?_⟩) (fun hcl => ?_)
    rotate_left
    · skip
      have ct := (hbt.below hS hbt.lt).cell
      go_simp
      with_reducible rfl
    simp only [List.getElem_toArray, List.getElem_cons_zero, List.getElem_cons_succ, Act.put, List.setIfInBounds_toArray, List.set_cons_zero, List.set_cons_succ]
    refine wpAnyT_free (i := 3) hcl rfl (by kernel_rfl) (v := ?_) (fun _ _ _ h => h) hS (Or.inl ⟨rfl, fun w' _ => ?_⟩) (fun hcl => ?_)
    rotate_left
    · go_simp
      with_reducible rfl
    simp only [List.getElem_toArray, List.getElem_cons_zero, List.getElem_cons_succ, Act.put, List.setIfInBounds_toArray, List.set_cons_zero, List.set_cons_succ]
    refine wpAnyT_free (i := 4) hcl rfl (by kernel_rfl) (v := ?_) (fun _ _ _ h => h) hS (Or.inl ⟨rfl, fun w' _ => ?_⟩) (fun hcl => ?_)
    rotate_left
    · go_simp
      with_reducible rfl
    simp only [List.getElem_toArray, List.getElem_cons_zero, List.getElem_cons_succ, Act.put, List.setIfInBounds_toArray, List.set_cons_zero, List.set_cons_succ]
    refine wpAnyT_free (i := 6) hcl rfl (by kernel_rfl) (v := ?_) (fun _ _ _ h => h) hS (Or.inl ⟨rfl, fun w' _ => ?_⟩) (fun hcl => ?_)
    rotate_left
    · go_simp
      with_reducible rfl
    simp only [List.getElem_toArray, List.getElem_cons_zero, List.getElem_cons_succ, Act.put, List.setIfInBounds_toArray, List.set_cons_zero, List.set_cons_succ]
    refine wpAnyT_last (i := 5) hcl rfl (by kernel_rfl) (by kernel_rfl) (fun hcl => ?_)
    simp only [List.getElem_toArray, List.getElem_cons_zero, List.getElem_cons_succ, Act.put, List.setIfInBounds_toArray, List.set_cons_zero, List.set_cons_succ]
    have HX := hide (HSt.out hn hf f _ (HH.out.2.2.same ((same_of_below hbel).trans ((same_of_below hS).mono fun y hy => Nat.lt_of_lt_of_le hy hbel.size)) (fun y hy => Nat.lt_of_lt_of_le hy (Nat.le_trans hbel.size hS.size))) ((HH.out.1.below hbel).below hS) ((HH.out.2.1.below hbel).below hS).tab (by rw [← HF.out.1]; exact one_fits (by have := HF.out.2.1.2; omega)))
    have HB := hide (hbel.trans (hS.mono hbel.size))
    clear hS hbel hbt HSt
    go_wp2_with fail
    refine HX.out.mono ?_
    rintro e w2 ⟨tw, rfl, himg, hfit, hb⟩
    have hbit := bit_and_one tw (hfit.lt hn) j
    have H2 := hide (And.intro himg (HB.out.trans (hb.mono HB.out.size)))
    clear himg hfit hb
    cases htb : tw.testBit j
    all_goals
      rw [htb] at hbit
      have HT := hide htb
      clear htb
      go_wp2_with fail
      refine wpAnyT_last (i := 7) hcl rfl (by kernel_rfl) (by kernel_rfl) (fun hcl => ?_)
      simp only [List.getElem_toArray, List.getElem_cons_zero, List.getElem_cons_succ, Act.put, List.setIfInBounds_toArray, List.set_cons_zero, List.set_cons_succ]
      go_wp2_with fail
      refine wpAnyT_last (i := 8) hcl rfl (by kernel_rfl) (by kernel_rfl) (fun hcl => ?_)
      simp only [List.getElem_toArray, List.getElem_cons_zero, List.getElem_cons_succ, Act.put, List.setIfInBounds_toArray, List.set_cons_zero, List.set_cons_succ]
      go_wp2_with fail
      refine wpAnyT_last (i := 9) hcl rfl (by kernel_rfl) (by kernel_rfl) (fun hcl => ?_)
      simp only [List.getElem_toArray, List.getElem_cons_zero, List.getElem_cons_succ, Act.put, List.setIfInBounds_toArray, List.set_cons_zero, List.set_cons_succ]
      go_wp2_with fail
      refine wpAnyT_last (i := 10) hcl rfl (by kernel_rfl) (by kernel_rfl) (fun hcl => ?_)
      simp only [List.getElem_toArray, List.getElem_cons_zero, List.getElem_cons_succ, Act.put, List.setIfInBounds_toArray, List.set_cons_zero, List.set_cons_succ]
      go_wp2_with fail
      refine wpAnyT_last (i := 11) hcl rfl (by kernel_rfl) (by kernel_rfl) (fun hcl => ?_)
      simp only [List.getElem_toArray, List.getElem_cons_zero, List.getElem_cons_succ, Act.put, List.setIfInBounds_toArray, List.set_cons_zero, List.set_cons_succ]
      go_wp2_with fail
      refine wpAnyT_done (by kernel_rfl) ?_ _
      go_wp2_with fail
      refine HD.out _ _ ⟨_, rfl, fun _ => ?_, fun h => absurd rfl h, H2.out.2⟩
      have h1 := H2.out.1
      rw [← HF.out.1] at h1
      have h2 := one_img h1 j
      rw [HT.out] at h2
      exact h2
end Go.Proofs.YtgpmiflfgpnhaaaDoor
