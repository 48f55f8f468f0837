/- trawlref04.Form: the document's own form of a tree is the program's. (Printed by gen_refform.py.) -/
import Derived.Test.YtlomjepemnlliaaDoorRefLaw
import Derived.Deep.DeepCutAuto
set_option linter.unusedSimpArgs false
set_option linter.unusedVariables false
namespace Go.Proofs.YtlomjepemnlliaaDoor
open Go.RowKit

set_option maxRecDepth 100000 in
set_option maxHeartbeats 4000000 in
theorem refForm_any (N : Nat) : ∀ (t : T) (A : Option Addr) (c : Nat) (w : World), t.nodes ≤ N → N ≤ 1000000 → T.In w (· < w.heap.size) t A →
    Calls Tryd.prog 59 #[.agg (t.hd.cells (.slice A t.subs.length c)).toArray] w fun e w' => e = .returned (.bool t.form) ∧ Below w.heap.size w w' := by
  induction N with
  | zero => intro t A c w h; have := t.nodes_pos; omega
  | succ N ih =>
    intro t A c w hN hM hin
    obtain ⟨h, l⟩ := t
    have hlen0 := T.length_lt (T.mk h l)
    simp only [T.nodes] at hN
    have hus := hide (fun x => used_any (.mk h l) A c x)
    have hfe := T.form_eq (.mk h l)
    simp only [T.hd, T.subs] at hfe
    obtain ⟨u, hu⟩ : ∃ u, u = h.used := ⟨_, rfl⟩
    have HU := hide hu
    simp only [T.hd, T.subs] at hus
    rw [← hu] at hus
    clear hu
    obtain ⟨kind, s0, s1, s2, s3, num, mn, mx, bare⟩ := h
    obtain ⟨uk, q0, q1, q2, q3, un, um, ux, ub⟩ := u
    simp only [T.nodes, T.hd, T.subs, Hd.cells] at hlen0 hus ⊢
    obtain ⟨res, hres⟩ : ∃ r, r = (T.mk ⟨kind, s0, s1, s2, s3, num, mn, mx, bare⟩ l).form := ⟨_, rfl⟩
    rw [← hres] at hfe ⊢
    clear hres
    obtain ⟨z, hz⟩ : ∃ z, z = (s0 == q0 && s1 == q1 && s2 == q2 && s3 == q3) := ⟨_, rfl⟩
    have hns := fun w => run_neq_set w s0 s1 s2 s3 q0 q1 q2 q3
    rw [← hz] at hns
    obtain ⟨sh, hsh⟩ : ∃ r, r = Hd.shape ⟨kind, s0, s1, s2, s3, num, mn, mx, bare⟩ l.length := ⟨_, rfl⟩
    have hrr : res = (!(decide (kind < 1) || decide (8 < kind) || !z || num != un || mn != um || mx != ux || bare != ub) && sh && TL.form l) := by
      rw [hfe, Hd.formed_ref, ← HU.out, hsh]
      simp only [Hd.bad, hz]
    have HR := hide hrr
    have HSH := hide hsh
    clear hz hfe hrr hsh HU
    go_enter Tryd.func59, Tryd.ntmps59
    go_wp2_with fail
    refine (hus.out _).mono ?_
    rintro e w1 ⟨rfl, hb⟩
    have hb0 := (Blk.new w 52 _).below hb (by simp)
    have hbel := ((Below.refl _ _).alloc (Nat.le_refl _) _).trans (hb.mono (by simp))
    clear hb hus
    go_upto_region 2 with fail
    have hbu := Blk.new w1 52 #[.int .i64 uk, .int .u64 q0, .int .u64 q1, .int .u64 q2, .int .u64 q3, .slice none 0 0, .int .i64 un, .int .i64 um, .int .i64 ux, .bool ub]
    have hbt := hb0.alloc (.cells #[.int .i64 uk, .int .u64 q0, .int .u64 q1, .int .u64 q2, .int .u64 q3, .slice none 0 0, .int .i64 un, .int .i64 um, .int .i64 ux, .bool ub] 52)
    have zt := hb0.lt
    have hbel2 := hbel.alloc (by omega) (.cells #[.int .i64 uk, .int .u64 q0, .int .u64 q1, .int .u64 q2, .int .u64 q3, .slice none 0 0, .int .i64 un, .int .i64 um, .int .i64 ux, .bool ub] 52)
    have zu : w1.heap.size < (w1.alloc (.cells #[.int .i64 uk, .int .u64 q0, .int .u64 q1, .int .u64 q2, .int .u64 q3, .slice none 0 0, .int .i64 un, .int .i64 um, .int .i64 ux, .bool ub] 52)).heap.size := by simp
    generalize (w1.alloc (.cells #[.int .i64 uk, .int .u64 q0, .int .u64 q1, .int .u64 q2, .int .u64 q3, .slice none 0 0, .int .i64 un, .int .i64 um, .int .i64 ux, .bool ub] 52)) = W at *
    generalize hgu : w1.heap.size = gu at *
    clear hb0 hbel hgu
    have HB := hide (And.intro hbt hbel2)
    clear hbel2
    have ct := hbt.cell
    have cu := hbu.cell
    clear hbt hbu
    go_cut [51] (fun v wx => v = .bool (decide (kind < 1) || decide (8 < kind) || !z || num != un || mn != um || mx != ux || bare != ub) ∧ wx = W)
    case first =>
      by_cases c0 : kind < 1
      case pos =>
        have e_c0 : decide (kind < 1) = true := decide_eq_true c0
        go_wp2_with fail
        go_meet
        case rel => exact ⟨by simp [e_c0], rfl⟩
      have e_c0 : decide (kind < 1) = false := decide_eq_false c0
      by_cases c1 : 8 < kind
      case pos =>
        have e_c1 : decide (8 < kind) = true := decide_eq_true c1
        go_wp2_with fail
        go_meet
        case rel => exact ⟨by simp [e_c0, e_c1], rfl⟩
      have e_c1 : decide (8 < kind) = false := decide_eq_false c1
      cases z with
      | false =>
        go_wp2_with fail
        go_meet
        case rel => exact ⟨by simp [e_c0, e_c1], rfl⟩
      | true =>
        by_cases k_num : num = un
        case neg =>
          have e_num : (num != un) = true := by simp [k_num]
          go_wp2_with fail
          go_meet
          case rel => exact ⟨by simp [e_c0, e_c1, e_num], rfl⟩
        have e_num : (num != un) = false := by simp [k_num]
        clear k_num
        by_cases k_mn : mn = um
        case neg =>
          have e_mn : (mn != um) = true := by simp [k_mn]
          go_wp2_with fail
          go_meet
          case rel => exact ⟨by simp [e_c0, e_c1, e_num, e_mn], rfl⟩
        have e_mn : (mn != um) = false := by simp [k_mn]
        clear k_mn
        by_cases k_mx : mx = ux
        case neg =>
          have e_mx : (mx != ux) = true := by simp [k_mx]
          go_wp2_with fail
          go_meet
          case rel => exact ⟨by simp [e_c0, e_c1, e_num, e_mn, e_mx], rfl⟩
        have e_mx : (mx != ux) = false := by simp [k_mx]
        clear k_mx
        go_wp2_with fail
        go_meet
        case rel => exact ⟨by simp [e_c0, e_c1, e_num, e_mn, e_mx]; cases bare <;> cases ub <;> rfl, rfl⟩
    case rest =>
      obtain ⟨rfl, rfl⟩ := hcut
      generalize (decide (kind < 1) || decide (8 < kind) || !z || num != un || mn != um || mx != ux || bare != ub) = bad at HR ⊢
      cases bad with
      | true =>
        go_wp2_with fail
        go_ret
        exact ⟨by rw [HR.out]; rfl, HB.out.2⟩
      | false =>
        have hl63 : l.length ≤ 1000000 := by omega
        by_cases k5 : kind = 5
        case pos =>
          subst k5
          by_cases n2 : (l.length : Int) < 2
          case pos =>
            have e_n2 : decide ((l.length : Int) < 2) = true := decide_eq_true n2
            have hs : sh = false := by rw [HSH.out]; generalize (l.length : Int) = n at e_n2 ⊢; simp [Hd.shape, e_n2]
            subst hs
            go_wp2_with fail
            go_ret
            exact ⟨by rw [HR.out]; rfl, HB.out.2⟩
          have e_n2 : decide ((l.length : Int) < 2) = false := decide_eq_false n2
          have hs : sh = true := by rw [HSH.out]; generalize (l.length : Int) = n at e_n2 ⊢; simp [Hd.shape, e_n2]
          subst hs
          go_wp2_with fail
          clear ct cu
          go_loopw [5] (fun kv wr => ∃ k : Nat, kv = .int .i64 k ∧ FormInv l w wr w.heap.size #[.int .i64 5, .int .u64 s0, .int .u64 s1, .int .u64 s2, .int .u64 s3, .slice A l.length c, .int .i64 num, .int .i64 mn, .int .i64 mx, .bool bare] k) (fun kv _ => l.length - (intOf kv).toNat)
          case atStart => exact ⟨0, rfl, ⟨Nat.zero_le _, rfl, HB.out.1, HB.out.2⟩⟩
          case round =>
            obtain ⟨k, rfl, hinv⟩ := hrel
            have hk := hinv.le
            have c0 := hinv.box.cell
            have z0 := hinv.box.lt
            by_cases hlt : k < l.length
            · have g1 : decide ((k : Int) < (l.length : Int)) = true := decide_eq_true (by omega)
              have hs := List.getElem?_eq_getElem hlt
              obtain ⟨b, o, B, c', rfl, hbk, hcs, hsub⟩ := TL.In.at_ (T.In_iff.1 hin) hs
              have hmem := List.getElem_mem hlt
              have hsn := TL.nodes_mem hmem
              have hdrop : l.drop k = l[k] :: l.drop (k + 1) := List.drop_eq_getElem_cons hlt
              have heq := hinv.eq
              rw [hdrop, TL.form] at heq
              generalize l[k] = s at *
              obtain ⟨n0, n1, n2, n3, n4, n5, n6, n7, n8, n9⟩ := (hcs.same (same_of_below hinv.below) hbk).node
              have HQ := hide heq
              have HI := hide hinv
              have HX := hide (fun y hy => ih s B c' y (by omega) (by omega) hy)
              have HBB := hide (hsub.same (ok' := (· < wr.heap.size)) (same_of_below hinv.below) (fun x hx => Nat.lt_of_lt_of_le hx hinv.below.size))
              clear hs hcs hinv hdrop heq hsub
              go_wp2_with fail
              refine (HX.out _ HBB.out).mono ?_
              rintro e w2 ⟨rfl, hb1⟩
              have HH := hide hb1
              clear hb1
              generalize s.form = sf at *
              cases sf with
              | false =>
                go_wp2_with fail
                go_ret
                have hq := HQ.out
                rw [Bool.false_and] at hq
                exact ⟨by rw [HR.out, ← hq]; rfl, HI.out.below.trans (HH.out.mono HI.out.below.size)⟩
              | true =>
                go_wp2_with fail
                go_roundw
                case rel =>
                  have hq := HQ.out
                  rw [Bool.true_and] at hq
                  exact ⟨k + 1, by go_num, ⟨hlt, hq, HI.out.box.below HH.out z0, HI.out.below.trans (HH.out.mono HI.out.below.size)⟩⟩
                case measure => simp [intOf]; omega
            · have g1 : decide ((k : Int) < (l.length : Int)) = false := decide_eq_false (by omega)
              have hq := hinv.eq
              rw [List.drop_eq_nil_of_le (by omega)] at hq
              have HQ := hide (And.intro hq hinv.below)
              clear hq hinv
              go_wp2_with fail
              go_ret
              exact ⟨by rw [HR.out, ← HQ.out.1]; rfl, HQ.out.2⟩
        by_cases k6 : kind = 6
        case pos =>
          subst k6
          by_cases n2 : (l.length : Int) < 2
          case pos =>
            have e_n2 : decide ((l.length : Int) < 2) = true := decide_eq_true n2
            have hs : sh = false := by rw [HSH.out]; generalize (l.length : Int) = n at e_n2 ⊢; simp [Hd.shape, e_n2]
            subst hs
            go_wp2_with fail
            go_ret
            exact ⟨by rw [HR.out]; rfl, HB.out.2⟩
          have e_n2 : decide ((l.length : Int) < 2) = false := decide_eq_false n2
          have hs : sh = true := by rw [HSH.out]; generalize (l.length : Int) = n at e_n2 ⊢; simp [Hd.shape, e_n2]
          subst hs
          go_wp2_with fail
          clear ct cu
          go_loopw [5] (fun kv wr => ∃ k : Nat, kv = .int .i64 k ∧ FormInv l w wr w.heap.size #[.int .i64 6, .int .u64 s0, .int .u64 s1, .int .u64 s2, .int .u64 s3, .slice A l.length c, .int .i64 num, .int .i64 mn, .int .i64 mx, .bool bare] k) (fun kv _ => l.length - (intOf kv).toNat)
          case atStart => exact ⟨0, rfl, ⟨Nat.zero_le _, rfl, HB.out.1, HB.out.2⟩⟩
          case round =>
            obtain ⟨k, rfl, hinv⟩ := hrel
            have hk := hinv.le
            have c0 := hinv.box.cell
            have z0 := hinv.box.lt
            by_cases hlt : k < l.length
            · have g1 : decide ((k : Int) < (l.length : Int)) = true := decide_eq_true (by omega)
              have hs := List.getElem?_eq_getElem hlt
              obtain ⟨b, o, B, c', rfl, hbk, hcs, hsub⟩ := TL.In.at_ (T.In_iff.1 hin) hs
              have hmem := List.getElem_mem hlt
              have hsn := TL.nodes_mem hmem
              have hdrop : l.drop k = l[k] :: l.drop (k + 1) := List.drop_eq_getElem_cons hlt
              have heq := hinv.eq
              rw [hdrop, TL.form] at heq
              generalize l[k] = s at *
              obtain ⟨n0, n1, n2, n3, n4, n5, n6, n7, n8, n9⟩ := (hcs.same (same_of_below hinv.below) hbk).node
              have HQ := hide heq
              have HI := hide hinv
              have HX := hide (fun y hy => ih s B c' y (by omega) (by omega) hy)
              have HBB := hide (hsub.same (ok' := (· < wr.heap.size)) (same_of_below hinv.below) (fun x hx => Nat.lt_of_lt_of_le hx hinv.below.size))
              clear hs hcs hinv hdrop heq hsub
              go_wp2_with fail
              refine (HX.out _ HBB.out).mono ?_
              rintro e w2 ⟨rfl, hb1⟩
              have HH := hide hb1
              clear hb1
              generalize s.form = sf at *
              cases sf with
              | false =>
                go_wp2_with fail
                go_ret
                have hq := HQ.out
                rw [Bool.false_and] at hq
                exact ⟨by rw [HR.out, ← hq]; rfl, HI.out.below.trans (HH.out.mono HI.out.below.size)⟩
              | true =>
                go_wp2_with fail
                go_roundw
                case rel =>
                  have hq := HQ.out
                  rw [Bool.true_and] at hq
                  exact ⟨k + 1, by go_num, ⟨hlt, hq, HI.out.box.below HH.out z0, HI.out.below.trans (HH.out.mono HI.out.below.size)⟩⟩
                case measure => simp [intOf]; omega
            · have g1 : decide ((k : Int) < (l.length : Int)) = false := decide_eq_false (by omega)
              have hq := hinv.eq
              rw [List.drop_eq_nil_of_le (by omega)] at hq
              have HQ := hide (And.intro hq hinv.below)
              clear hq hinv
              go_wp2_with fail
              go_ret
              exact ⟨by rw [HR.out, ← HQ.out.1]; rfl, HQ.out.2⟩
        by_cases k7 : kind = 7
        case pos =>
          subst k7
          by_cases n1 : ¬ ((l.length : Int) = 1)
          case pos =>
            have e_n1 : (((l.length : Int)) != 1) = true := bne_iff_ne.2 n1
            have hs : sh = false := by rw [HSH.out]; generalize (l.length : Int) = n at e_n1 ⊢; simp [Hd.shape, e_n1]
            subst hs
            go_wp2_with fail
            go_ret
            exact ⟨by rw [HR.out]; rfl, HB.out.2⟩
          have f_n1 : (l.length : Int) = 1 := by omega
          have e_n1 : (((l.length : Int)) != 1) = false := bne_eq_false_iff_eq.2 f_n1
          clear f_n1
          by_cases m1 : num < 1
          case pos =>
            have e_m1 : decide (num < 1) = true := decide_eq_true m1
            have hs : sh = false := by rw [HSH.out]; generalize (l.length : Int) = n at e_n1 ⊢; simp [Hd.shape, e_n1, e_m1]
            subst hs
            go_wp2_with fail
            go_ret
            exact ⟨by rw [HR.out]; rfl, HB.out.2⟩
          have e_m1 : decide (num < 1) = false := decide_eq_false m1
          by_cases m2 : 999 < num
          case pos =>
            have e_m2 : decide (999 < num) = true := decide_eq_true m2
            have hs : sh = false := by rw [HSH.out]; generalize (l.length : Int) = n at e_n1 ⊢; simp [Hd.shape, e_n1, e_m1, e_m2]
            subst hs
            go_wp2_with fail
            go_ret
            exact ⟨by rw [HR.out]; rfl, HB.out.2⟩
          have e_m2 : decide (999 < num) = false := decide_eq_false m2
          have hs : sh = true := by rw [HSH.out]; generalize (l.length : Int) = n at e_n1 ⊢; simp [Hd.shape, e_n1, e_m1, e_m2]
          subst hs
          go_wp2_with fail
          clear ct cu
          go_loopw [5] (fun kv wr => ∃ k : Nat, kv = .int .i64 k ∧ FormInv l w wr w.heap.size #[.int .i64 7, .int .u64 s0, .int .u64 s1, .int .u64 s2, .int .u64 s3, .slice A l.length c, .int .i64 num, .int .i64 mn, .int .i64 mx, .bool bare] k) (fun kv _ => l.length - (intOf kv).toNat)
          case atStart => exact ⟨0, rfl, ⟨Nat.zero_le _, rfl, HB.out.1, HB.out.2⟩⟩
          case round =>
            obtain ⟨k, rfl, hinv⟩ := hrel
            have hk := hinv.le
            have c0 := hinv.box.cell
            have z0 := hinv.box.lt
            by_cases hlt : k < l.length
            · have g1 : decide ((k : Int) < (l.length : Int)) = true := decide_eq_true (by omega)
              have hs := List.getElem?_eq_getElem hlt
              obtain ⟨b, o, B, c', rfl, hbk, hcs, hsub⟩ := TL.In.at_ (T.In_iff.1 hin) hs
              have hmem := List.getElem_mem hlt
              have hsn := TL.nodes_mem hmem
              have hdrop : l.drop k = l[k] :: l.drop (k + 1) := List.drop_eq_getElem_cons hlt
              have heq := hinv.eq
              rw [hdrop, TL.form] at heq
              generalize l[k] = s at *
              obtain ⟨n0, n1, n2, n3, n4, n5, n6, n7, n8, n9⟩ := (hcs.same (same_of_below hinv.below) hbk).node
              have HQ := hide heq
              have HI := hide hinv
              have HX := hide (fun y hy => ih s B c' y (by omega) (by omega) hy)
              have HBB := hide (hsub.same (ok' := (· < wr.heap.size)) (same_of_below hinv.below) (fun x hx => Nat.lt_of_lt_of_le hx hinv.below.size))
              clear hs hcs hinv hdrop heq hsub
              go_wp2_with fail
              refine (HX.out _ HBB.out).mono ?_
              rintro e w2 ⟨rfl, hb1⟩
              have HH := hide hb1
              clear hb1
              generalize s.form = sf at *
              cases sf with
              | false =>
                go_wp2_with fail
                go_ret
                have hq := HQ.out
                rw [Bool.false_and] at hq
                exact ⟨by rw [HR.out, ← hq]; rfl, HI.out.below.trans (HH.out.mono HI.out.below.size)⟩
              | true =>
                go_wp2_with fail
                go_roundw
                case rel =>
                  have hq := HQ.out
                  rw [Bool.true_and] at hq
                  exact ⟨k + 1, by go_num, ⟨hlt, hq, HI.out.box.below HH.out z0, HI.out.below.trans (HH.out.mono HI.out.below.size)⟩⟩
                case measure => simp [intOf]; omega
            · have g1 : decide ((k : Int) < (l.length : Int)) = false := decide_eq_false (by omega)
              have hq := hinv.eq
              rw [List.drop_eq_nil_of_le (by omega)] at hq
              have HQ := hide (And.intro hq hinv.below)
              clear hq hinv
              go_wp2_with fail
              go_ret
              exact ⟨by rw [HR.out, ← HQ.out.1]; rfl, HQ.out.2⟩
        by_cases k8 : kind = 8
        case pos =>
          subst k8
          by_cases n1 : ¬ ((l.length : Int) = 1)
          case pos =>
            have e_n1 : (((l.length : Int)) != 1) = true := bne_iff_ne.2 n1
            have hs : sh = false := by rw [HSH.out]; generalize (l.length : Int) = n at e_n1 ⊢; simp [Hd.shape, e_n1]
            subst hs
            go_wp2_with fail
            go_ret
            exact ⟨by rw [HR.out]; rfl, HB.out.2⟩
          have f_n1 : (l.length : Int) = 1 := by omega
          have e_n1 : (((l.length : Int)) != 1) = false := bne_eq_false_iff_eq.2 f_n1
          clear f_n1
          by_cases m1 : mn < 0
          case pos =>
            have e_m1 : decide (mn < 0) = true := decide_eq_true m1
            have hs : sh = false := by rw [HSH.out]; generalize (l.length : Int) = n at e_n1 ⊢; simp [Hd.shape, e_n1, e_m1]
            subst hs
            go_wp2_with fail
            go_ret
            exact ⟨by rw [HR.out]; rfl, HB.out.2⟩
          have e_m1 : decide (mn < 0) = false := decide_eq_false m1
          by_cases m2 : 255 < mn
          case pos =>
            have e_m2 : decide (255 < mn) = true := decide_eq_true m2
            have hs : sh = false := by rw [HSH.out]; generalize (l.length : Int) = n at e_n1 ⊢; simp [Hd.shape, e_n1, e_m1, e_m2]
            subst hs
            go_wp2_with fail
            go_ret
            exact ⟨by rw [HR.out]; rfl, HB.out.2⟩
          have e_m2 : decide (255 < mn) = false := decide_eq_false m2
          by_cases m3 : mx < -1
          case pos =>
            have e_m3 : decide (mx < -1) = true := decide_eq_true m3
            have hs : sh = false := by rw [HSH.out]; generalize (l.length : Int) = n at e_n1 ⊢; simp [Hd.shape, e_n1, e_m1, e_m2, e_m3]
            subst hs
            go_wp2_with fail
            go_ret
            exact ⟨by rw [HR.out]; rfl, HB.out.2⟩
          have e_m3 : decide (mx < -1) = false := decide_eq_false m3
          by_cases m4 : 255 < mx
          case pos =>
            have e_m4 : decide (255 < mx) = true := decide_eq_true m4
            have hs : sh = false := by rw [HSH.out]; generalize (l.length : Int) = n at e_n1 ⊢; simp [Hd.shape, e_n1, e_m1, e_m2, e_m3, e_m4]
            subst hs
            go_wp2_with fail
            go_ret
            exact ⟨by rw [HR.out]; rfl, HB.out.2⟩
          have e_m4 : decide (255 < mx) = false := decide_eq_false m4
          by_cases m5 : 0 ≤ mx
          case pos =>
            have e_m5 : decide (0 ≤ mx) = true := decide_eq_true m5
            by_cases m6 : mx < mn
            case pos =>
              have e_m6 : decide (mx < mn) = true := decide_eq_true m6
              have hs : sh = false := by rw [HSH.out]; generalize (l.length : Int) = n at e_n1 ⊢; simp [Hd.shape, e_n1, e_m1, e_m2, e_m3, e_m4, e_m5, e_m6]
              subst hs
              go_wp2_with fail
              go_ret
              exact ⟨by rw [HR.out]; rfl, HB.out.2⟩
            have e_m6 : decide (mx < mn) = false := decide_eq_false m6
            cases bare with
            | false =>
              have hs : sh = true := by rw [HSH.out]; generalize (l.length : Int) = n at e_n1 ⊢; simp [Hd.shape, e_n1, e_m1, e_m2, e_m3, e_m4, e_m5, e_m6]
              subst hs
              go_wp2_with fail
              clear ct cu
              go_loopw [5] (fun kv wr => ∃ k : Nat, kv = .int .i64 k ∧ FormInv l w wr w.heap.size #[.int .i64 8, .int .u64 s0, .int .u64 s1, .int .u64 s2, .int .u64 s3, .slice A l.length c, .int .i64 num, .int .i64 mn, .int .i64 mx, .bool false] k) (fun kv _ => l.length - (intOf kv).toNat)
              case atStart => exact ⟨0, rfl, ⟨Nat.zero_le _, rfl, HB.out.1, HB.out.2⟩⟩
              case round =>
                obtain ⟨k, rfl, hinv⟩ := hrel
                have hk := hinv.le
                have c0 := hinv.box.cell
                have z0 := hinv.box.lt
                by_cases hlt : k < l.length
                · have g1 : decide ((k : Int) < (l.length : Int)) = true := decide_eq_true (by omega)
                  have hs := List.getElem?_eq_getElem hlt
                  obtain ⟨b, o, B, c', rfl, hbk, hcs, hsub⟩ := TL.In.at_ (T.In_iff.1 hin) hs
                  have hmem := List.getElem_mem hlt
                  have hsn := TL.nodes_mem hmem
                  have hdrop : l.drop k = l[k] :: l.drop (k + 1) := List.drop_eq_getElem_cons hlt
                  have heq := hinv.eq
                  rw [hdrop, TL.form] at heq
                  generalize l[k] = s at *
                  obtain ⟨n0, n1, n2, n3, n4, n5, n6, n7, n8, n9⟩ := (hcs.same (same_of_below hinv.below) hbk).node
                  have HQ := hide heq
                  have HI := hide hinv
                  have HX := hide (fun y hy => ih s B c' y (by omega) (by omega) hy)
                  have HBB := hide (hsub.same (ok' := (· < wr.heap.size)) (same_of_below hinv.below) (fun x hx => Nat.lt_of_lt_of_le hx hinv.below.size))
                  clear hs hcs hinv hdrop heq hsub
                  go_wp2_with fail
                  refine (HX.out _ HBB.out).mono ?_
                  rintro e w2 ⟨rfl, hb1⟩
                  have HH := hide hb1
                  clear hb1
                  generalize s.form = sf at *
                  cases sf with
                  | false =>
                    go_wp2_with fail
                    go_ret
                    have hq := HQ.out
                    rw [Bool.false_and] at hq
                    exact ⟨by rw [HR.out, ← hq]; rfl, HI.out.below.trans (HH.out.mono HI.out.below.size)⟩
                  | true =>
                    go_wp2_with fail
                    go_roundw
                    case rel =>
                      have hq := HQ.out
                      rw [Bool.true_and] at hq
                      exact ⟨k + 1, by go_num, ⟨hlt, hq, HI.out.box.below HH.out z0, HI.out.below.trans (HH.out.mono HI.out.below.size)⟩⟩
                    case measure => simp [intOf]; omega
                · have g1 : decide ((k : Int) < (l.length : Int)) = false := decide_eq_false (by omega)
                  have hq := hinv.eq
                  rw [List.drop_eq_nil_of_le (by omega)] at hq
                  have HQ := hide (And.intro hq hinv.below)
                  clear hq hinv
                  go_wp2_with fail
                  go_ret
                  exact ⟨by rw [HR.out, ← HQ.out.1]; rfl, HQ.out.2⟩
            | true =>
              by_cases m7 : ¬ (mn = 0)
              case pos =>
                have e_m7 : ((mn) != 0) = true := bne_iff_ne.2 m7
                have hs : sh = false := by rw [HSH.out]; generalize (l.length : Int) = n at e_n1 ⊢; simp [Hd.shape, e_n1, e_m1, e_m2, e_m3, e_m4, e_m5, e_m6, e_m7]
                subst hs
                go_wp2_with fail
                go_ret
                exact ⟨by rw [HR.out]; rfl, HB.out.2⟩
              have f_m7 : mn = 0 := by omega
              have e_m7 : ((mn) != 0) = false := bne_eq_false_iff_eq.2 f_m7
              clear f_m7
              have hs : sh = true := by rw [HSH.out]; generalize (l.length : Int) = n at e_n1 ⊢; simp [Hd.shape, e_n1, e_m1, e_m2, e_m3, e_m4, e_m5, e_m6, e_m7]
              subst hs
              go_wp2_with fail
              clear ct cu
              go_loopw [5] (fun kv wr => ∃ k : Nat, kv = .int .i64 k ∧ FormInv l w wr w.heap.size #[.int .i64 8, .int .u64 s0, .int .u64 s1, .int .u64 s2, .int .u64 s3, .slice A l.length c, .int .i64 num, .int .i64 mn, .int .i64 mx, .bool true] k) (fun kv _ => l.length - (intOf kv).toNat)
              case atStart => exact ⟨0, rfl, ⟨Nat.zero_le _, rfl, HB.out.1, HB.out.2⟩⟩
              case round =>
                obtain ⟨k, rfl, hinv⟩ := hrel
                have hk := hinv.le
                have c0 := hinv.box.cell
                have z0 := hinv.box.lt
                by_cases hlt : k < l.length
                · have g1 : decide ((k : Int) < (l.length : Int)) = true := decide_eq_true (by omega)
                  have hs := List.getElem?_eq_getElem hlt
                  obtain ⟨b, o, B, c', rfl, hbk, hcs, hsub⟩ := TL.In.at_ (T.In_iff.1 hin) hs
                  have hmem := List.getElem_mem hlt
                  have hsn := TL.nodes_mem hmem
                  have hdrop : l.drop k = l[k] :: l.drop (k + 1) := List.drop_eq_getElem_cons hlt
                  have heq := hinv.eq
                  rw [hdrop, TL.form] at heq
                  generalize l[k] = s at *
                  obtain ⟨n0, n1, n2, n3, n4, n5, n6, n7, n8, n9⟩ := (hcs.same (same_of_below hinv.below) hbk).node
                  have HQ := hide heq
                  have HI := hide hinv
                  have HX := hide (fun y hy => ih s B c' y (by omega) (by omega) hy)
                  have HBB := hide (hsub.same (ok' := (· < wr.heap.size)) (same_of_below hinv.below) (fun x hx => Nat.lt_of_lt_of_le hx hinv.below.size))
                  clear hs hcs hinv hdrop heq hsub
                  go_wp2_with fail
                  refine (HX.out _ HBB.out).mono ?_
                  rintro e w2 ⟨rfl, hb1⟩
                  have HH := hide hb1
                  clear hb1
                  generalize s.form = sf at *
                  cases sf with
                  | false =>
                    go_wp2_with fail
                    go_ret
                    have hq := HQ.out
                    rw [Bool.false_and] at hq
                    exact ⟨by rw [HR.out, ← hq]; rfl, HI.out.below.trans (HH.out.mono HI.out.below.size)⟩
                  | true =>
                    go_wp2_with fail
                    go_roundw
                    case rel =>
                      have hq := HQ.out
                      rw [Bool.true_and] at hq
                      exact ⟨k + 1, by go_num, ⟨hlt, hq, HI.out.box.below HH.out z0, HI.out.below.trans (HH.out.mono HI.out.below.size)⟩⟩
                    case measure => simp [intOf]; omega
                · have g1 : decide ((k : Int) < (l.length : Int)) = false := decide_eq_false (by omega)
                  have hq := hinv.eq
                  rw [List.drop_eq_nil_of_le (by omega)] at hq
                  have HQ := hide (And.intro hq hinv.below)
                  clear hq hinv
                  go_wp2_with fail
                  go_ret
                  exact ⟨by rw [HR.out, ← HQ.out.1]; rfl, HQ.out.2⟩
          case neg =>
            have e_m5 : decide (0 ≤ mx) = false := decide_eq_false m5
            cases bare with
            | false =>
              have hs : sh = true := by rw [HSH.out]; generalize (l.length : Int) = n at e_n1 ⊢; simp [Hd.shape, e_n1, e_m1, e_m2, e_m3, e_m4, e_m5]
              subst hs
              go_wp2_with fail
              clear ct cu
              go_loopw [5] (fun kv wr => ∃ k : Nat, kv = .int .i64 k ∧ FormInv l w wr w.heap.size #[.int .i64 8, .int .u64 s0, .int .u64 s1, .int .u64 s2, .int .u64 s3, .slice A l.length c, .int .i64 num, .int .i64 mn, .int .i64 mx, .bool false] k) (fun kv _ => l.length - (intOf kv).toNat)
              case atStart => exact ⟨0, rfl, ⟨Nat.zero_le _, rfl, HB.out.1, HB.out.2⟩⟩
              case round =>
                obtain ⟨k, rfl, hinv⟩ := hrel
                have hk := hinv.le
                have c0 := hinv.box.cell
                have z0 := hinv.box.lt
                by_cases hlt : k < l.length
                · have g1 : decide ((k : Int) < (l.length : Int)) = true := decide_eq_true (by omega)
                  have hs := List.getElem?_eq_getElem hlt
                  obtain ⟨b, o, B, c', rfl, hbk, hcs, hsub⟩ := TL.In.at_ (T.In_iff.1 hin) hs
                  have hmem := List.getElem_mem hlt
                  have hsn := TL.nodes_mem hmem
                  have hdrop : l.drop k = l[k] :: l.drop (k + 1) := List.drop_eq_getElem_cons hlt
                  have heq := hinv.eq
                  rw [hdrop, TL.form] at heq
                  generalize l[k] = s at *
                  obtain ⟨n0, n1, n2, n3, n4, n5, n6, n7, n8, n9⟩ := (hcs.same (same_of_below hinv.below) hbk).node
                  have HQ := hide heq
                  have HI := hide hinv
                  have HX := hide (fun y hy => ih s B c' y (by omega) (by omega) hy)
                  have HBB := hide (hsub.same (ok' := (· < wr.heap.size)) (same_of_below hinv.below) (fun x hx => Nat.lt_of_lt_of_le hx hinv.below.size))
                  clear hs hcs hinv hdrop heq hsub
                  go_wp2_with fail
                  refine (HX.out _ HBB.out).mono ?_
                  rintro e w2 ⟨rfl, hb1⟩
                  have HH := hide hb1
                  clear hb1
                  generalize s.form = sf at *
                  cases sf with
                  | false =>
                    go_wp2_with fail
                    go_ret
                    have hq := HQ.out
                    rw [Bool.false_and] at hq
                    exact ⟨by rw [HR.out, ← hq]; rfl, HI.out.below.trans (HH.out.mono HI.out.below.size)⟩
                  | true =>
                    go_wp2_with fail
                    go_roundw
                    case rel =>
                      have hq := HQ.out
                      rw [Bool.true_and] at hq
                      exact ⟨k + 1, by go_num, ⟨hlt, hq, HI.out.box.below HH.out z0, HI.out.below.trans (HH.out.mono HI.out.below.size)⟩⟩
                    case measure => simp [intOf]; omega
                · have g1 : decide ((k : Int) < (l.length : Int)) = false := decide_eq_false (by omega)
                  have hq := hinv.eq
                  rw [List.drop_eq_nil_of_le (by omega)] at hq
                  have HQ := hide (And.intro hq hinv.below)
                  clear hq hinv
                  go_wp2_with fail
                  go_ret
                  exact ⟨by rw [HR.out, ← HQ.out.1]; rfl, HQ.out.2⟩
            | true =>
              by_cases m7 : ¬ (mn = 0)
              case pos =>
                have e_m7 : ((mn) != 0) = true := bne_iff_ne.2 m7
                have hs : sh = false := by rw [HSH.out]; generalize (l.length : Int) = n at e_n1 ⊢; simp [Hd.shape, e_n1, e_m1, e_m2, e_m3, e_m4, e_m5, e_m7]
                subst hs
                go_wp2_with fail
                go_ret
                exact ⟨by rw [HR.out]; rfl, HB.out.2⟩
              have f_m7 : mn = 0 := by omega
              have e_m7 : ((mn) != 0) = false := bne_eq_false_iff_eq.2 f_m7
              clear f_m7
              have hs : sh = true := by rw [HSH.out]; generalize (l.length : Int) = n at e_n1 ⊢; simp [Hd.shape, e_n1, e_m1, e_m2, e_m3, e_m4, e_m5, e_m7]
              subst hs
              go_wp2_with fail
              clear ct cu
              go_loopw [5] (fun kv wr => ∃ k : Nat, kv = .int .i64 k ∧ FormInv l w wr w.heap.size #[.int .i64 8, .int .u64 s0, .int .u64 s1, .int .u64 s2, .int .u64 s3, .slice A l.length c, .int .i64 num, .int .i64 mn, .int .i64 mx, .bool true] k) (fun kv _ => l.length - (intOf kv).toNat)
              case atStart => exact ⟨0, rfl, ⟨Nat.zero_le _, rfl, HB.out.1, HB.out.2⟩⟩
              case round =>
                obtain ⟨k, rfl, hinv⟩ := hrel
                have hk := hinv.le
                have c0 := hinv.box.cell
                have z0 := hinv.box.lt
                by_cases hlt : k < l.length
                · have g1 : decide ((k : Int) < (l.length : Int)) = true := decide_eq_true (by omega)
                  have hs := List.getElem?_eq_getElem hlt
                  obtain ⟨b, o, B, c', rfl, hbk, hcs, hsub⟩ := TL.In.at_ (T.In_iff.1 hin) hs
                  have hmem := List.getElem_mem hlt
                  have hsn := TL.nodes_mem hmem
                  have hdrop : l.drop k = l[k] :: l.drop (k + 1) := List.drop_eq_getElem_cons hlt
                  have heq := hinv.eq
                  rw [hdrop, TL.form] at heq
                  generalize l[k] = s at *
                  obtain ⟨n0, n1, n2, n3, n4, n5, n6, n7, n8, n9⟩ := (hcs.same (same_of_below hinv.below) hbk).node
                  have HQ := hide heq
                  have HI := hide hinv
                  have HX := hide (fun y hy => ih s B c' y (by omega) (by omega) hy)
                  have HBB := hide (hsub.same (ok' := (· < wr.heap.size)) (same_of_below hinv.below) (fun x hx => Nat.lt_of_lt_of_le hx hinv.below.size))
                  clear hs hcs hinv hdrop heq hsub
                  go_wp2_with fail
                  refine (HX.out _ HBB.out).mono ?_
                  rintro e w2 ⟨rfl, hb1⟩
                  have HH := hide hb1
                  clear hb1
                  generalize s.form = sf at *
                  cases sf with
                  | false =>
                    go_wp2_with fail
                    go_ret
                    have hq := HQ.out
                    rw [Bool.false_and] at hq
                    exact ⟨by rw [HR.out, ← hq]; rfl, HI.out.below.trans (HH.out.mono HI.out.below.size)⟩
                  | true =>
                    go_wp2_with fail
                    go_roundw
                    case rel =>
                      have hq := HQ.out
                      rw [Bool.true_and] at hq
                      exact ⟨k + 1, by go_num, ⟨hlt, hq, HI.out.box.below HH.out z0, HI.out.below.trans (HH.out.mono HI.out.below.size)⟩⟩
                    case measure => simp [intOf]; omega
                · have g1 : decide ((k : Int) < (l.length : Int)) = false := decide_eq_false (by omega)
                  have hq := hinv.eq
                  rw [List.drop_eq_nil_of_le (by omega)] at hq
                  have HQ := hide (And.intro hq hinv.below)
                  clear hq hinv
                  go_wp2_with fail
                  go_ret
                  exact ⟨by rw [HR.out, ← HQ.out.1]; rfl, HQ.out.2⟩
        have e5 : (kind == 5) = false := by simp [k5]
        have e6 : (kind == 6) = false := by simp [k6]
        have e7 : (kind == 7) = false := by simp [k7]
        have e8 : (kind == 8) = false := by simp [k8]
        by_cases n0 : ¬ ((l.length : Int) = 0)
        case pos =>
          have e_n0 : (((l.length : Int)) != 0) = true := bne_iff_ne.2 n0
          have hs : sh = false := by rw [HSH.out]; generalize (l.length : Int) = n at e_n0 ⊢; simp [Hd.shape, k5, k6, k7, k8, e_n0]
          subst hs
          go_wp2_with fail
          go_ret
          exact ⟨by rw [HR.out]; rfl, HB.out.2⟩
        have f_n0 : (l.length : Int) = 0 := by omega
        have e_n0 : (((l.length : Int)) != 0) = false := bne_eq_false_iff_eq.2 f_n0
        clear f_n0
        have hs : sh = true := by rw [HSH.out]; generalize (l.length : Int) = n at e_n0 ⊢; simp [Hd.shape, k5, k6, k7, k8, e_n0]
        subst hs
        go_wp2_with fail
        clear ct cu e_n0
        go_loopw [5] (fun kv wr => ∃ k : Nat, kv = .int .i64 k ∧ FormInv l w wr w.heap.size #[.int .i64 kind, .int .u64 s0, .int .u64 s1, .int .u64 s2, .int .u64 s3, .slice A l.length c, .int .i64 num, .int .i64 mn, .int .i64 mx, .bool bare] k) (fun kv _ => l.length - (intOf kv).toNat)
        case atStart => exact ⟨0, rfl, ⟨Nat.zero_le _, rfl, HB.out.1, HB.out.2⟩⟩
        case round =>
          obtain ⟨k, rfl, hinv⟩ := hrel
          have hk := hinv.le
          have c0 := hinv.box.cell
          have z0 := hinv.box.lt
          by_cases hlt : k < l.length
          · exfalso
            omega
          · have g1 : decide ((k : Int) < (l.length : Int)) = false := decide_eq_false (by omega)
            have hq := hinv.eq
            rw [List.drop_eq_nil_of_le (by omega)] at hq
            have HQ := hide (And.intro hq hinv.below)
            clear hq hinv
            go_wp2_with fail
            go_ret
            exact ⟨by rw [HR.out, ← HQ.out.1]; rfl, HQ.out.2⟩
end Go.Proofs.YtlomjepemnlliaaDoor
