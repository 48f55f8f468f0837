/- trawllaw07.BreLetters: the law walked. (Printed by gen_letters7.py.) -/
import Derived.Test.YtpkcklpjbeginaaDoorBreF
import Derived.Test.YtpkcklpjbeginaaDoorRightP7
import Derived.Test.YtpkcklpjbeginaaDoorLetP7
import Derived.Test.YtpkcklpjbeginaaDoorEscLaw6
import Derived.Test.YtpkcklpjbeginaaDoorJoinsLaw6
set_option linter.unusedSimpArgs false
set_option linter.unusedVariables false
namespace Go.Proofs.YtpkcklpjbeginaaDoor
open Go.RowKit

theorem mark1_pb (c : Nat) (hc : c < 256) (p : ByteArray) : ((⟨#[c.toUInt8]⟩ : ByteArray) ++ p).size = p.size + 1 ∧ pb ((⟨#[c.toUInt8]⟩ : ByteArray) ++ p) 0 = c ∧ ∀ j, j < p.size → pb ((⟨#[c.toUInt8]⟩ : ByteArray) ++ p) (1 + j) = pb p j := by
  have s1 : (⟨#[c.toUInt8]⟩ : ByteArray).size = 1 := rfl
  have hp : pb (⟨#[c.toUInt8]⟩ : ByteArray) 0 = c := by
    have h0 := data_at (⟨#[c.toUInt8]⟩ : ByteArray) 0
    rw [s1, if_pos (by decide)] at h0
    exact ((u8_eq hc (pb_lt (by omega))).1 (Option.some.inj h0)).symm
  refine ⟨by rw [ByteArray.size_append, s1]; omega, ?_, fun j hj => ?_⟩
  · rw [pb_app, if_pos (by omega)]; exact hp
  · rw [pb_app, if_neg (by omega), s1]
    congr 1; omega
theorem mark2_pb (c : Nat) (hc : c < 256) (p : ByteArray) : (((⟨#[92]⟩ : ByteArray) ++ ⟨#[c.toUInt8]⟩) ++ p).size = p.size + 2 ∧ pb (((⟨#[92]⟩ : ByteArray) ++ ⟨#[c.toUInt8]⟩) ++ p) 0 = 92 ∧ pb (((⟨#[92]⟩ : ByteArray) ++ ⟨#[c.toUInt8]⟩) ++ p) 1 = c ∧ ∀ j, j < p.size → pb (((⟨#[92]⟩ : ByteArray) ++ ⟨#[c.toUInt8]⟩) ++ p) (2 + j) = pb p j := by
  obtain ⟨e1, e2, e3⟩ := esc_pb c hc
  refine ⟨by rw [ByteArray.size_append, e1]; omega, ?_, ?_, fun j hj => ?_⟩
  · rw [pb_app, if_pos (by omega)]; exact e2
  · rw [pb_app, if_pos (by omega)]; exact e3
  · rw [pb_app, if_neg (by omega), e1]
    congr 1; omega
set_option maxRecDepth 100000 in
set_option maxHeartbeats 8000000 in
theorem breLetters_law (p : ByteArray) (fl : Int) (c : Nat) (hc : c < 256) (hmx : p.size ≤ maxLen) (a : Nat → Addr) (m : Int) (w : World) (hB : B5 w a m) (hT : ErrT w) : Calls Tryd.prog 4 #[.string p, .int .i64 fl, .int .u8 (c : Int)] w fun e w' => e = .returned (.bool true) ∧ Below w.heap.size w w' := by
  have HL := hide (lives7_true a m w hB hT)
  have HB := hide (fun (y : World) (h : Below w.heap.size w y) => hB.below h)
  obtain ⟨ic, hic⟩ : ∃ b, b = (!decide (bits .and .i64 fl 2 = 0)) := ⟨_, rfl⟩
  obtain ⟨nl, hnl⟩ : ∃ b, b = (!decide (bits .and .i64 fl 4 = 0)) := ⟨_, rfl⟩
  have HQB := hide (fun (s : ByteArray) (y : World) (hy : B5 y a m) => show Calls Tryd.prog 6 #[.string s, .int .i64 fl] y (ParseIs (parseB s ic nl) a y) from by rw [hic, hnl]; exact breParse_any s fl a m y hy)
  have HQE := hide (fun (s : ByteArray) (y : World) (hy : B5 y a m) => show Calls Tryd.prog 11 #[.string s, .int .i64 fl] y (ParseIs (parseE s ic nl) a y) from by rw [hic, hnl]; exact ereParse_any s fl a m y hy)
  clear hB hT hic hnl
  go_enter Tryd.func4, Tryd.ntmps4
  go_wp2_with fail
  refine HL.out.mono ?_
  rintro e w1 ⟨rfl, hb1⟩
  have H1 := hide hb1
  clear hb1 HL
  simp only [maxLen] at hmx
  go_wp2_with fail
  go_loopw [7] (fun iv wr => ∃ k : Nat, iv = .int .i64 (k : Int) ∧ k ≤ p.size ∧ (∀ i, i < k → ltr (pb p i)) ∧ Below w.heap.size w wr) (fun iv _ => p.size - (intOf iv).toNat)
  case atStart => exact ⟨0, rfl, Nat.zero_le _, fun i hi => absurd hi (by omega), H1.out⟩
  case round =>
    obtain ⟨k, rfl, hk, hlk, hbr⟩ := hrel
    have HBr := hide hbr
    have HLK := hide hlk
    clear hbr hlk
    by_cases hlt : k < p.size
    case pos =>
      have g1 : decide ((k : Int) < (p.size : Int)) = true := decide_eq_true (by omega)
      obtain ⟨b, hb⟩ : ∃ b, b = (p[k]'hlt).toNat := ⟨_, rfl⟩
      have hpbk : pb p k = b := by rw [pb_at hlt, hb]
      have HPB := hide hpbk
      have hle : b < 256 := by rw [hb]; exact (p[k]'hlt).toNat_lt
      clear hpbk
      have hcase : (b < 48) ∨ (48 ≤ b ∧ b ≤ 57) ∨ (58 ≤ b ∧ b ≤ 64) ∨ (65 ≤ b ∧ b ≤ 90) ∨ (91 ≤ b ∧ b ≤ 96) ∨ (97 ≤ b ∧ b ≤ 122) ∨ 123 ≤ b := by omega
      rcases hcase with h | ⟨h, h'⟩ | ⟨h, h'⟩ | ⟨h, h'⟩ | ⟨h, h'⟩ | ⟨h, h'⟩ | h
      · have q0 : ¬ 48 ≤ (p[k]'hlt).toNat := by omega
        have q1 : decide ((48 : Int) ≤ (((p[k]'hlt).toNat : Nat) : Int)) = false := decide_eq_false (by omega)
        have q2 : ¬ 65 ≤ (p[k]'hlt).toNat := by omega
        have q3 : decide ((65 : Int) ≤ (((p[k]'hlt).toNat : Nat) : Int)) = false := decide_eq_false (by omega)
        have q4 : ¬ 97 ≤ (p[k]'hlt).toNat := by omega
        have q5 : decide ((97 : Int) ≤ (((p[k]'hlt).toNat : Nat) : Int)) = false := decide_eq_false (by omega)
        clear hb hle
        go_wp2_with fail
        go_ret
        exact ⟨rfl, HBr.out⟩
      · have hltr := hide (show ltr b from by unfold ltr; omega)
        have q0 : 48 ≤ (p[k]'hlt).toNat := by omega
        have q1 : decide ((48 : Int) ≤ (((p[k]'hlt).toNat : Nat) : Int)) = true := decide_eq_true (by omega)
        have q2 : (p[k]'hlt).toNat ≤ 57 := by omega
        have q3 : decide ((((p[k]'hlt).toNat : Nat) : Int) ≤ (57 : Int)) = true := decide_eq_true (by omega)
        clear hb hle
        go_wp2_with fail
        go_roundw
        case rel =>
          refine ⟨k + 1, by go_num, hlt, fun i hi => ?_, HBr.out⟩
          by_cases e : i = k
          · subst e
            rw [HPB.out]
            exact hltr.out
          · exact HLK.out i (by omega)
        case measure => simp [intOf]; omega
      · have q0 : 48 ≤ (p[k]'hlt).toNat := by omega
        have q1 : decide ((48 : Int) ≤ (((p[k]'hlt).toNat : Nat) : Int)) = true := decide_eq_true (by omega)
        have q2 : ¬ (p[k]'hlt).toNat ≤ 57 := by omega
        have q3 : decide ((((p[k]'hlt).toNat : Nat) : Int) ≤ (57 : Int)) = false := decide_eq_false (by omega)
        have q4 : ¬ 65 ≤ (p[k]'hlt).toNat := by omega
        have q5 : decide ((65 : Int) ≤ (((p[k]'hlt).toNat : Nat) : Int)) = false := decide_eq_false (by omega)
        have q6 : ¬ 97 ≤ (p[k]'hlt).toNat := by omega
        have q7 : decide ((97 : Int) ≤ (((p[k]'hlt).toNat : Nat) : Int)) = false := decide_eq_false (by omega)
        clear hb hle
        go_wp2_with fail
        go_ret
        exact ⟨rfl, HBr.out⟩
      · have hltr := hide (show ltr b from by unfold ltr; omega)
        have q0 : 48 ≤ (p[k]'hlt).toNat := by omega
        have q1 : decide ((48 : Int) ≤ (((p[k]'hlt).toNat : Nat) : Int)) = true := decide_eq_true (by omega)
        have q2 : ¬ (p[k]'hlt).toNat ≤ 57 := by omega
        have q3 : decide ((((p[k]'hlt).toNat : Nat) : Int) ≤ (57 : Int)) = false := decide_eq_false (by omega)
        have q4 : 65 ≤ (p[k]'hlt).toNat := by omega
        have q5 : decide ((65 : Int) ≤ (((p[k]'hlt).toNat : Nat) : Int)) = true := decide_eq_true (by omega)
        have q6 : (p[k]'hlt).toNat ≤ 90 := by omega
        have q7 : decide ((((p[k]'hlt).toNat : Nat) : Int) ≤ (90 : Int)) = true := decide_eq_true (by omega)
        clear hb hle
        go_wp2_with fail
        go_roundw
        case rel =>
          refine ⟨k + 1, by go_num, hlt, fun i hi => ?_, HBr.out⟩
          by_cases e : i = k
          · subst e
            rw [HPB.out]
            exact hltr.out
          · exact HLK.out i (by omega)
        case measure => simp [intOf]; omega
      · have q0 : 48 ≤ (p[k]'hlt).toNat := by omega
        have q1 : decide ((48 : Int) ≤ (((p[k]'hlt).toNat : Nat) : Int)) = true := decide_eq_true (by omega)
        have q2 : ¬ (p[k]'hlt).toNat ≤ 57 := by omega
        have q3 : decide ((((p[k]'hlt).toNat : Nat) : Int) ≤ (57 : Int)) = false := decide_eq_false (by omega)
        have q4 : 65 ≤ (p[k]'hlt).toNat := by omega
        have q5 : decide ((65 : Int) ≤ (((p[k]'hlt).toNat : Nat) : Int)) = true := decide_eq_true (by omega)
        have q6 : ¬ (p[k]'hlt).toNat ≤ 90 := by omega
        have q7 : decide ((((p[k]'hlt).toNat : Nat) : Int) ≤ (90 : Int)) = false := decide_eq_false (by omega)
        have q8 : ¬ 97 ≤ (p[k]'hlt).toNat := by omega
        have q9 : decide ((97 : Int) ≤ (((p[k]'hlt).toNat : Nat) : Int)) = false := decide_eq_false (by omega)
        clear hb hle
        go_wp2_with fail
        go_ret
        exact ⟨rfl, HBr.out⟩
      · have hltr := hide (show ltr b from by unfold ltr; omega)
        have q0 : 48 ≤ (p[k]'hlt).toNat := by omega
        have q1 : decide ((48 : Int) ≤ (((p[k]'hlt).toNat : Nat) : Int)) = true := decide_eq_true (by omega)
        have q2 : ¬ (p[k]'hlt).toNat ≤ 57 := by omega
        have q3 : decide ((((p[k]'hlt).toNat : Nat) : Int) ≤ (57 : Int)) = false := decide_eq_false (by omega)
        have q4 : 65 ≤ (p[k]'hlt).toNat := by omega
        have q5 : decide ((65 : Int) ≤ (((p[k]'hlt).toNat : Nat) : Int)) = true := decide_eq_true (by omega)
        have q6 : ¬ (p[k]'hlt).toNat ≤ 90 := by omega
        have q7 : decide ((((p[k]'hlt).toNat : Nat) : Int) ≤ (90 : Int)) = false := decide_eq_false (by omega)
        have q8 : 97 ≤ (p[k]'hlt).toNat := by omega
        have q9 : decide ((97 : Int) ≤ (((p[k]'hlt).toNat : Nat) : Int)) = true := decide_eq_true (by omega)
        have q10 : (p[k]'hlt).toNat ≤ 122 := by omega
        have q11 : decide ((((p[k]'hlt).toNat : Nat) : Int) ≤ (122 : Int)) = true := decide_eq_true (by omega)
        clear hb hle
        go_wp2_with fail
        go_roundw
        case rel =>
          refine ⟨k + 1, by go_num, hlt, fun i hi => ?_, HBr.out⟩
          by_cases e : i = k
          · subst e
            rw [HPB.out]
            exact hltr.out
          · exact HLK.out i (by omega)
        case measure => simp [intOf]; omega
      · have q0 : 48 ≤ (p[k]'hlt).toNat := by omega
        have q1 : decide ((48 : Int) ≤ (((p[k]'hlt).toNat : Nat) : Int)) = true := decide_eq_true (by omega)
        have q2 : ¬ (p[k]'hlt).toNat ≤ 57 := by omega
        have q3 : decide ((((p[k]'hlt).toNat : Nat) : Int) ≤ (57 : Int)) = false := decide_eq_false (by omega)
        have q4 : 65 ≤ (p[k]'hlt).toNat := by omega
        have q5 : decide ((65 : Int) ≤ (((p[k]'hlt).toNat : Nat) : Int)) = true := decide_eq_true (by omega)
        have q6 : ¬ (p[k]'hlt).toNat ≤ 90 := by omega
        have q7 : decide ((((p[k]'hlt).toNat : Nat) : Int) ≤ (90 : Int)) = false := decide_eq_false (by omega)
        have q8 : 97 ≤ (p[k]'hlt).toNat := by omega
        have q9 : decide ((97 : Int) ≤ (((p[k]'hlt).toNat : Nat) : Int)) = true := decide_eq_true (by omega)
        have q10 : ¬ (p[k]'hlt).toNat ≤ 122 := by omega
        have q11 : decide ((((p[k]'hlt).toNat : Nat) : Int) ≤ (122 : Int)) = false := decide_eq_false (by omega)
        clear hb hle
        go_wp2_with fail
        go_ret
        exact ⟨rfl, HBr.out⟩
    case neg =>
      have g1 : decide ((k : Int) < (p.size : Int)) = false := decide_eq_false (by omega)
      by_cases hbig : 1000 < p.size
      · have g2 : decide (1000 < (p.size : Int)) = true := decide_eq_true (by omega)
        go_wp2_with fail
        go_ret
        exact ⟨rfl, HBr.out⟩
      have g2 : decide (1000 < (p.size : Int)) = false := decide_eq_false (by omega)
      have hps : p.size ≤ 1000 := by omega
      have HLl := hide (show ∀ j, j < p.size → ltr (pb p j) from fun j hj => HLK.out j (by omega))
      have hpB := parseB_run (ic := ic) (nl := nl) HLl.out hps
      have hpE := parseE_run (ic := ic) (nl := nl) HLl.out hps
      have hnd := parseB_right p ic nl
      rw [hpB] at hnd
      have hnt := hnd.2.2.2.2
      obtain ⟨t, ht⟩ : ∃ t, t = T.seq (runL ic p 0 p.size) := ⟨_, rfl⟩
      rw [← ht] at hpB hpE hnt
      have HP1 := hide (HQB.out p wr (HB.out _ HBr.out))
      have HP2 := hide (fun (y : World) (hy : Below w.heap.size w y) => HQE.out p y (HB.out _ hy))
      rw [hpB] at HP1
      simp only [hpE] at HP2
      clear hpB hpE hnd ht HLK hbig
      go_wp2_with fail
      refine HP1.out.mono ?_
      rintro e w2 ⟨B, cc, rfl, hown, hb2⟩
      have hal := (Below.refl w2.heap.size w2).alloc (Nat.le_refl _) (.cells #[.int .i64 t.hd.kind, .int .u64 t.hd.s0, .int .u64 t.hd.s1, .int .u64 t.hd.s2, .int .u64 t.hd.s3, .slice B t.subs.length cc, .int .i64 t.hd.num, .int .i64 t.hd.min, .int .i64 t.hd.max, .bool t.hd.bare] 28)
      have hbb := hb2.trans (hal.mono hb2.size)
      have H3 := hide (And.intro (HBr.out.trans (hbb.mono HBr.out.size)) (And.intro (hown.next hal) (Blk.new w2 28 #[.int .i64 t.hd.kind, .int .u64 t.hd.s0, .int .u64 t.hd.s1, .int .u64 t.hd.s2, .int .u64 t.hd.s3, .slice B t.subs.length cc, .int .i64 t.hd.num, .int .i64 t.hd.min, .int .i64 t.hd.max, .bool t.hd.bare])))
      clear hown hb2 hal hbb HP1 g1 g2
      obtain ⟨K, hK⟩ : ∃ K : Int, K = ((0 : Nat) : Int) := ⟨_, rfl⟩
      rw [← hK]
      have gK : (K != 0) = false := by rw [hK]; rfl
      have HK := hide hK
      clear hK
      simp only [Hd.cells]
      go_upto_region 12 with fail
      generalize (w2.alloc (.cells #[.int .i64 t.hd.kind, .int .u64 t.hd.s0, .int .u64 t.hd.s1, .int .u64 t.hd.s2, .int .u64 t.hd.s3, .slice B t.subs.length cc, .int .i64 t.hd.num, .int .i64 t.hd.min, .int .i64 t.hd.max, .bool t.hd.bare] 28)) = w3 at *
      generalize w2.heap.size = g9 at *
      go_wp2_with fail
      refine (HP2.out w3 H3.out.1).mono ?_
      rintro e w4 ⟨B2, c2, rfl, hown, hb4⟩
      have hal := (Below.refl w4.heap.size w4).alloc (Nat.le_refl _) (.cells #[.int .i64 t.hd.kind, .int .u64 t.hd.s0, .int .u64 t.hd.s1, .int .u64 t.hd.s2, .int .u64 t.hd.s3, .slice B2 t.subs.length c2, .int .i64 t.hd.num, .int .i64 t.hd.min, .int .i64 t.hd.max, .bool t.hd.bare] 28)
      have hbb := hb4.trans (hal.mono hb4.size)
      have H5 := hide (H3.out.1.trans (hbb.mono H3.out.1.size))
      have HG9 := hide (H3.out.2.2.next hbb)
      have HG12 := hide (Blk.new w4 28 #[.int .i64 t.hd.kind, .int .u64 t.hd.s0, .int .u64 t.hd.s1, .int .u64 t.hd.s2, .int .u64 t.hd.s3, .slice B2 t.subs.length c2, .int .i64 t.hd.num, .int .i64 t.hd.min, .int .i64 t.hd.max, .bool t.hd.bare])
      have HI1 := hide (show T.In (w4.alloc (.cells #[.int .i64 t.hd.kind, .int .u64 t.hd.s0, .int .u64 t.hd.s1, .int .u64 t.hd.s2, .int .u64 t.hd.s3, .slice B2 t.subs.length c2, .int .i64 t.hd.num, .int .i64 t.hd.min, .int .i64 t.hd.max, .bool t.hd.bare] 28)) (· < (w4.alloc (.cells #[.int .i64 t.hd.kind, .int .u64 t.hd.s0, .int .u64 t.hd.s1, .int .u64 t.hd.s2, .int .u64 t.hd.s3, .slice B2 t.subs.length c2, .int .i64 t.hd.num, .int .i64 t.hd.min, .int .i64 t.hd.max, .bool t.hd.bare] 28)).heap.size) t B from by
        obtain ⟨bs, h1, h2, h3⟩ := H3.out.2.1.next hbb
        exact h1.in_ fun b hb => (h3 b hb).2)
      have HI2 := hide (show T.In (w4.alloc (.cells #[.int .i64 t.hd.kind, .int .u64 t.hd.s0, .int .u64 t.hd.s1, .int .u64 t.hd.s2, .int .u64 t.hd.s3, .slice B2 t.subs.length c2, .int .i64 t.hd.num, .int .i64 t.hd.min, .int .i64 t.hd.max, .bool t.hd.bare] 28)) (· < (w4.alloc (.cells #[.int .i64 t.hd.kind, .int .u64 t.hd.s0, .int .u64 t.hd.s1, .int .u64 t.hd.s2, .int .u64 t.hd.s3, .slice B2 t.subs.length c2, .int .i64 t.hd.num, .int .i64 t.hd.min, .int .i64 t.hd.max, .bool t.hd.bare] 28)).heap.size) t B2 from by
        obtain ⟨bs, h1, h2, h3⟩ := hown.next hal
        exact h1.in_ fun b hb => (h3 b hb).2)
      clear hown hb4 hal hbb HP2 H3
      rw [← HK.out]
      simp only [Hd.cells]
      go_upto_region 13 with fail
      generalize (w4.alloc (.cells #[.int .i64 t.hd.kind, .int .u64 t.hd.s0, .int .u64 t.hd.s1, .int .u64 t.hd.s2, .int .u64 t.hd.s3, .slice B2 t.subs.length c2, .int .i64 t.hd.num, .int .i64 t.hd.min, .int .i64 t.hd.max, .bool t.hd.bare] 28)) = w5 at *
      generalize w4.heap.size = g12 at *
      have HSm := hide (show Calls Tryd.prog 10 #[.agg #[.int .i64 t.hd.kind, .int .u64 t.hd.s0, .int .u64 t.hd.s1, .int .u64 t.hd.s2, .int .u64 t.hd.s3, .slice B t.subs.length cc, .int .i64 t.hd.num, .int .i64 t.hd.min, .int .i64 t.hd.max, .bool t.hd.bare], .agg #[.int .i64 t.hd.kind, .int .u64 t.hd.s0, .int .u64 t.hd.s1, .int .u64 t.hd.s2, .int .u64 t.hd.s3, .slice B2 t.subs.length c2, .int .i64 t.hd.num, .int .i64 t.hd.min, .int .i64 t.hd.max, .bool t.hd.bare]] w5 fun e y' => e = .returned (.bool true) ∧ Below w5.heap.size w5 y' from by
        have h1 := same_any 10000 t t B B2 cc c2 w5 hnt (by decide) HI1.out HI2.out
        rw [T.same_self7] at h1
        exact h1)
      have hn0 := fun w => run_neq_nil_nil_at (P := Tryd.prog) (w := w) 30 (by kernel_rfl)
      have c9 := HG9.out.cell
      have c12 := HG12.out.cell
      go_wp2_with fail
      refine HSm.out.mono ?_
      rintro e w6 ⟨rfl, hb6⟩
      have H6 := hide (H5.out.trans (hb6.mono H5.out.size))
      clear hb6 HSm c9 c12 HI1 HI2 HG9 HG12 H5 gK HK hn0
      by_cases hm : mark c
      case neg =>
        have m1 : ¬ (c : Int) = 43 := fun e => hm (.inl (by omega))
        have m2 : ¬ (c : Int) = 63 := fun e => hm (.inr (.inl (by omega)))
        have m3 : ¬ (c : Int) = 124 := fun e => hm (.inr (.inr (.inl (by omega))))
        have m4 : ¬ (c : Int) = 40 := fun e => hm (.inr (.inr (.inr (.inl (by omega)))))
        have m5 : ¬ (c : Int) = 41 := fun e => hm (.inr (.inr (.inr (.inr (.inl (by omega))))))
        have m6 : ¬ (c : Int) = 123 := fun e => hm (.inr (.inr (.inr (.inr (.inr (.inl (by omega)))))))
        have m7 : ¬ (c : Int) = 125 := fun e => hm (.inr (.inr (.inr (.inr (.inr (.inr (by omega)))))))
        have n1 : ((c : Int) == 43) = false := beq_eq_false_iff_ne.2 m1
        have n2 : ((c : Int) == 63) = false := beq_eq_false_iff_ne.2 m2
        have n3 : ((c : Int) == 124) = false := beq_eq_false_iff_ne.2 m3
        have n4 : ((c : Int) == 40) = false := beq_eq_false_iff_ne.2 m4
        have n5 : ((c : Int) == 41) = false := beq_eq_false_iff_ne.2 m5
        have n6 : ((c : Int) == 123) = false := beq_eq_false_iff_ne.2 m6
        have n7 : ((c : Int) == 125) = false := beq_eq_false_iff_ne.2 m7
        go_wp2_with fail
        go_ret
        exact ⟨rfl, H6.out⟩
      case pos =>
      go_upto_region 15 with fail
      go_cut [15] (fun z wx => z = .bool true ∧ wx = w6)
      case first =>
        rcases hm with rfl | rfl | rfl | rfl | rfl | rfl | rfl
        all_goals
          go_wp2_with fail
          go_meet
          case rel => exact ⟨rfl, rfl⟩
      case rest =>
      obtain ⟨hv8, hwc⟩ := hcut
      obtain rfl := hwc.symm
      subst hv8
      obtain ⟨a1, a2, a3⟩ := mark1_pb c hc p
      obtain ⟨b1, b2, b3, b4⟩ := mark2_pb c hc p
      have hpB := parseB_mark (ic := ic) (nl := nl) HLl.out hps hm a1 a2 a3
      have hpE := parseE_mark (ic := ic) (nl := nl) HLl.out hps hm b1 b2 b3 b4
      have hnd := parseB_right ((⟨#[c.toUInt8]⟩ : ByteArray) ++ p) ic nl
      rw [hpB] at hnd
      have hnu := hnd.2.2.2.2
      obtain ⟨u, hu⟩ : ∃ u, u = T.seq (bytT (oneS ic c) :: runL ic p 0 p.size) := ⟨_, rfl⟩
      rw [← hu] at hpB hpE hnu
      have hcv0 := fun (y : World) => one_byte6 c hc y.heap.size (y.alloc (.cells #[.int .u8 (c : Int)] 5)) (by rw [(Blk.new y _ _).cell]; rfl)
      obtain ⟨cs, hcs⟩ : ∃ cs : ByteArray, cs = ⟨#[c.toUInt8]⟩ := ⟨_, rfl⟩
      have hcs1 : cs.size = 1 := by rw [hcs]; rfl
      rw [← hcs] at hpB hpE hcv0
      have HCV := hide hcv0
      obtain ⟨x1, hx1⟩ : ∃ x1, x1 = cs ++ p := ⟨_, rfl⟩
      obtain ⟨x2, hx2⟩ : ∃ x2, x2 = ((⟨#[92]⟩ : ByteArray) ++ cs) ++ p := ⟨_, rfl⟩
      rw [← hx1] at hpB
      rw [← hx2] at hpE
      have HP1 := hide (fun (y : World) (hy : Below w.heap.size w y) => HQB.out x1 y (HB.out _ hy))
      have HP2 := hide (fun (y : World) (hy : Below w.heap.size w y) => HQE.out x2 y (HB.out _ hy))
      simp only [hpB] at HP1
      simp only [hpE] at HP2
      have hcv := HCV.out w6
      have hal6 := (Below.refl w6.heap.size w6).alloc (Nat.le_refl _) (.cells #[.int .u8 (c : Int)] 5)
      have H7 := hide (H6.out.trans (hal6.mono H6.out.size))
      have HX2 := hide hx2
      have HSZ := hide hcs1
      have hpe := hx1.symm
      have hsz1 : ¬ 9223372036854775807 < cs.size + p.size := by omega
      clear hpB hpE hnd hu a1 a2 a3 b1 b2 b3 b4 hcs hcv0 hx1 hx2 hal6 hm HLl hcs1
      go_wp2_with fail
      refine (HP1.out _ H7.out).mono ?_
      rintro e w7 ⟨B3, c3, rfl, hown, hb7⟩
      have hal := (Below.refl w7.heap.size w7).alloc (Nat.le_refl _) (.cells #[.int .i64 u.hd.kind, .int .u64 u.hd.s0, .int .u64 u.hd.s1, .int .u64 u.hd.s2, .int .u64 u.hd.s3, .slice B3 u.subs.length c3, .int .i64 u.hd.num, .int .i64 u.hd.min, .int .i64 u.hd.max, .bool u.hd.bare] 28)
      have hbb := hb7.trans (hal.mono hb7.size)
      have H8 := hide (And.intro (H7.out.trans (hbb.mono H7.out.size)) (And.intro (hown.next hal) (Blk.new w7 28 #[.int .i64 u.hd.kind, .int .u64 u.hd.s0, .int .u64 u.hd.s1, .int .u64 u.hd.s2, .int .u64 u.hd.s3, .slice B3 u.subs.length c3, .int .i64 u.hd.num, .int .i64 u.hd.min, .int .i64 u.hd.max, .bool u.hd.bare])))
      clear hown hb7 hal hbb HP1 hcv hpe hsz1
      simp only [Hd.cells]
      go_upto_region 19 with fail
      generalize (w7.alloc (.cells #[.int .i64 u.hd.kind, .int .u64 u.hd.s0, .int .u64 u.hd.s1, .int .u64 u.hd.s2, .int .u64 u.hd.s3, .slice B3 u.subs.length c3, .int .i64 u.hd.num, .int .i64 u.hd.min, .int .i64 u.hd.max, .bool u.hd.bare] 28)) = w8 at *
      generalize w7.heap.size = g16 at *
      have hcv := HCV.out w8
      have hal8 := (Below.refl w8.heap.size w8).alloc (Nat.le_refl _) (.cells #[.int .u8 (c : Int)] 5)
      have H9 := hide (And.intro (H8.out.1.trans (hal8.mono H8.out.1.size)) (And.intro (H8.out.2.1.next hal8) (H8.out.2.2.next hal8)))
      have hpe := HX2.out.symm
      have hcs1 := HSZ.out
      have hsz0 : ((⟨#[92]⟩ : ByteArray) ++ cs).size = 2 := by rw [ByteArray.size_append, hcs1]; rfl
      have hsz1 : ¬ 9223372036854775807 < 1 + cs.size := by omega
      have hsz2 : ¬ 9223372036854775807 < ((⟨#[92]⟩ : ByteArray) ++ cs).size + p.size := by omega
      have hsz3 : ¬ 9223372036854775807 < 1 + cs.size + p.size := by omega
      have hsz4 : ¬ 9223372036854775807 < (⟨#[92]⟩ : ByteArray).size + cs.size := by
        have h1 : (⟨#[92]⟩ : ByteArray).size = 1 := rfl
        omega
      clear hal8 HX2 HSZ H8 hsz0 hcs1
      go_wp2_with fail
      refine (HP2.out _ H9.out.1).mono ?_
      rintro e w9 ⟨B4, c4, rfl, hown, hb9⟩
      have hal := (Below.refl w9.heap.size w9).alloc (Nat.le_refl _) (.cells #[.int .i64 u.hd.kind, .int .u64 u.hd.s0, .int .u64 u.hd.s1, .int .u64 u.hd.s2, .int .u64 u.hd.s3, .slice B4 u.subs.length c4, .int .i64 u.hd.num, .int .i64 u.hd.min, .int .i64 u.hd.max, .bool u.hd.bare] 28)
      have hbb := hb9.trans (hal.mono hb9.size)
      have H10 := hide (H9.out.1.trans (hbb.mono H9.out.1.size))
      have HG16 := hide (H9.out.2.2.next hbb)
      have HG18 := hide (Blk.new w9 28 #[.int .i64 u.hd.kind, .int .u64 u.hd.s0, .int .u64 u.hd.s1, .int .u64 u.hd.s2, .int .u64 u.hd.s3, .slice B4 u.subs.length c4, .int .i64 u.hd.num, .int .i64 u.hd.min, .int .i64 u.hd.max, .bool u.hd.bare])
      have HI1 := hide (show T.In (w9.alloc (.cells #[.int .i64 u.hd.kind, .int .u64 u.hd.s0, .int .u64 u.hd.s1, .int .u64 u.hd.s2, .int .u64 u.hd.s3, .slice B4 u.subs.length c4, .int .i64 u.hd.num, .int .i64 u.hd.min, .int .i64 u.hd.max, .bool u.hd.bare] 28)) (· < (w9.alloc (.cells #[.int .i64 u.hd.kind, .int .u64 u.hd.s0, .int .u64 u.hd.s1, .int .u64 u.hd.s2, .int .u64 u.hd.s3, .slice B4 u.subs.length c4, .int .i64 u.hd.num, .int .i64 u.hd.min, .int .i64 u.hd.max, .bool u.hd.bare] 28)).heap.size) u B3 from by
        obtain ⟨bs, h1, h2, h3⟩ := H9.out.2.1.next hbb
        exact h1.in_ fun b hb => (h3 b hb).2)
      have HI2 := hide (show T.In (w9.alloc (.cells #[.int .i64 u.hd.kind, .int .u64 u.hd.s0, .int .u64 u.hd.s1, .int .u64 u.hd.s2, .int .u64 u.hd.s3, .slice B4 u.subs.length c4, .int .i64 u.hd.num, .int .i64 u.hd.min, .int .i64 u.hd.max, .bool u.hd.bare] 28)) (· < (w9.alloc (.cells #[.int .i64 u.hd.kind, .int .u64 u.hd.s0, .int .u64 u.hd.s1, .int .u64 u.hd.s2, .int .u64 u.hd.s3, .slice B4 u.subs.length c4, .int .i64 u.hd.num, .int .i64 u.hd.min, .int .i64 u.hd.max, .bool u.hd.bare] 28)).heap.size) u B4 from by
        obtain ⟨bs, h1, h2, h3⟩ := hown.next hal
        exact h1.in_ fun b hb => (h3 b hb).2)
      clear hown hb9 hal hbb HP2 H9 hcv hpe hsz1 hsz2 hsz3 hsz4
      simp only [Hd.cells]
      go_upto_region 20 with fail
      generalize (w9.alloc (.cells #[.int .i64 u.hd.kind, .int .u64 u.hd.s0, .int .u64 u.hd.s1, .int .u64 u.hd.s2, .int .u64 u.hd.s3, .slice B4 u.subs.length c4, .int .i64 u.hd.num, .int .i64 u.hd.min, .int .i64 u.hd.max, .bool u.hd.bare] 28)) = w10 at *
      generalize w9.heap.size = g18 at *
      have HSm := hide (show Calls Tryd.prog 10 #[.agg #[.int .i64 u.hd.kind, .int .u64 u.hd.s0, .int .u64 u.hd.s1, .int .u64 u.hd.s2, .int .u64 u.hd.s3, .slice B3 u.subs.length c3, .int .i64 u.hd.num, .int .i64 u.hd.min, .int .i64 u.hd.max, .bool u.hd.bare], .agg #[.int .i64 u.hd.kind, .int .u64 u.hd.s0, .int .u64 u.hd.s1, .int .u64 u.hd.s2, .int .u64 u.hd.s3, .slice B4 u.subs.length c4, .int .i64 u.hd.num, .int .i64 u.hd.min, .int .i64 u.hd.max, .bool u.hd.bare]] w10 fun e y' => e = .returned (.bool true) ∧ Below w10.heap.size w10 y' from by
        have h1 := same_any 10000 u u B3 B4 c3 c4 w10 hnu (by decide) HI1.out HI2.out
        rw [T.same_self7] at h1
        exact h1)
      have hn0 := fun w => run_eql_nil_nil_at (P := Tryd.prog) (w := w) 30 (by kernel_rfl)
      have c16 := HG16.out.cell
      have c18 := HG18.out.cell
      go_wp2_with fail
      refine HSm.out.mono ?_
      rintro e w11 ⟨rfl, hb11⟩
      have H11 := hide (H10.out.trans (hb11.mono H10.out.size))
      clear hb11
      go_wp2_with fail
      go_ret
      exact ⟨rfl, H11.out⟩
theorem breLetters_card (p : ByteArray) (fl n : Int) (hn : 0 ≤ n ∧ n ≤ 255) (hs : p.size ≤ maxLen) (a : Nat → Addr) (m : Int) (w : World) (hB : B5 w a m) (hT : ErrT w) : Calls Tryd.prog 4 #[.string p, .int .i64 fl, .int .u8 n] w fun e w' => e = .returned (.bool true) ∧ Below w.heap.size w w' := by
  obtain ⟨c, rfl⟩ : ∃ c : Nat, n = (c : Int) := ⟨n.toNat, by omega⟩
  exact breLetters_law p fl c (by omega) hs a m w hB hT
end Go.Proofs.YtpkcklpjbeginaaDoor
