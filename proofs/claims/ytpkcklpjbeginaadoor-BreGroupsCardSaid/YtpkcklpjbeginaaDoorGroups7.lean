/- trawllaw07.BreGroups: the law walked. (Printed by gen_groups7.py.) -/
import Derived.Test.YtpkcklpjbeginaaDoorBreF
import Derived.Test.YtpkcklpjbeginaaDoorJoinP7
import Derived.Test.YtpkcklpjbeginaaDoorRaise7
import Derived.Test.YtpkcklpjbeginaaDoorJoinsLaw6
set_option linter.unusedSimpArgs false
set_option linter.unusedVariables false
namespace Go.Proofs.YtpkcklpjbeginaaDoor
open Go.RowKit

theorem paren2_emb (p : ByteArray) : (((⟨#[92, 40]⟩ : ByteArray) ++ p) ++ ⟨#[92, 41]⟩).size = p.size + 4 ∧ pb (((⟨#[92, 40]⟩ : ByteArray) ++ p) ++ ⟨#[92, 41]⟩) 0 = 92 ∧ pb (((⟨#[92, 40]⟩ : ByteArray) ++ p) ++ ⟨#[92, 41]⟩) 1 = 40 ∧ Emb (((⟨#[92, 40]⟩ : ByteArray) ++ p) ++ ⟨#[92, 41]⟩) p 2 92 ∧ pb (((⟨#[92, 40]⟩ : ByteArray) ++ p) ++ ⟨#[92, 41]⟩) (2 + p.size + 1) = 41 := by
  have s1 : (⟨#[92, 40]⟩ : ByteArray).size = 2 := rfl
  have s2 : (⟨#[92, 41]⟩ : ByteArray).size = 2 := rfl
  have s3 : ((⟨#[92, 40]⟩ : ByteArray) ++ p).size = 2 + p.size := by rw [ByteArray.size_append, s1]
  have hs : (((⟨#[92, 40]⟩ : ByteArray) ++ p) ++ ⟨#[92, 41]⟩).size = p.size + 4 := by rw [ByteArray.size_append, s3, s2]; omega
  refine ⟨hs, ?_, ?_, ⟨by omega, fun i hi => ?_, ?_, .inr (.inr (.inr rfl))⟩, ?_⟩
  · rw [pb_app, if_pos (by omega), pb_app, if_pos (by omega)]; rfl
  · rw [pb_app, if_pos (by omega), pb_app, if_pos (by omega)]; rfl
  · rw [pb_app, if_pos (by omega), pb_app, if_neg (by omega), s1]
    congr 1; omega
  · rw [pb_app, if_neg (by omega), s3, show 2 + p.size - (2 + p.size) = 0 by omega]; rfl
  · rw [pb_app, if_neg (by omega), s3, show 2 + p.size + 1 - (2 + p.size) = 1 by omega]; rfl
set_option maxRecDepth 100000 in
set_option maxHeartbeats 4000000 in
theorem breGroups_law (p : ByteArray) (fl : Int) (a : Nat → Addr) (m : Int) (w : World) (hB : B5 w a m) (hT : ErrT w) : Calls Tryd.prog 3 #[.string p, .int .i64 fl] w fun e w' => e = .returned (.bool true) ∧ Below w.heap.size w w' := by
  have HL := hide (lives7_true a m w hB hT)
  have HB := hide (fun (y : World) (h : Below w.heap.size w y) => hB.below h)
  have HP := hide (fun (s : ByteArray) (y : World) (hy : B5 y a m) => breParse_any s fl a m y hy)
  clear hB hT
  go_enter Tryd.func3, Tryd.ntmps3
  go_wp2_with fail
  refine HL.out.mono ?_
  rintro e w1 ⟨rfl, hb1⟩
  have H1 := hide hb1
  clear hb1 HL
  go_wp2_with fail
  refine (HP.out p w1 (HB.out _ H1.out)).mono ?_
  rintro e w2 hz
  cases hr1 : parseB p (!decide (bits .and .i64 fl 2 = 0)) (!decide (bits .and .i64 fl 4 = 0)) with
  | bad c pl =>
    rw [hr1] at hz
    obtain ⟨gf, rfl, hfi, hb2⟩ := hz
    have hal := (Below.refl w2.heap.size w2).alloc (Nat.le_refl _) (.cells #[.int .i64 0, .int .u64 0, .int .u64 0, .int .u64 0, .int .u64 0, .slice none 0 0, .int .i64 0, .int .i64 0, .int .i64 0, .bool false] 28)
    have H3 := hide (H1.out.trans ((hb2.trans (hal.mono hb2.size)).mono H1.out.size))
    clear hfi hb2 hal hr1
    unfold faultV zeroCells
    go_upto_region 4 with fail
    generalize (w2.alloc (.cells #[.int .i64 0, .int .u64 0, .int .u64 0, .int .u64 0, .int .u64 0, .slice none 0 0, .int .i64 0, .int .i64 0, .int .i64 0, .bool false] 28)) = w3 at *
    have hn0 := fun w => run_neq_iface_nil (P := Tryd.prog) (w := w) 30 (by kernel_rfl) 56 (.pointer (some ⟨gf, 0, none⟩))
    go_wp2_with fail
    go_ret
    exact ⟨rfl, H3.out⟩
  | ok t j n =>
    rw [hr1] at hz
    obtain ⟨B, cc, rfl, hown, hb2⟩ := hz
    have hal := (Below.refl w2.heap.size w2).alloc (Nat.le_refl _) (.cells #[.int .i64 t.hd.kind, .int .u64 t.hd.s0, .int .u64 t.hd.s1, .int .u64 t.hd.s2, .int .u64 t.hd.s3, .slice B t.subs.length cc, .int .i64 t.hd.num, .int .i64 t.hd.min, .int .i64 t.hd.max, .bool t.hd.bare] 28)
    have hbb := hb2.trans (hal.mono hb2.size)
    have H3 := hide (And.intro (H1.out.trans (hbb.mono H1.out.size)) (And.intro (hown.next hal) (Blk.new w2 28 #[.int .i64 t.hd.kind, .int .u64 t.hd.s0, .int .u64 t.hd.s1, .int .u64 t.hd.s2, .int .u64 t.hd.s3, .slice B t.subs.length cc, .int .i64 t.hd.num, .int .i64 t.hd.min, .int .i64 t.hd.max, .bool t.hd.bare])))
    have HR1 := hide hr1
    clear hown hb2 hal hbb hr1
    simp only [Hd.cells]
    go_upto_region 4 with fail
    generalize (w2.alloc (.cells #[.int .i64 t.hd.kind, .int .u64 t.hd.s0, .int .u64 t.hd.s1, .int .u64 t.hd.s2, .int .u64 t.hd.s3, .slice B t.subs.length cc, .int .i64 t.hd.num, .int .i64 t.hd.min, .int .i64 t.hd.max, .bool t.hd.bare] 28)) = w3 at *
    generalize w2.heap.size = g5 at *
    have hn0 := fun w => run_neq_nil_nil_at (P := Tryd.prog) (w := w) 30 (by kernel_rfl)
    have hq1 := parseB_in HR1.out
    have hp1 := hq1.2.1
    have hnn := hq1.2.2.1
    have hnd := parseB_right p (!decide (bits .and .i64 fl 2 = 0)) (!decide (bits .and .i64 fl 4 = 0))
    rw [HR1.out] at hnd
    have hnt : t.nodes ≤ 10000 := hnd.2.2.2.2
    clear hq1 hnd
    by_cases hbig : 1020 < p.size
    · have g1 : decide ((1020 : Int) < (p.size : Int)) = true := decide_eq_true (by omega)
      go_wp2_with fail
      go_ret
      exact ⟨rfl, H3.out.1⟩
    have g1 : decide ((1020 : Int) < (p.size : Int)) = false := decide_eq_false (by omega)
    have hle : p.size ≤ 1020 := by omega
    clear hbig
    obtain ⟨s1, s2, s3, s4, s5⟩ := paren2_emb p
    have hj := join_groupB HR1.out s4 s5 s2 s3 s1 (by omega)
    obtain ⟨x1, hx1⟩ : ∃ x1, x1 = ((⟨#[92, 40]⟩ : ByteArray) ++ p) ++ ⟨#[92, 41]⟩ := ⟨_, rfl⟩
    rw [← hx1] at hj
    have hrx := parseB_right x1 (!decide (bits .and .i64 fl 2 = 0)) (!decide (bits .and .i64 fl 4 = 0))
    have HPx := hide (HP.out x1 w3 (HB.out _ H3.out.1))
    obtain ⟨r3, hr3⟩ : ∃ r3, r3 = parseB x1 (!decide (bits .and .i64 fl 2 = 0)) (!decide (bits .and .i64 fl 4 = 0)) := ⟨_, rfl⟩
    rw [← hr3] at hj hrx HPx
    have hpe := hx1.symm
    clear hx1 s1 s2 s3 s4 s5 hr3
    have hsz1 : ¬ 9223372036854775807 < 2 + p.size := by omega
    have hsz2 : ¬ 9223372036854775807 < 2 + p.size + 2 := by omega
    go_wp2_with fail
    refine HPx.out.mono ?_
    rintro e w6 hz
    clear hpe hsz1 hsz2 HPx g1 hn0
    cases r3 with
    | bad c pl =>
      obtain ⟨gf, rfl, hfi, hb2⟩ := hz
      have hc : c = 9 ∨ c = 10 := hj
      have hal := (Below.refl w6.heap.size w6).alloc (Nat.le_refl _) (.cells #[.int .i64 0, .int .u64 0, .int .u64 0, .int .u64 0, .int .u64 0, .slice none 0 0, .int .i64 0, .int .i64 0, .int .i64 0, .bool false] 28)
      have hb3 := H3.out.1.trans ((hb2.trans (hal.mono hb2.size)).mono H3.out.1.size)
      have H7 := hide (And.intro hb3 (Blk.next hfi hal))
      clear hj hrx hfi hb2 hal hb3
      unfold faultV zeroCells
      go_upto_region 7 with fail
      generalize (w6.alloc (.cells #[.int .i64 0, .int .u64 0, .int .u64 0, .int .u64 0, .int .u64 0, .slice none 0 0, .int .i64 0, .int .i64 0, .int .i64 0, .bool false] 28)) = w7 at *
      have hn1 := fun w => run_neq_iface_nil (P := Tryd.prog) (w := w) 30 (by kernel_rfl) 56 (.pointer (some ⟨gf, 0, none⟩))
      have HN := hide (num_fault w7 a gf pl c (by omega) (HB.out _ H7.out.1).errs H7.out.2)
      go_wp2_with fail
      refine HN.out.mono ?_
      rintro e w8 ⟨rfl, hb8⟩
      have HS := hide (H7.out.1.trans (hb8.mono H7.out.1.size))
      clear hb8 HN H7 hn1
      rcases hc with rfl | rfl
      · go_wp2_with fail
        go_ret
        exact ⟨rfl, HS.out⟩
      · go_wp2_with fail
        go_ret
        exact ⟨rfl, HS.out⟩
    | ok t' j' k =>
      obtain ⟨hk, ht'⟩ := hj
      subst ht'
      have hnd1 := hrx.2.2.2.2
      obtain ⟨B3, c3, rfl, hown, hb2⟩ := hz
      have hal := (Below.refl w6.heap.size w6).alloc (Nat.le_refl _) (.cells #[.int .i64 7, .int .u64 0, .int .u64 0, .int .u64 0, .int .u64 0, .slice B3 1 c3, .int .i64 1, .int .i64 0, .int .i64 0, .bool false] 28)
      have hbb := hb2.trans (hal.mono hb2.size)
      have H7 := hide (And.intro (H3.out.1.trans (hbb.mono H3.out.1.size)) (Blk.new w6 28 #[.int .i64 7, .int .u64 0, .int .u64 0, .int .u64 0, .int .u64 0, .slice B3 1 c3, .int .i64 1, .int .i64 0, .int .i64 0, .bool false]))
      have HI3 := hide (show T.In (w6.alloc (.cells #[.int .i64 7, .int .u64 0, .int .u64 0, .int .u64 0, .int .u64 0, .slice B3 1 c3, .int .i64 1, .int .i64 0, .int .i64 0, .bool false] 28)) (· < (w6.alloc (.cells #[.int .i64 7, .int .u64 0, .int .u64 0, .int .u64 0, .int .u64 0, .slice B3 1 c3, .int .i64 1, .int .i64 0, .int .i64 0, .bool false] 28)).heap.size) (grpT 1 (t.raise 1)) B3 from by
        obtain ⟨bs, h1, h2, h3⟩ := hown.next hal
        exact h1.in_ fun b hb => (h3 b hb).2)
      have HIt := hide (show T.In (w6.alloc (.cells #[.int .i64 7, .int .u64 0, .int .u64 0, .int .u64 0, .int .u64 0, .slice B3 1 c3, .int .i64 1, .int .i64 0, .int .i64 0, .bool false] 28)) (· < (w6.alloc (.cells #[.int .i64 7, .int .u64 0, .int .u64 0, .int .u64 0, .int .u64 0, .slice B3 1 c3, .int .i64 1, .int .i64 0, .int .i64 0, .bool false] 28)).heap.size) t B from by
        obtain ⟨bs, h1, h2, h3⟩ := H3.out.2.1.next hbb
        exact h1.in_ fun b hb => (h3 b hb).2)
      have HT5 := hide (H3.out.2.2.next hbb)
      obtain ⟨K, hK⟩ : ∃ K : Int, K = (k : Int) := ⟨_, rfl⟩
      rw [← hK]
      have gK : (K == (n : Int) + 1) = true := by rw [hK, hk]; simp
      have iw1 : IntKind.i64.wrap ((n : Int) + 1) = (n : Int) + 1 := wrapI (by omega) (by omega)
      clear hrx hown hb2 hal hK hk hbb
      rw [show (.agg ((grpT 1 (t.raise 1)).hd.cells (.slice B3 (grpT 1 (t.raise 1)).subs.length c3)).toArray : Value) = .agg #[.int .i64 7, .int .u64 0, .int .u64 0, .int .u64 0, .int .u64 0, .slice B3 1 c3, .int .i64 1, .int .i64 0, .int .i64 0, .bool false] from rfl]
      go_upto_region 7 with fail
      generalize (w6.alloc (.cells #[.int .i64 7, .int .u64 0, .int .u64 0, .int .u64 0, .int .u64 0, .slice B3 1 c3, .int .i64 1, .int .i64 0, .int .i64 0, .bool false] 28)) = w7 at *
      generalize w6.heap.size = g8 at *
      have hn0 := fun w => run_neq_nil_nil_at (P := Tryd.prog) (w := w) 30 (by kernel_rfl)
      have c5 := HT5.out.cell
      have HCp := hide (copyNode_any t.nodes t B cc w7 (Nat.le_refl _) (by omega) HIt.out)
      simp only [Hd.cells] at HCp
      go_wp2_with fail
      refine HCp.out.mono ?_
      rintro e w8 ⟨B2, c2, bs, rfl, hown, hnd, hbs, hb8⟩
      have hal := (Below.refl w8.heap.size w8).alloc (Nat.le_refl _) (.cells #[.int .i64 t.hd.kind, .int .u64 t.hd.s0, .int .u64 t.hd.s1, .int .u64 t.hd.s2, .int .u64 t.hd.s3, .slice B2 t.subs.length c2, .int .i64 t.hd.num, .int .i64 t.hd.min, .int .i64 t.hd.max, .bool t.hd.bare] 28)
      have hbb := hb8.trans (hal.mono hb8.size)
      have H9 := hide (And.intro hbb (And.intro (Blk.new w8 28 #[.int .i64 t.hd.kind, .int .u64 t.hd.s0, .int .u64 t.hd.s1, .int .u64 t.hd.s2, .int .u64 t.hd.s3, .slice B2 t.subs.length c2, .int .i64 t.hd.num, .int .i64 t.hd.min, .int .i64 t.hd.max, .bool t.hd.bare]) (show T.Own (w8.alloc (.cells #[.int .i64 t.hd.kind, .int .u64 t.hd.s0, .int .u64 t.hd.s1, .int .u64 t.hd.s2, .int .u64 t.hd.s3, .slice B2 t.subs.length c2, .int .i64 t.hd.num, .int .i64 t.hd.min, .int .i64 t.hd.max, .bool t.hd.bare] 28)) t B2 bs from hown.same (fun b hb => hal.block b (hbs b hb).2))))
      have HBS := hide (And.intro hnd hbs)
      have HS1 := hide (show w7.heap.size ≤ w8.heap.size from hb8.size)
      have HSA := hide (show (w8.alloc (.cells #[.int .i64 t.hd.kind, .int .u64 t.hd.s0, .int .u64 t.hd.s1, .int .u64 t.hd.s2, .int .u64 t.hd.s3, .slice B2 t.subs.length c2, .int .i64 t.hd.num, .int .i64 t.hd.min, .int .i64 t.hd.max, .bool t.hd.bare] 28)).heap.size = w8.heap.size + 1 from World.size_alloc _ _)
      clear hal hown hnd hbs hb8 HCp c5 hbb HT5 HIt hn0
      simp only [Hd.cells]
      go_upto_region 11 with fail
      generalize (w8.alloc (.cells #[.int .i64 t.hd.kind, .int .u64 t.hd.s0, .int .u64 t.hd.s1, .int .u64 t.hd.s2, .int .u64 t.hd.s3, .slice B2 t.subs.length c2, .int .i64 t.hd.num, .int .i64 t.hd.min, .int .i64 t.hd.max, .bool t.hd.bare] 28)) = w9 at *
      have HRz := hide (raise7_any t.nodes t B2 c2 bs w9 w8.heap.size 0 #[.int .i64 t.hd.kind, .int .u64 t.hd.s0, .int .u64 t.hd.s1, .int .u64 t.hd.s2, .int .u64 t.hd.s3, .slice B2 t.subs.length c2, .int .i64 t.hd.num, .int .i64 t.hd.min, .int .i64 t.hd.max, .bool t.hd.bare] [] [] (Nat.le_refl _) (by omega) H9.out.2.2 HBS.out.1 (fun b hb => by have := (HBS.out.2 b hb).2; have := HSA.out; omega) (fun h => by have := (HBS.out.2 _ h).2; omega) H9.out.2.1 (by simp [Hd.cells]) rfl)
      go_wp2_with fail
      refine HRz.out.mono ?_
      rintro e w10 ⟨rfl, cur', hb2, hx2, ho2, hon⟩
      have hcur : cur' = #[.int .i64 (t.raise 1).hd.kind, .int .u64 (t.raise 1).hd.s0, .int .u64 (t.raise 1).hd.s1, .int .u64 (t.raise 1).hd.s2, .int .u64 (t.raise 1).hd.s3, .slice B2 (t.raise 1).subs.length c2, .int .i64 (t.raise 1).hd.num, .int .i64 (t.raise 1).hd.min, .int .i64 (t.raise 1).hd.max, .bool (t.raise 1).hd.bare] := by
        have : cur' = ((t.raise 1).hd.cells (.slice B2 (t.raise 1).subs.length c2)).toArray := by
          rw [T.raise_len, ← List.append_nil ((t.raise 1).hd.cells (.slice B2 t.subs.length c2)), ← List.nil_append ((t.raise 1).hd.cells (.slice B2 t.subs.length c2) ++ []), ← hx2]
        rw [this]; rfl
      subst hcur
      have hb10 : Below w7.heap.size w7 w10 := H9.out.1.trans (hon.below (B := w7.heap.size) H9.out.1.size (fun b hb => by have h3 := HS1.out; rcases hb with h | h; omega; exact (HBS.out.2 _ h).1))
      have HG8 := hide (H7.out.2.next hb10)
      have HI8 := hide (HI3.out.next hb10)
      have HG11 := hide (show Blk w10 w8.heap.size 28 #[.int .i64 (t.raise 1).hd.kind, .int .u64 (t.raise 1).hd.s0, .int .u64 (t.raise 1).hd.s1, .int .u64 (t.raise 1).hd.s2, .int .u64 (t.raise 1).hd.s3, .slice B2 (t.raise 1).subs.length c2, .int .i64 (t.raise 1).hd.num, .int .i64 (t.raise 1).hd.min, .int .i64 (t.raise 1).hd.max, .bool (t.raise 1).hd.bare] from hb2)
      have HI11 := hide (show T.In w10 (· < w10.heap.size) (t.raise 1) B2 from ho2.in_ fun b hb => Nat.lt_of_lt_of_le (by have := (HBS.out.2 b hb).2; have := HSA.out; omega) hon.size)
      have H10 := hide (H7.out.1.trans (hb10.mono H7.out.1.size))
      clear hb2 hx2 ho2 hon hb10 HRz H9 HBS HS1 HSA H7 HI3
      generalize w8.heap.size = g11 at *
      have HSm := hide (fun (z : World) (hz : Below w10.heap.size w10 z) (B' : Option Addr) (c' : Nat) (hi : T.In z (· < z.heap.size) (grpT 1 (t.raise 1)) B') => show Calls Tryd.prog 10 #[.agg #[.int .i64 7, .int .u64 0, .int .u64 0, .int .u64 0, .int .u64 0, .slice B3 1 c3, .int .i64 1, .int .i64 0, .int .i64 0, .bool false], .agg #[.int .i64 7, .int .u64 0, .int .u64 0, .int .u64 0, .int .u64 0, .slice B' 1 c', .int .i64 1, .int .i64 0, .int .i64 0, .bool false]] z fun e w' => e = .returned (.bool true) ∧ Below z.heap.size z w' from by
        have h1 := same_any 10000 (grpT 1 (t.raise 1)) (grpT 1 (t.raise 1)) B3 B' c3 c' z hnd1 (by decide) (HI8.out.next hz) hi
        rw [T.same_self7] at h1
        exact h1)
      have hS := (Below.refl w10.heap.size w10).alloc (Nat.le_refl _) (.cells #[.int .i64 (t.raise 1).hd.kind, .int .u64 (t.raise 1).hd.s0, .int .u64 (t.raise 1).hd.s1, .int .u64 (t.raise 1).hd.s2, .int .u64 (t.raise 1).hd.s3, .slice B2 (t.raise 1).subs.length c2, .int .i64 (t.raise 1).hd.num, .int .i64 (t.raise 1).hd.min, .int .i64 (t.raise 1).hd.max, .bool (t.raise 1).hd.bare] 28)
      have HI5 := hide (show T.In (w10.alloc (.cells #[.int .i64 (t.raise 1).hd.kind, .int .u64 (t.raise 1).hd.s0, .int .u64 (t.raise 1).hd.s1, .int .u64 (t.raise 1).hd.s2, .int .u64 (t.raise 1).hd.s3, .slice B2 (t.raise 1).subs.length c2, .int .i64 (t.raise 1).hd.num, .int .i64 (t.raise 1).hd.min, .int .i64 (t.raise 1).hd.max, .bool (t.raise 1).hd.bare] 28)) (· < (w10.alloc (.cells #[.int .i64 (t.raise 1).hd.kind, .int .u64 (t.raise 1).hd.s0, .int .u64 (t.raise 1).hd.s1, .int .u64 (t.raise 1).hd.s2, .int .u64 (t.raise 1).hd.s3, .slice B2 (t.raise 1).subs.length c2, .int .i64 (t.raise 1).hd.num, .int .i64 (t.raise 1).hd.min, .int .i64 (t.raise 1).hd.max, .bool (t.raise 1).hd.bare] 28)).heap.size) (grpT 1 (t.raise 1)) (some ⟨w10.heap.size, 0, none⟩) from one_in7 (Blk.new w10 28 #[.int .i64 (t.raise 1).hd.kind, .int .u64 (t.raise 1).hd.s0, .int .u64 (t.raise 1).hd.s1, .int .u64 (t.raise 1).hd.s2, .int .u64 (t.raise 1).hd.s3, .slice B2 (t.raise 1).subs.length c2, .int .i64 (t.raise 1).hd.num, .int .i64 (t.raise 1).hd.min, .int .i64 (t.raise 1).hd.max, .bool (t.raise 1).hd.bare]) (by simp) (HI11.out.next hS))
      have HS := hide hS
      have c8 := HG8.out.cell
      have c11 := HG11.out.cell
      clear hS
      go_wp2_with fail
      refine (HSm.out _ HS.out _ 1 HI5.out).mono ?_
      rintro e z4 ⟨rfl, hb6⟩
      have hS := HS.out.trans (hb6.mono HS.out.size)
      clear hb6 HI5 c8 c11
      have Hf := hide (H10.out.trans (hS.mono H10.out.size))
      clear hS
      go_wp2_with fail
      go_ret
      exact ⟨rfl, Hf.out⟩
end Go.Proofs.YtpkcklpjbeginaaDoor
