/- trawllaw06.EreJoins: the law walked. (Printed by gen_joinslaw6.py.) -/
import Derived.Test.YtfehmfifjidjjaaDoorEreB
import Derived.Test.YtfehmfifjidjjaaDoorRaise6
import Derived.Laws.Strings
set_option linter.unusedSimpArgs false
set_option linter.unusedVariables false
namespace Go.Proofs.YtfehmfifjidjjaaDoor
open Go.RowKit

mutual
theorem T.same_self7 : ∀ t : T, t.same t = true
  | .mk h l => by simp [T.same, show h.same h = true from Hd.same_iff.2 rfl, TL.same_self7 l]
theorem TL.same_self7 : ∀ l : List T, TL.same l l = true
  | [] => by simp [TL.same]
  | t :: l => by simp [TL.same, T.same_self7 t, TL.same_self7 l]
end
theorem app_list7 (x y : ByteArray) : (x ++ y).data.toList = x.data.toList ++ y.data.toList := by simp
theorem pb_app (a b : ByteArray) (i : Nat) : pb (a ++ b) i = if i < a.size then pb a i else pb b (i - a.size) := by
  have hs : (a ++ b).size = a.size + b.size := ByteArray.size_append
  by_cases h : i < a.size
  · rw [if_pos h]
    have h0 := data_at (a ++ b) i
    rw [app_list7, if_pos (by omega), List.getElem?_append_left (by rw [data_len]; exact h), data_at, if_pos h] at h0
    exact ((u8_eq (pb_lt h) (pb_lt (by omega))).1 (Option.some.inj h0)).symm
  · rw [if_neg h]
    by_cases h2 : i < a.size + b.size
    · have h0 := data_at (a ++ b) i
      rw [app_list7, if_pos (by omega), List.getElem?_append_right (by rw [data_len]; omega), data_len, data_at, if_pos (by omega)] at h0
      exact ((u8_eq (pb_lt (by omega)) (pb_lt (by omega))).1 (Option.some.inj h0)).symm
    · rw [pb_none (by omega), pb_none (by omega)]
theorem paren_emb (p : ByteArray) : (((⟨#[40]⟩ : ByteArray) ++ p) ++ ⟨#[41]⟩).size = p.size + 2 ∧ pb (((⟨#[40]⟩ : ByteArray) ++ p) ++ ⟨#[41]⟩) 0 = 40 ∧ Emb (((⟨#[40]⟩ : ByteArray) ++ p) ++ ⟨#[41]⟩) p 1 41 := by
  have s1 : (⟨#[40]⟩ : ByteArray).size = 1 := rfl
  have s2 : (⟨#[41]⟩ : ByteArray).size = 1 := rfl
  have s3 : ((⟨#[40]⟩ : ByteArray) ++ p).size = 1 + p.size := by rw [ByteArray.size_append, s1]
  have hs : (((⟨#[40]⟩ : ByteArray) ++ p) ++ ⟨#[41]⟩).size = p.size + 2 := by rw [ByteArray.size_append, s3, s2]; omega
  refine ⟨hs, ?_, ⟨by omega, fun i hi => ?_, ?_, .inr (.inr rfl)⟩⟩
  · rw [pb_app, if_pos (by omega), pb_app, if_pos (by omega)]; rfl
  · rw [pb_app, if_pos (by omega), pb_app, if_neg (by omega), s1]
    congr 1; omega
  · rw [pb_app, if_neg (by omega), s3, show 1 + p.size - (1 + p.size) = 0 by omega]; rfl
theorem bar_emb (p q : ByteArray) : ((p ++ (⟨#[124]⟩ : ByteArray)) ++ q).size = p.size + 1 + q.size ∧ Emb ((p ++ (⟨#[124]⟩ : ByteArray)) ++ q) p 0 124 ∧ Emb ((p ++ (⟨#[124]⟩ : ByteArray)) ++ q) q (p.size + 1) 256 := by
  have s1 : (⟨#[124]⟩ : ByteArray).size = 1 := rfl
  have s3 : (p ++ (⟨#[124]⟩ : ByteArray)).size = p.size + 1 := by rw [ByteArray.size_append, s1]
  have hs : ((p ++ (⟨#[124]⟩ : ByteArray)) ++ q).size = p.size + 1 + q.size := by rw [ByteArray.size_append, s3]
  refine ⟨hs, ⟨by omega, fun i hi => ?_, ?_, .inr (.inl rfl)⟩, ⟨by omega, fun i hi => ?_, pb_none (by omega), .inl rfl⟩⟩
  · rw [Nat.zero_add, pb_app, if_pos (by omega), pb_app, if_pos hi]
  · rw [Nat.zero_add, pb_app, if_pos (by omega), pb_app, if_neg (by omega), Nat.sub_self]; rfl
  · rw [pb_app, if_neg (by omega), s3]
    congr 1; omega
/-- A row of one tree. -/
theorem one_in7 {w : World} {ok : Nat → Prop} {t : T} {h : Hd} {B : Option Addr} {c g : Nat} (hg : Blk w g 28 (t.hd.cells (.slice B t.subs.length c)).toArray) (hok : ok g) (ht : T.In w ok t B) : T.In w ok (.mk h [t]) (some ⟨g, 0, none⟩) := by
  refine T.In_iff.2 ⟨g, 0, B, c, rfl, hok, fun j u hu => ?_, ht, trivial⟩
  rw [Addr.add_lit, Nat.zero_add, hg.cell]
  simpa using hu
/-- A row of two trees. -/
theorem two_in {w : World} {ok : Nat → Prop} {t u : T} {h : Hd} {B B2 : Option Addr} {c c2 g : Nat} (hg : Blk w g 28 (t.hd.cells (.slice B t.subs.length c) ++ u.hd.cells (.slice B2 u.subs.length c2)).toArray) (hok : ok g) (ht : T.In w ok t B) (hu : T.In w ok u B2) : T.In w ok (.mk h [t, u]) (some ⟨g, 0, none⟩) := by
  refine T.In_iff.2 ⟨g, 0, B, c, rfl, hok, fun j x hx => ?_, ht, g, 10, B2, c2, rfl, hok, fun j x hx => ?_, hu, trivial⟩
  · rw [Addr.add_lit, Nat.zero_add, hg.cell, List.getElem?_toArray, List.getElem?_append_left (List.getElem?_eq_some_iff.1 hx).1]
    exact hx
  · rw [Addr.add_lit, hg.cell, List.getElem?_toArray, List.getElem?_append_right (by simp [Hd.cells_length])]
    simpa [Hd.cells_length] using hx
theorem branches_any (t : T) (A : Option Addr) (c : Nat) (w : World) : Calls Tryd.prog 15 #[.agg (t.hd.cells (.slice A t.subs.length c)).toArray] w fun e w' => e = .returned (.bool (t.hd.kind == 6)) ∧ Below w.heap.size w w' := by
  have hbx := (Blk.new w 28 (t.hd.cells (.slice A t.subs.length c)).toArray).cell
  have hbel := hide ((Below.refl w.heap.size w).alloc (Nat.le_refl _) (.cells (t.hd.cells (.slice A t.subs.length c)).toArray 28))
  simp only [Hd.cells] at hbx hbel ⊢
  go_enter Tryd.func15, Tryd.ntmps15
  go_wp2_with fail
  go_ret
  exact ⟨rfl, hbel.out⟩
set_option maxRecDepth 100000 in
set_option maxHeartbeats 4000000 in
theorem ereJoins_law (p q : ByteArray) (fl : Int) (a : Nat → Addr) (m : Int) (w : World) (hB : B5 w a m) (hT : ErrT w) : Calls Tryd.prog 4 #[.string p, .string q, .int .i64 fl] w fun e w' => e = .returned (.bool true) ∧ Below w.heap.size w w' := by
  have HL := hide (lives6_true a m w hB hT)
  have HB := hide (fun (y : World) (h : Below w.heap.size w y) => hB.below h)
  have HT := hide (fun (y : World) (h : Below w.heap.size w y) => hT.below h)
  have HP := hide (fun (s : ByteArray) (y : World) (hy : B5 y a m) => ereParse_any s fl a m y hy)
  clear hB hT
  go_enter Tryd.func4, Tryd.ntmps4
  go_wp2_with fail
  refine HL.out.mono ?_
  rintro e w1 ⟨rfl, hb1⟩
  have H1 := hide hb1
  clear hb1 HL
  go_wp2_with fail
  refine (HP.out p w1 (HB.out _ H1.out)).mono ?_
  rintro e w2 hz
  cases hr1 : parseE p (!decide (bits .and .i64 fl 2 = 0)) (!decide (bits .and .i64 fl 4 = 0)) with
  | bad c pl =>
    rw [hr1] at hz
    obtain ⟨gf, rfl, hfi, hb2⟩ := hz
    have hal := (Below.refl w2.heap.size w2).alloc (Nat.le_refl _) (.cells #[.int .i64 0, .int .u64 0, .int .u64 0, .int .u64 0, .int .u64 0, .slice none 0 0, .int .i64 0, .int .i64 0, .int .i64 0, .bool false] 28)
    have H3 := hide (H1.out.trans ((hb2.trans (hal.mono hb2.size)).mono H1.out.size))
    clear hfi hb2 hal hr1
    unfold faultV zeroCells
    go_upto_region 4 with fail
    generalize (w2.alloc (.cells #[.int .i64 0, .int .u64 0, .int .u64 0, .int .u64 0, .int .u64 0, .slice none 0 0, .int .i64 0, .int .i64 0, .int .i64 0, .bool false] 28)) = w3 at *
    have hn0 := fun w => run_neq_iface_nil (P := Tryd.prog) (w := w) 30 (by kernel_rfl) 50 (.pointer (some ⟨gf, 0, none⟩))
    go_wp2_with fail
    refine (HP.out q w3 (HB.out _ H3.out)).mono ?_
    rintro e w4 hz
    cases hr2 : parseE q (!decide (bits .and .i64 fl 2 = 0)) (!decide (bits .and .i64 fl 4 = 0)) with
    | bad c' pl' =>
      rw [hr2] at hz
      obtain ⟨gf2, rfl, hfi, hb2⟩ := hz
      have hal := (Below.refl w4.heap.size w4).alloc (Nat.le_refl _) (.cells #[.int .i64 0, .int .u64 0, .int .u64 0, .int .u64 0, .int .u64 0, .slice none 0 0, .int .i64 0, .int .i64 0, .int .i64 0, .bool false] 28)
      have H5 := hide (H3.out.trans ((hb2.trans (hal.mono hb2.size)).mono H3.out.size))
      clear hfi hb2 hal hr2
      unfold faultV zeroCells
      go_upto_region 5 with fail
      generalize (w4.alloc (.cells #[.int .i64 0, .int .u64 0, .int .u64 0, .int .u64 0, .int .u64 0, .slice none 0 0, .int .i64 0, .int .i64 0, .int .i64 0, .bool false] 28)) = w5 at *
      go_wp2_with fail
      go_ret
      exact ⟨rfl, H5.out⟩
    | ok u j2 m2 =>
      rw [hr2] at hz
      obtain ⟨B2, c2, rfl, hown, hb2⟩ := hz
      have hal := (Below.refl w4.heap.size w4).alloc (Nat.le_refl _) (.cells #[.int .i64 u.hd.kind, .int .u64 u.hd.s0, .int .u64 u.hd.s1, .int .u64 u.hd.s2, .int .u64 u.hd.s3, .slice B2 u.subs.length c2, .int .i64 u.hd.num, .int .i64 u.hd.min, .int .i64 u.hd.max, .bool u.hd.bare] 28)
      have H5 := hide (H3.out.trans ((hb2.trans (hal.mono hb2.size)).mono H3.out.size))
      clear hown hb2 hal hr2
      simp only [Hd.cells]
      go_upto_region 5 with fail
      generalize (w4.alloc (.cells #[.int .i64 u.hd.kind, .int .u64 u.hd.s0, .int .u64 u.hd.s1, .int .u64 u.hd.s2, .int .u64 u.hd.s3, .slice B2 u.subs.length c2, .int .i64 u.hd.num, .int .i64 u.hd.min, .int .i64 u.hd.max, .bool u.hd.bare] 28)) = w5 at *
      go_wp2_with fail
      go_ret
      exact ⟨rfl, H5.out⟩
  | ok t j n =>
    rw [hr1] at hz
    obtain ⟨B, cc, rfl, hown, hb2⟩ := hz
    have hal := (Below.refl w2.heap.size w2).alloc (Nat.le_refl _) (.cells #[.int .i64 t.hd.kind, .int .u64 t.hd.s0, .int .u64 t.hd.s1, .int .u64 t.hd.s2, .int .u64 t.hd.s3, .slice B t.subs.length cc, .int .i64 t.hd.num, .int .i64 t.hd.min, .int .i64 t.hd.max, .bool t.hd.bare] 28)
    have hbb := hb2.trans (hal.mono hb2.size)
    have H3 := hide (And.intro (H1.out.trans (hbb.mono H1.out.size)) (And.intro (hown.next hal) (Blk.new w2 28 #[.int .i64 t.hd.kind, .int .u64 t.hd.s0, .int .u64 t.hd.s1, .int .u64 t.hd.s2, .int .u64 t.hd.s3, .slice B t.subs.length cc, .int .i64 t.hd.num, .int .i64 t.hd.min, .int .i64 t.hd.max, .bool t.hd.bare])))
    have HR1 := hide hr1
    clear hown hb2 hal hbb hr1
    simp only [Hd.cells]
    go_upto_region 4 with fail
    generalize (w2.alloc (.cells #[.int .i64 t.hd.kind, .int .u64 t.hd.s0, .int .u64 t.hd.s1, .int .u64 t.hd.s2, .int .u64 t.hd.s3, .slice B t.subs.length cc, .int .i64 t.hd.num, .int .i64 t.hd.min, .int .i64 t.hd.max, .bool t.hd.bare] 28)) = w3 at *
    generalize w2.heap.size = g7 at *
    go_wp2_with fail
    refine (HP.out q w3 (HB.out _ H3.out.1)).mono ?_
    rintro e w4 hz
    have hn0 := fun w => run_neq_nil_nil_at (P := Tryd.prog) (w := w) 30 (by kernel_rfl)
    cases hr2 : parseE q (!decide (bits .and .i64 fl 2 = 0)) (!decide (bits .and .i64 fl 4 = 0)) with
    | bad c' pl' =>
      rw [hr2] at hz
      obtain ⟨gf2, rfl, hfi, hb2⟩ := hz
      have hal := (Below.refl w4.heap.size w4).alloc (Nat.le_refl _) (.cells #[.int .i64 0, .int .u64 0, .int .u64 0, .int .u64 0, .int .u64 0, .slice none 0 0, .int .i64 0, .int .i64 0, .int .i64 0, .bool false] 28)
      have H5 := hide (H3.out.1.trans ((hb2.trans (hal.mono hb2.size)).mono H3.out.1.size))
      clear hfi hb2 hal hr2
      unfold faultV zeroCells
      go_upto_region 5 with fail
      generalize (w4.alloc (.cells #[.int .i64 0, .int .u64 0, .int .u64 0, .int .u64 0, .int .u64 0, .slice none 0 0, .int .i64 0, .int .i64 0, .int .i64 0, .bool false] 28)) = w5 at *
      have hn1 := fun w => run_neq_iface_nil (P := Tryd.prog) (w := w) 30 (by kernel_rfl) 50 (.pointer (some ⟨gf2, 0, none⟩))
      go_wp2_with fail
      go_ret
      exact ⟨rfl, H5.out⟩
    | ok u j2 m2 =>
      rw [hr2] at hz
      obtain ⟨B2, c2, rfl, hown, hb2⟩ := hz
      have hal := (Below.refl w4.heap.size w4).alloc (Nat.le_refl _) (.cells #[.int .i64 u.hd.kind, .int .u64 u.hd.s0, .int .u64 u.hd.s1, .int .u64 u.hd.s2, .int .u64 u.hd.s3, .slice B2 u.subs.length c2, .int .i64 u.hd.num, .int .i64 u.hd.min, .int .i64 u.hd.max, .bool u.hd.bare] 28)
      have hbb := hb2.trans (hal.mono hb2.size)
      have H5 := hide (H3.out.1.trans (hbb.mono H3.out.1.size))
      have HT7 := hide (H3.out.2.2.next hbb)
      have HT10 := hide (Blk.new w4 28 #[.int .i64 u.hd.kind, .int .u64 u.hd.s0, .int .u64 u.hd.s1, .int .u64 u.hd.s2, .int .u64 u.hd.s3, .slice B2 u.subs.length c2, .int .i64 u.hd.num, .int .i64 u.hd.min, .int .i64 u.hd.max, .bool u.hd.bare])
      have HIt := hide (show T.In (w4.alloc (.cells #[.int .i64 u.hd.kind, .int .u64 u.hd.s0, .int .u64 u.hd.s1, .int .u64 u.hd.s2, .int .u64 u.hd.s3, .slice B2 u.subs.length c2, .int .i64 u.hd.num, .int .i64 u.hd.min, .int .i64 u.hd.max, .bool u.hd.bare] 28)) (· < (w4.alloc (.cells #[.int .i64 u.hd.kind, .int .u64 u.hd.s0, .int .u64 u.hd.s1, .int .u64 u.hd.s2, .int .u64 u.hd.s3, .slice B2 u.subs.length c2, .int .i64 u.hd.num, .int .i64 u.hd.min, .int .i64 u.hd.max, .bool u.hd.bare] 28)).heap.size) t B from by
        obtain ⟨bs, h1, h2, h3⟩ := H3.out.2.1.next hbb
        exact h1.in_ fun b hb => (h3 b hb).2)
      have HIu := hide (show T.In (w4.alloc (.cells #[.int .i64 u.hd.kind, .int .u64 u.hd.s0, .int .u64 u.hd.s1, .int .u64 u.hd.s2, .int .u64 u.hd.s3, .slice B2 u.subs.length c2, .int .i64 u.hd.num, .int .i64 u.hd.min, .int .i64 u.hd.max, .bool u.hd.bare] 28)) (· < (w4.alloc (.cells #[.int .i64 u.hd.kind, .int .u64 u.hd.s0, .int .u64 u.hd.s1, .int .u64 u.hd.s2, .int .u64 u.hd.s3, .slice B2 u.subs.length c2, .int .i64 u.hd.num, .int .i64 u.hd.min, .int .i64 u.hd.max, .bool u.hd.bare] 28)).heap.size) u B2 from by
        obtain ⟨bs, h1, h2, h3⟩ := hown.next hal
        exact h1.in_ fun b hb => (h3 b hb).2)
      have HR2 := hide hr2
      clear hown hb2 hal hbb hr2
      simp only [Hd.cells]
      go_upto_region 5 with fail
      generalize (w4.alloc (.cells #[.int .i64 u.hd.kind, .int .u64 u.hd.s0, .int .u64 u.hd.s1, .int .u64 u.hd.s2, .int .u64 u.hd.s3, .slice B2 u.subs.length c2, .int .i64 u.hd.num, .int .i64 u.hd.min, .int .i64 u.hd.max, .bool u.hd.bare] 28)) = w5 at *
      generalize w4.heap.size = g10 at *
      have hq1 := parse_in HR1.out
      have hq2 := parse_in HR2.out
      have hp1 := hq1.2.1
      have hp2 := hq2.2.1
      have hnn := hq1.2.2.1
      have hmm := hq2.2.2.1
      have hnd := parseE_right p (!decide (bits .and .i64 fl 2 = 0)) (!decide (bits .and .i64 fl 4 = 0))
      rw [HR1.out] at hnd
      have hnd2 := parseE_right q (!decide (bits .and .i64 fl 2 = 0)) (!decide (bits .and .i64 fl 4 = 0))
      rw [HR2.out] at hnd2
      have hnt : t.nodes ≤ 10000 := hnd.2.2.2.2
      have hnu : u.nodes ≤ 10000 := hnd2.2.2.2.2
      clear hq1 hq2 hnd hnd2 H3
      by_cases hbig : 1000 < p.size + q.size
      · have g1 : decide ((1000 : Int) < (p.size : Int) + (q.size : Int)) = true := decide_eq_true (by omega)
        go_wp2_with fail
        go_ret
        exact ⟨rfl, H5.out⟩
      have g1 : decide ((1000 : Int) < (p.size : Int) + (q.size : Int)) = false := decide_eq_false (by omega)
      have hsum : p.size + q.size ≤ 1000 := by omega
      clear hbig
      obtain ⟨s1, s2, s3⟩ := paren_emb p
      have hj := join_group HR1.out s3 s2 s1 (by omega)
      obtain ⟨x1, hx1⟩ : ∃ x1, x1 = ((⟨#[40]⟩ : ByteArray) ++ p) ++ ⟨#[41]⟩ := ⟨_, rfl⟩
      rw [← hx1] at hj
      have hrx := parseE_right x1 (!decide (bits .and .i64 fl 2 = 0)) (!decide (bits .and .i64 fl 4 = 0))
      have HPx := hide (HP.out x1 w5 (HB.out _ H5.out))
      obtain ⟨r3, hr3⟩ : ∃ r3, r3 = parseE x1 (!decide (bits .and .i64 fl 2 = 0)) (!decide (bits .and .i64 fl 4 = 0)) := ⟨_, rfl⟩
      rw [← hr3] at hj hrx HPx
      have hpe := hx1.symm
      clear hx1 s1 s2 s3 hr3
      have hsz1 : ¬ 9223372036854775807 < 1 + p.size := by omega
      have hsz2 : ¬ 9223372036854775807 < 1 + p.size + 1 := by omega
      go_wp2_with fail
      refine HPx.out.mono ?_
      rintro e w6 hz
      clear hpe hsz1 hsz2 HPx g1
      cases r3 with
      | bad c pl =>
        obtain ⟨gf, rfl, hfi, hb2⟩ := hz
        have hc : c = 9 ∨ c = 10 := hj
        have hal := (Below.refl w6.heap.size w6).alloc (Nat.le_refl _) (.cells #[.int .i64 0, .int .u64 0, .int .u64 0, .int .u64 0, .int .u64 0, .slice none 0 0, .int .i64 0, .int .i64 0, .int .i64 0, .bool false] 28)
        have H7 := hide (And.intro (hb2.trans (hal.mono hb2.size)) (And.intro (Blk.next hfi hal) (Blk.new w6 28 #[.int .i64 0, .int .u64 0, .int .u64 0, .int .u64 0, .int .u64 0, .slice none 0 0, .int .i64 0, .int .i64 0, .int .i64 0, .bool false])))
        have HG5 := hide hb2.size
        clear hj hrx hfi hb2 hal
        unfold faultV zeroCells
        go_upto_region 8 with fail
        generalize (w6.alloc (.cells #[.int .i64 0, .int .u64 0, .int .u64 0, .int .u64 0, .int .u64 0, .slice none 0 0, .int .i64 0, .int .i64 0, .int .i64 0, .bool false] 28)) = w7 at *
        generalize w6.heap.size = g13 at *
        have hn1 := fun w => run_neq_iface_nil (P := Tryd.prog) (w := w) 30 (by kernel_rfl) 50 (.pointer (some ⟨gf, 0, none⟩))
        have HN := hide (num_fault w7 a gf pl c (by omega) (HB.out _ (H5.out.trans (H7.out.1.mono H5.out.size))).errs H7.out.2.1)
        go_wp2_with fail
        refine HN.out.mono ?_
        rintro e w8 ⟨rfl, hb8⟩
        have HS := hide (H7.out.1.trans (hb8.mono H7.out.1.size))
        have HG13 := hide (show Blk w8 g13 28 #[.int .i64 0, .int .u64 0, .int .u64 0, .int .u64 0, .int .u64 0, .slice none 0 0, .int .i64 0, .int .i64 0, .int .i64 0, .bool false] from H7.out.2.2.next hb8)
        have hs13 : (#[.int .i64 0, .int .u64 0, .int .u64 0, .int .u64 0, .int .u64 0, .slice none 0 0, .int .i64 0, .int .i64 0, .int .i64 0, .bool false] : Array Value).size = 10 := rfl
        clear hb8 HN H7 hn1
        go_upto_region 10 with fail
        go_cut [64] (fun z wx => z = .bool false ∧ wx = w8)
        case first =>
          rcases hc with rfl | rfl
          · go_wp2_with fail
            go_meet
            case rel => exact ⟨rfl, rfl⟩
          · go_wp2_with fail
            go_meet
            case rel => exact ⟨rfl, rfl⟩
        case rest =>
        obtain ⟨hv8, hwc⟩ := hcut
        obtain rfl := hwc.symm
        subst hv8
        clear hc
        have c7 := (HT7.out.next HS.out).cell
        have HBr1 := hide (fun (y : World) => branches_any t B cc y)
        have HBr2 := hide (fun (y : World) => branches_any u B2 c2 y)
        simp only [Hd.cells] at HBr1 HBr2
        go_wp2_with fail
        refine (HBr1.out _).mono ?_
        rintro e wa ⟨rfl, hba⟩
        have HSa := hide (HS.out.trans (hba.mono HS.out.size))
        have HG13a := hide (HG13.out.next hba)
        clear hba c7 HBr1 HS HG13
        by_cases k6 : t.hd.kind = 6
        · have e6 : (t.hd.kind == 6) = true := by rw [k6]; rfl
          go_wp2_with fail
          go_ret
          exact ⟨rfl, H5.out.trans (HSa.out.mono H5.out.size)⟩
        have e6 : (t.hd.kind == 6) = false := by simp [k6]
        have c10 := (HT10.out.next HSa.out).cell
        go_wp2_with fail
        refine (HBr2.out _).mono ?_
        rintro e wb ⟨rfl, hbb⟩
        have HSb := hide (HSa.out.trans (hbb.mono HSa.out.size))
        have HG13b := hide (HG13a.out.next hbb)
        clear hbb c10 HBr2 HSa HG13a e6
        by_cases k6' : u.hd.kind = 6
        · have e6 : (u.hd.kind == 6) = true := by rw [k6']; rfl
          go_wp2_with fail
          go_ret
          exact ⟨rfl, H5.out.trans (HSb.out.mono H5.out.size)⟩
        have e6 : (u.hd.kind == 6) = false := by simp [k6']
        obtain ⟨s1, s2, s3⟩ := bar_emb p q
        have hj := join_alt HR1.out HR2.out k6 k6' s2 s3 s1 (by omega)
        obtain ⟨x2, hx2⟩ : ∃ x2, x2 = (p ++ (⟨#[124]⟩ : ByteArray)) ++ q := ⟨_, rfl⟩
        rw [← hx2] at hj s1
        have hrx2 := parseE_right x2 (!decide (bits .and .i64 fl 2 = 0)) (!decide (bits .and .i64 fl 4 = 0))
        have HPx := hide (HP.out x2 wb (HB.out _ (H5.out.trans (HSb.out.mono H5.out.size))))
        rw [hj] at HPx hrx2
        have HS1 := hide s1
        have hpe := hx2.symm
        clear hx2 s1 s2 s3 hj
        go_wp2_with fail
        refine HPx.out.mono ?_
        rintro e wc hz
        clear hpe HPx e6
        by_cases hbig : 2000 < (T.mk ⟨6, 0, 0, 0, 0, 0, 0, 0, false⟩ [t, u.raise n]).fullSize
        · rw [if_pos hbig] at hz
          obtain ⟨gf, rfl, hfi, hbc⟩ := hz
          have HSc := hide (HSb.out.trans (hbc.mono HSb.out.size))
          have HF := hide hfi
          have HG := hide (HG13b.out.next hbc)
          unfold faultV zeroCells
          clear hbc hfi
          go_wp2_with (refine wpList_store_node rfl _ _ rfl g13 _ ⟨0, 0, 0, 0, 0, 0, 0, 0, false⟩ none 0 0 rfl rfl HG.out hs13 ?_; intro w9 hrow9 hg9 hz9)
          have hb9 := below_grew HSc.out hg9 (Nat.le_refl _) (fun q hq => by rw [← Option.some.inj hq]; exact HG5.out)
          have H9 := hide (And.intro (H5.out.trans (hb9.mono H5.out.size)) (Blk.grown HF.out hg9 (fun e => (blk_ne6 HF.out HG.out (by decide)) (Option.some.inj e))))
          obtain ⟨pl, hpl⟩ : ∃ pl : Int, pl = ((x2.size : Nat) : Int) := ⟨_, rfl⟩
          rw [← hpl] at H9
          have g18 : (pl == (p.size : Int) + (q.size : Int) + 1) = true := by rw [hpl, HS1.out, beq_iff_eq]; omega
          clear hb9 hrow9 hg9 hz9 HG HF hpl
          have hn1 := fun w => run_neq_iface_nil (P := Tryd.prog) (w := w) 30 (by kernel_rfl) 50 (.pointer (some ⟨gf, 0, none⟩))
          have HN := hide (num_fault w9 a gf pl 9 (by decide) (HB.out _ H9.out.1).errs H9.out.2)
          have HPl := hide (fun (y : World) (hy : Below w9.heap.size w9 y) => place_fault gf pl _ y (HT.out _ (H9.out.1.trans (hy.mono H9.out.1.size))) (Blk.next H9.out.2 hy))
          go_wp2_with fail
          refine HN.out.mono ?_
          rintro e wd ⟨rfl, hbd⟩
          have HPl2 := hide (HPl.out wd hbd)
          have Hd := hide (H9.out.1.trans (hbd.mono H9.out.1.size))
          clear hbd HN HPl hn1 H9
          go_wp2_with fail
          refine HPl2.out.mono ?_
          rintro e we ⟨rfl, hbe⟩
          have He := hide (Hd.out.trans (hbe.mono Hd.out.size))
          clear hbe HPl2
          go_wp2_with fail
          go_ret
          exact ⟨rfl, He.out⟩
        · rw [if_neg hbig] at hz hrx2
          have hnd4 := hrx2.2.2.2.2
          obtain ⟨B4, c4, rfl, hown, hbc⟩ := hz
          have HSc := hide (HSb.out.trans (hbc.mono HSb.out.size))
          have HG := hide (HG13b.out.next hbc)
          have HO4 := hide hown
          have HG5b := hide (show g13 < wb.heap.size from HG13b.out.lt)
          obtain ⟨K, hK⟩ : ∃ K : Int, K = ((n + m2 : Nat) : Int) := ⟨_, rfl⟩
          rw [← hK]
          have gK : (K == (n : Int) + (m2 : Int)) = true := by rw [hK]; simp
          have iw : IntKind.i64.wrap ((n : Int) + (m2 : Int)) = (n : Int) + (m2 : Int) := wrapI (by omega) (by omega)
          clear hbc hown hrx2 hK
          go_upto_region 17 with (refine wpList_store_node rfl _ _ rfl g13 _ ⟨6, 0, 0, 0, 0, 0, 0, 0, false⟩ B4 2 c4 rfl rfl HG.out hs13 ?_; intro w9 hrow9 hg9 hz9)
          have HS4 := hide (below_grew HSc.out hg9 (Nat.le_refl _) (fun q hq => by rw [← Option.some.inj hq]; exact HG5.out))
          have HG4 := hide (show Blk w9 g13 28 #[.int .i64 6, .int .u64 0, .int .u64 0, .int .u64 0, .int .u64 0, .slice B4 2 c4, .int .i64 0, .int .i64 0, .int .i64 0, .bool false] from hrow9)
          have HI4 := hide (show T.In w9 (· < w9.heap.size) (T.mk ⟨6, 0, 0, 0, 0, 0, 0, 0, false⟩ [t, u.raise n]) B4 from by
            obtain ⟨bs, h1, h2, h3⟩ := HO4.out
            exact (h1.same (w' := w9) (fun b hb => hg9.block b (h3 b hb).2 (fun e => by have := Option.some.inj e; have h4 := (h3 b hb).1; have h5 := HG5b.out; omega))).in_ fun b hb => Nat.lt_of_lt_of_le (h3 b hb).2 hg9.size)
          have HSm4 := hide (fun (z : World) (hz : Below w9.heap.size w9 z) (B' : Option Addr) (c' : Nat) (hi : T.In z (· < z.heap.size) (T.mk ⟨6, 0, 0, 0, 0, 0, 0, 0, false⟩ [t, u.raise n]) B') => show Calls Tryd.prog 13 #[.agg #[.int .i64 6, .int .u64 0, .int .u64 0, .int .u64 0, .int .u64 0, .slice B4 2 c4, .int .i64 0, .int .i64 0, .int .i64 0, .bool false], .agg #[.int .i64 6, .int .u64 0, .int .u64 0, .int .u64 0, .int .u64 0, .slice B' 2 c', .int .i64 0, .int .i64 0, .int .i64 0, .bool false]] z fun e w' => e = .returned (.bool true) ∧ Below z.heap.size z w' from by
            have h1 := same_any 10000 (T.mk ⟨6, 0, 0, 0, 0, 0, 0, 0, false⟩ [t, u.raise n]) (T.mk ⟨6, 0, 0, 0, 0, 0, 0, 0, false⟩ [t, u.raise n]) B4 B' c4 c' z hnd4 (by decide) (HI4.out.next hz) hi
            rw [T.same_self7] at h1
            exact h1)
          have HRd := hide (fun (z : World) (hz : Below w5.heap.size w5 z) => raised_any (n : Int) u B2 c2 z (by omega) (HIu.out.next hz))
          simp only [Hd.cells] at HRd
          clear hrow9 hg9 hz9 HG HO4 HG5b hnd4
          go_upto_region 19 with fail
          refine wp_region_mix (fun z => Below w9.heap.size w9 z) [] (by kernel_rfl) (fun hcl => ?_)
          generalize hz0 : w9.drew = z0
          have hS : Below w9.heap.size w9 z0 := by rw [← hz0]; exact (Below.refl _ _).drew
          clear hz0
          refine wpAnyT_free (i := 0) hcl rfl (by kernel_rfl) (v := ?_) (fun _ _ _ h => h) hS (Or.inl ⟨rfl, fun w' _ => ?_⟩) (fun hcl => ?_)
          rotate_left
          · go_simp
            with_reducible rfl
          simp only [List.getElem_toArray, List.getElem_cons_zero, List.getElem_cons_succ, Act.put, List.setIfInBounds_toArray, List.set_cons_zero, List.set_cons_succ]
          refine wpAnyT_free (i := 1) hcl rfl (by kernel_rfl) (v := ?_) (fun _ _ _ h => h) hS (Or.inl ⟨rfl, fun w' _ => ?_⟩) (fun hcl => ?_)
          rotate_left
          · go_simp
            with_reducible rfl
          simp only [List.getElem_toArray, List.getElem_cons_zero, List.getElem_cons_succ, Act.put, List.setIfInBounds_toArray, List.set_cons_zero, List.set_cons_succ]
          refine wpAnyT_free (i := 2) hcl rfl (by kernel_rfl) (v := ?_) (fun _ _ _ h => h) hS (Or.inl ⟨rfl, fun w' _ => ?_⟩) (fun hcl => ?_)
          rotate_left
          · go_simp
            with_reducible rfl
          simp only [List.getElem_toArray, List.getElem_cons_zero, List.getElem_cons_succ, Act.put, List.setIfInBounds_toArray, List.set_cons_zero, List.set_cons_succ]
          refine wpAnyT_free (i := 3) hcl rfl (by kernel_rfl) (v := ?_) (fun _ _ _ h => h) hS (Or.inl ⟨rfl, fun w' _ => ?_⟩) (fun hcl => ?_)
          rotate_left
          · go_simp
            with_reducible rfl
          simp only [List.getElem_toArray, List.getElem_cons_zero, List.getElem_cons_succ, Act.put, List.setIfInBounds_toArray, List.set_cons_zero, List.set_cons_succ]
          refine wpAnyT_free (i := 4) hcl rfl (by kernel_rfl) (v := ?_) (fun _ _ _ h => h) hS (Or.inl ⟨rfl, fun w' _ => ?_⟩) (fun hcl => ?_)
          rotate_left
          · go_simp
            with_reducible rfl
          simp only [List.getElem_toArray, List.getElem_cons_zero, List.getElem_cons_succ, Act.put, List.setIfInBounds_toArray, List.set_cons_zero, List.set_cons_succ]
          refine wpAnyT_free (i := 5) hcl rfl (by kernel_rfl) (v := ?_) (fun _ _ _ h => h) hS (Or.inl ⟨rfl, fun w' _ => ?_⟩) (fun hcl => ?_)
          rotate_left
          · go_simp
            with_reducible rfl
          simp only [List.getElem_toArray, List.getElem_cons_zero, List.getElem_cons_succ, Act.put, List.setIfInBounds_toArray, List.set_cons_zero, List.set_cons_succ]
          refine wpAnyT_take (i := 6) hcl rfl (by kernel_rfl) (v := ?_) (fun _ _ _ h => h) hS (Or.inl ⟨rfl, fun w' hS => ?_⟩) (fun hcl => ?_)
          rotate_left
          · skip
            have cr : ∀ i : Nat, _ = _ := (HG4.out.next hS).cell
            go_simp
            with_reducible rfl
          simp only [List.getElem_toArray, List.getElem_cons_zero, List.getElem_cons_succ, Act.put, List.setIfInBounds_toArray, List.set_cons_zero, List.set_cons_succ]
          refine wpAnyT_take (i := 7) hcl rfl (by kernel_rfl) (v := ?_) (fun _ _ _ h => h) hS (Or.inl ⟨rfl, fun w' hS => ?_⟩) (fun hcl => ?_)
          rotate_left
          · skip
            have cr : ∀ i : Nat, _ = _ := (HT7.out.next (HS4.out.trans (hS.mono HS4.out.size))).cell
            go_simp
            with_reducible rfl
          simp only [List.getElem_toArray, List.getElem_cons_zero, List.getElem_cons_succ, Act.put, List.setIfInBounds_toArray, List.set_cons_zero, List.set_cons_succ]
          refine wpAnyT_take (i := 8) hcl rfl (by kernel_rfl) (v := ?_) (fun _ _ _ h => h) hS (Or.inl ⟨rfl, fun w' hS => ?_⟩) (fun hcl => ?_)
          rotate_left
          · skip
            have cr : ∀ i : Nat, _ = _ := (HT10.out.next (HS4.out.trans (hS.mono HS4.out.size))).cell
            go_simp
            with_reducible rfl
          simp only [List.getElem_toArray, List.getElem_cons_zero, List.getElem_cons_succ, Act.put, List.setIfInBounds_toArray, List.set_cons_zero, List.set_cons_succ]
          refine wpAnyT_free (i := 9) hcl rfl (by kernel_rfl) (v := ?_) (fun _ _ _ h => h) hS (Or.inl ⟨rfl, fun w' _ => ?_⟩) (fun hcl => ?_)
          rotate_left
          · go_simp
            with_reducible rfl
          simp only [List.getElem_toArray, List.getElem_cons_zero, List.getElem_cons_succ, Act.put, List.setIfInBounds_toArray, List.set_cons_zero, List.set_cons_succ]
          refine wpAnyT_step (i := 10) hcl rfl (by kernel_rfl) (fun hcl => ?_)
          simp only [List.getElem_toArray, List.getElem_cons_zero, List.getElem_cons_succ, Act.put, List.setIfInBounds_toArray, List.set_cons_zero, List.set_cons_succ]
          go_wp2_with fail
          refine (HRd.out z0 (HS4.out.trans (hS.mono HS4.out.size))).mono ?_
          rintro e z1 ⟨B5, c5, bs, rfl, hown5, hnd5, hbs5, hb5⟩
          have hS1 := hS.trans (hb5.mono hS.size)
          have HO5 := hide (show T.In z1 (· < z1.heap.size) (u.raise n) B5 from hown5.in_ fun b hb => (hbs5 b hb).2)
          have HOt := hide (show T.In z1 (· < z1.heap.size) t B from HIt.out.next (HS4.out.trans (hS1.mono HS4.out.size)))
          clear hown5 hnd5 hbs5 hb5 hS
          simp only [Hd.cells]
          go_wp2_with fail
          refine ⟨hS1, ?_⟩
          refine wpAnyT_step (i := 11) hcl rfl (by kernel_rfl) (fun hcl => ?_)
          simp only [List.getElem_toArray, List.getElem_cons_zero, List.getElem_cons_succ, Act.put, List.setIfInBounds_toArray, List.set_cons_zero, List.set_cons_succ]
          have hS2 := hS1.alloc hS1.size (.cells #[.int .i64 t.hd.kind, .int .u64 t.hd.s0, .int .u64 t.hd.s1, .int .u64 t.hd.s2, .int .u64 t.hd.s3, .slice B t.subs.length cc, .int .i64 t.hd.num, .int .i64 t.hd.min, .int .i64 t.hd.max, .bool t.hd.bare, .int .i64 (u.raise n).hd.kind, .int .u64 (u.raise n).hd.s0, .int .u64 (u.raise n).hd.s1, .int .u64 (u.raise n).hd.s2, .int .u64 (u.raise n).hd.s3, .slice B5 (u.raise n).subs.length c5, .int .i64 (u.raise n).hd.num, .int .i64 (u.raise n).hd.min, .int .i64 (u.raise n).hd.max, .bool (u.raise n).hd.bare] 28)
          have hal := (Below.refl z1.heap.size z1).alloc (Nat.le_refl _) (.cells #[.int .i64 t.hd.kind, .int .u64 t.hd.s0, .int .u64 t.hd.s1, .int .u64 t.hd.s2, .int .u64 t.hd.s3, .slice B t.subs.length cc, .int .i64 t.hd.num, .int .i64 t.hd.min, .int .i64 t.hd.max, .bool t.hd.bare, .int .i64 (u.raise n).hd.kind, .int .u64 (u.raise n).hd.s0, .int .u64 (u.raise n).hd.s1, .int .u64 (u.raise n).hd.s2, .int .u64 (u.raise n).hd.s3, .slice B5 (u.raise n).subs.length c5, .int .i64 (u.raise n).hd.num, .int .i64 (u.raise n).hd.min, .int .i64 (u.raise n).hd.max, .bool (u.raise n).hd.bare] 28)
          have HI5 := hide (show T.In (z1.alloc (.cells #[.int .i64 t.hd.kind, .int .u64 t.hd.s0, .int .u64 t.hd.s1, .int .u64 t.hd.s2, .int .u64 t.hd.s3, .slice B t.subs.length cc, .int .i64 t.hd.num, .int .i64 t.hd.min, .int .i64 t.hd.max, .bool t.hd.bare, .int .i64 (u.raise n).hd.kind, .int .u64 (u.raise n).hd.s0, .int .u64 (u.raise n).hd.s1, .int .u64 (u.raise n).hd.s2, .int .u64 (u.raise n).hd.s3, .slice B5 (u.raise n).subs.length c5, .int .i64 (u.raise n).hd.num, .int .i64 (u.raise n).hd.min, .int .i64 (u.raise n).hd.max, .bool (u.raise n).hd.bare] 28)) (· < (z1.alloc (.cells #[.int .i64 t.hd.kind, .int .u64 t.hd.s0, .int .u64 t.hd.s1, .int .u64 t.hd.s2, .int .u64 t.hd.s3, .slice B t.subs.length cc, .int .i64 t.hd.num, .int .i64 t.hd.min, .int .i64 t.hd.max, .bool t.hd.bare, .int .i64 (u.raise n).hd.kind, .int .u64 (u.raise n).hd.s0, .int .u64 (u.raise n).hd.s1, .int .u64 (u.raise n).hd.s2, .int .u64 (u.raise n).hd.s3, .slice B5 (u.raise n).subs.length c5, .int .i64 (u.raise n).hd.num, .int .i64 (u.raise n).hd.min, .int .i64 (u.raise n).hd.max, .bool (u.raise n).hd.bare] 28)).heap.size) (T.mk ⟨6, 0, 0, 0, 0, 0, 0, 0, false⟩ [t, u.raise n]) (some ⟨z1.heap.size, 0, none⟩) from two_in (Blk.new z1 28 #[.int .i64 t.hd.kind, .int .u64 t.hd.s0, .int .u64 t.hd.s1, .int .u64 t.hd.s2, .int .u64 t.hd.s3, .slice B t.subs.length cc, .int .i64 t.hd.num, .int .i64 t.hd.min, .int .i64 t.hd.max, .bool t.hd.bare, .int .i64 (u.raise n).hd.kind, .int .u64 (u.raise n).hd.s0, .int .u64 (u.raise n).hd.s1, .int .u64 (u.raise n).hd.s2, .int .u64 (u.raise n).hd.s3, .slice B5 (u.raise n).subs.length c5, .int .i64 (u.raise n).hd.num, .int .i64 (u.raise n).hd.min, .int .i64 (u.raise n).hd.max, .bool (u.raise n).hd.bare]) (by simp) (HOt.out.next hal) (HO5.out.next hal))
          clear hal HO5 HOt
          go_wp2_with fail
          refine ⟨hS2, ?_⟩
          clear hS1
          generalize (z1.alloc (.cells #[.int .i64 t.hd.kind, .int .u64 t.hd.s0, .int .u64 t.hd.s1, .int .u64 t.hd.s2, .int .u64 t.hd.s3, .slice B t.subs.length cc, .int .i64 t.hd.num, .int .i64 t.hd.min, .int .i64 t.hd.max, .bool t.hd.bare, .int .i64 (u.raise n).hd.kind, .int .u64 (u.raise n).hd.s0, .int .u64 (u.raise n).hd.s1, .int .u64 (u.raise n).hd.s2, .int .u64 (u.raise n).hd.s3, .slice B5 (u.raise n).subs.length c5, .int .i64 (u.raise n).hd.num, .int .i64 (u.raise n).hd.min, .int .i64 (u.raise n).hd.max, .bool (u.raise n).hd.bare] 28)) = z3 at *
          have hS := hS2
          clear hS2
          refine wpAnyT_free (i := 12) hcl rfl (by kernel_rfl) (v := ?_) (fun _ _ _ h => h) hS (Or.inl ⟨rfl, fun w' _ => ?_⟩) (fun hcl => ?_)
          rotate_left
          · go_simp
            with_reducible rfl
          simp only [List.getElem_toArray, List.getElem_cons_zero, List.getElem_cons_succ, Act.put, List.setIfInBounds_toArray, List.set_cons_zero, List.set_cons_succ]
          refine wpAnyT_step (i := 13) hcl rfl (by kernel_rfl) (fun hcl => ?_)
          simp only [List.getElem_toArray, List.getElem_cons_zero, List.getElem_cons_succ, Act.put, List.setIfInBounds_toArray, List.set_cons_zero, List.set_cons_succ]
          go_wp2_with fail
          refine (HSm4.out z3 hS _ 2 HI5.out).mono ?_
          rintro e z4 ⟨rfl, hb6⟩
          have hS4 := hS.trans (hb6.mono hS.size)
          clear hS hb6 HI5
          go_wp2_with fail
          refine ⟨hS4, ?_⟩
          have hS := hS4
          clear hS4
          refine wpAnyT_free (i := 14) hcl rfl (by kernel_rfl) (v := ?_) (fun _ _ _ h => h) hS (Or.inl ⟨rfl, fun w' _ => ?_⟩) (fun hcl => ?_)
          rotate_left
          · go_simp
            with_reducible rfl
          simp only [List.getElem_toArray, List.getElem_cons_zero, List.getElem_cons_succ, Act.put, List.setIfInBounds_toArray, List.set_cons_zero, List.set_cons_succ]
          refine wpAnyT_free (i := 15) hcl rfl (by kernel_rfl) (v := ?_) (fun _ _ _ h => h) hS (Or.inl ⟨rfl, fun w' _ => ?_⟩) (fun hcl => ?_)
          rotate_left
          · go_simp
            with_reducible rfl
          simp only [List.getElem_toArray, List.getElem_cons_zero, List.getElem_cons_succ, Act.put, List.setIfInBounds_toArray, List.set_cons_zero, List.set_cons_succ]
          refine wpAnyT_done (by kernel_rfl) ?_ _
          have Hf := hide (H5.out.trans ((HS4.out.trans (hS.mono HS4.out.size)).mono H5.out.size))
          clear hS
          go_wp2_with fail
          go_ret
          exact ⟨rfl, Hf.out⟩
      | ok t' j' k =>
        obtain ⟨hk, ht'⟩ := hj
        subst ht'
        have hnd1 := hrx.2.2.2.2
        obtain ⟨B3, c3, rfl, hown, hb2⟩ := hz
        have hal := (Below.refl w6.heap.size w6).alloc (Nat.le_refl _) (.cells #[.int .i64 7, .int .u64 0, .int .u64 0, .int .u64 0, .int .u64 0, .slice B3 1 c3, .int .i64 1, .int .i64 0, .int .i64 0, .bool false] 28)
        have H7 := hide (And.intro (hb2.trans (hal.mono hb2.size)) (Blk.new w6 28 #[.int .i64 7, .int .u64 0, .int .u64 0, .int .u64 0, .int .u64 0, .slice B3 1 c3, .int .i64 1, .int .i64 0, .int .i64 0, .bool false]))
        have HI3 := hide (show T.In (w6.alloc (.cells #[.int .i64 7, .int .u64 0, .int .u64 0, .int .u64 0, .int .u64 0, .slice B3 1 c3, .int .i64 1, .int .i64 0, .int .i64 0, .bool false] 28)) (· < (w6.alloc (.cells #[.int .i64 7, .int .u64 0, .int .u64 0, .int .u64 0, .int .u64 0, .slice B3 1 c3, .int .i64 1, .int .i64 0, .int .i64 0, .bool false] 28)).heap.size) (grpT 1 (t.raise 1)) B3 from by
          obtain ⟨bs, h1, h2, h3⟩ := hown.next hal
          exact h1.in_ fun b hb => (h3 b hb).2)
        have HG5 := hide hb2.size
        obtain ⟨K, hK⟩ : ∃ K : Int, K = (k : Int) := ⟨_, rfl⟩
        rw [← hK]
        have gK : (K != (n : Int) + 1) = false := by rw [hK, hk]; simp
        have iw1 : IntKind.i64.wrap ((n : Int) + 1) = (n : Int) + 1 := wrapI (by omega) (by omega)
        clear hrx hown hb2 hal hK hk
        rw [show (.agg ((grpT 1 (t.raise 1)).hd.cells (.slice B3 (grpT 1 (t.raise 1)).subs.length c3)).toArray : Value) = .agg #[.int .i64 7, .int .u64 0, .int .u64 0, .int .u64 0, .int .u64 0, .slice B3 1 c3, .int .i64 1, .int .i64 0, .int .i64 0, .bool false] from rfl]
        go_upto_region 8 with fail
        generalize (w6.alloc (.cells #[.int .i64 7, .int .u64 0, .int .u64 0, .int .u64 0, .int .u64 0, .slice B3 1 c3, .int .i64 1, .int .i64 0, .int .i64 0, .bool false] 28)) = w7 at *
        generalize w6.heap.size = g13 at *
        have HSm := hide (fun (z : World) (hz : Below w7.heap.size w7 z) (B' : Option Addr) (c' : Nat) (hi : T.In z (· < z.heap.size) (grpT 1 (t.raise 1)) B') => show Calls Tryd.prog 13 #[.agg #[.int .i64 7, .int .u64 0, .int .u64 0, .int .u64 0, .int .u64 0, .slice B3 1 c3, .int .i64 1, .int .i64 0, .int .i64 0, .bool false], .agg #[.int .i64 7, .int .u64 0, .int .u64 0, .int .u64 0, .int .u64 0, .slice B' 1 c', .int .i64 1, .int .i64 0, .int .i64 0, .bool false]] z fun e w' => e = .returned (.bool true) ∧ Below z.heap.size z w' from by
          have h1 := same_any 10000 (grpT 1 (t.raise 1)) (grpT 1 (t.raise 1)) B3 B' c3 c' z hnd1 (by decide) (HI3.out.next hz) hi
          rw [T.same_self7] at h1
          exact h1)
        have HRd := hide (fun (z : World) (hz : Below w5.heap.size w5 z) => raised_any 1 t B cc z (by omega) (HIt.out.next hz))
        simp only [Hd.cells] at HRd
        go_upto_region 12 with fail
        refine wp_region_mix (fun z => Below w7.heap.size w7 z) [] (by kernel_rfl) (fun hcl => ?_)
        generalize hz0 : w7.drew = z0
        have hS : Below w7.heap.size w7 z0 := by rw [← hz0]; exact (Below.refl _ _).drew
        clear hz0
        refine wpAnyT_free (i := 0) hcl rfl (by kernel_rfl) (v := ?_) (fun _ _ _ h => h) hS (Or.inl ⟨rfl, fun w' _ => ?_⟩) (fun hcl => ?_)
        rotate_left
        · go_simp
          with_reducible rfl
        simp only [List.getElem_toArray, List.getElem_cons_zero, List.getElem_cons_succ, Act.put, List.setIfInBounds_toArray, List.set_cons_zero, List.set_cons_succ]
        refine wpAnyT_free (i := 1) hcl rfl (by kernel_rfl) (v := ?_) (fun _ _ _ h => h) hS (Or.inl ⟨rfl, fun w' _ => ?_⟩) (fun hcl => ?_)
        rotate_left
        · go_simp
          with_reducible rfl
        simp only [List.getElem_toArray, List.getElem_cons_zero, List.getElem_cons_succ, Act.put, List.setIfInBounds_toArray, List.set_cons_zero, List.set_cons_succ]
        refine wpAnyT_free (i := 2) hcl rfl (by kernel_rfl) (v := ?_) (fun _ _ _ h => h) hS (Or.inl ⟨rfl, fun w' _ => ?_⟩) (fun hcl => ?_)
        rotate_left
        · go_simp
          with_reducible rfl
        simp only [List.getElem_toArray, List.getElem_cons_zero, List.getElem_cons_succ, Act.put, List.setIfInBounds_toArray, List.set_cons_zero, List.set_cons_succ]
        refine wpAnyT_free (i := 3) hcl rfl (by kernel_rfl) (v := ?_) (fun _ _ _ h => h) hS (Or.inl ⟨rfl, fun w' _ => ?_⟩) (fun hcl => ?_)
        rotate_left
        · go_simp
          with_reducible rfl
        simp only [List.getElem_toArray, List.getElem_cons_zero, List.getElem_cons_succ, Act.put, List.setIfInBounds_toArray, List.set_cons_zero, List.set_cons_succ]
        refine wpAnyT_free (i := 4) hcl rfl (by kernel_rfl) (v := ?_) (fun _ _ _ h => h) hS (Or.inl ⟨rfl, fun w' _ => ?_⟩) (fun hcl => ?_)
        rotate_left
        · go_simp
          with_reducible rfl
        simp only [List.getElem_toArray, List.getElem_cons_zero, List.getElem_cons_succ, Act.put, List.setIfInBounds_toArray, List.set_cons_zero, List.set_cons_succ]
        refine wpAnyT_take (i := 5) hcl rfl (by kernel_rfl) (v := ?_) (fun _ _ _ h => h) hS (Or.inl ⟨rfl, fun w' hS => ?_⟩) (fun hcl => ?_)
        rotate_left
        · skip
          have cr : ∀ i : Nat, _ = _ := (H7.out.2.next hS).cell
          go_simp
          with_reducible rfl
        simp only [List.getElem_toArray, List.getElem_cons_zero, List.getElem_cons_succ, Act.put, List.setIfInBounds_toArray, List.set_cons_zero, List.set_cons_succ]
        refine wpAnyT_take (i := 6) hcl rfl (by kernel_rfl) (v := ?_) (fun _ _ _ h => h) hS (Or.inl ⟨rfl, fun w' hS => ?_⟩) (fun hcl => ?_)
        rotate_left
        · skip
          have cr : ∀ i : Nat, _ = _ := (HT7.out.next (H7.out.1.trans (hS.mono H7.out.1.size))).cell
          go_simp
          with_reducible rfl
        simp only [List.getElem_toArray, List.getElem_cons_zero, List.getElem_cons_succ, Act.put, List.setIfInBounds_toArray, List.set_cons_zero, List.set_cons_succ]
        refine wpAnyT_step (i := 7) hcl rfl (by kernel_rfl) (fun hcl => ?_)
        simp only [List.getElem_toArray, List.getElem_cons_zero, List.getElem_cons_succ, Act.put, List.setIfInBounds_toArray, List.set_cons_zero, List.set_cons_succ]
        go_wp2_with fail
        refine (HRd.out z0 (H7.out.1.trans (hS.mono H7.out.1.size))).mono ?_
        rintro e z1 ⟨B5, c5, bs, rfl, hown5, hnd5, hbs5, hb5⟩
        have hS1 := hS.trans (hb5.mono hS.size)
        have HO5 := hide (show T.In z1 (· < z1.heap.size) (t.raise 1) B5 from hown5.in_ fun b hb => (hbs5 b hb).2)
        clear hown5 hnd5 hbs5 hb5 hS
        simp only [Hd.cells]
        go_wp2_with fail
        refine ⟨hS1, ?_⟩
        refine wpAnyT_step (i := 8) hcl rfl (by kernel_rfl) (fun hcl => ?_)
        simp only [List.getElem_toArray, List.getElem_cons_zero, List.getElem_cons_succ, Act.put, List.setIfInBounds_toArray, List.set_cons_zero, List.set_cons_succ]
        have hS2 := hS1.alloc hS1.size (.cells #[.int .i64 (t.raise 1).hd.kind, .int .u64 (t.raise 1).hd.s0, .int .u64 (t.raise 1).hd.s1, .int .u64 (t.raise 1).hd.s2, .int .u64 (t.raise 1).hd.s3, .slice B5 (t.raise 1).subs.length c5, .int .i64 (t.raise 1).hd.num, .int .i64 (t.raise 1).hd.min, .int .i64 (t.raise 1).hd.max, .bool (t.raise 1).hd.bare] 28)
        have hal := (Below.refl z1.heap.size z1).alloc (Nat.le_refl _) (.cells #[.int .i64 (t.raise 1).hd.kind, .int .u64 (t.raise 1).hd.s0, .int .u64 (t.raise 1).hd.s1, .int .u64 (t.raise 1).hd.s2, .int .u64 (t.raise 1).hd.s3, .slice B5 (t.raise 1).subs.length c5, .int .i64 (t.raise 1).hd.num, .int .i64 (t.raise 1).hd.min, .int .i64 (t.raise 1).hd.max, .bool (t.raise 1).hd.bare] 28)
        have HI5 := hide (show T.In (z1.alloc (.cells #[.int .i64 (t.raise 1).hd.kind, .int .u64 (t.raise 1).hd.s0, .int .u64 (t.raise 1).hd.s1, .int .u64 (t.raise 1).hd.s2, .int .u64 (t.raise 1).hd.s3, .slice B5 (t.raise 1).subs.length c5, .int .i64 (t.raise 1).hd.num, .int .i64 (t.raise 1).hd.min, .int .i64 (t.raise 1).hd.max, .bool (t.raise 1).hd.bare] 28)) (· < (z1.alloc (.cells #[.int .i64 (t.raise 1).hd.kind, .int .u64 (t.raise 1).hd.s0, .int .u64 (t.raise 1).hd.s1, .int .u64 (t.raise 1).hd.s2, .int .u64 (t.raise 1).hd.s3, .slice B5 (t.raise 1).subs.length c5, .int .i64 (t.raise 1).hd.num, .int .i64 (t.raise 1).hd.min, .int .i64 (t.raise 1).hd.max, .bool (t.raise 1).hd.bare] 28)).heap.size) (grpT 1 (t.raise 1)) (some ⟨z1.heap.size, 0, none⟩) from one_in7 (Blk.new z1 28 #[.int .i64 (t.raise 1).hd.kind, .int .u64 (t.raise 1).hd.s0, .int .u64 (t.raise 1).hd.s1, .int .u64 (t.raise 1).hd.s2, .int .u64 (t.raise 1).hd.s3, .slice B5 (t.raise 1).subs.length c5, .int .i64 (t.raise 1).hd.num, .int .i64 (t.raise 1).hd.min, .int .i64 (t.raise 1).hd.max, .bool (t.raise 1).hd.bare]) (by simp) (HO5.out.next hal))
        clear hal HO5
        go_wp2_with fail
        refine ⟨hS2, ?_⟩
        clear hS1
        generalize (z1.alloc (.cells #[.int .i64 (t.raise 1).hd.kind, .int .u64 (t.raise 1).hd.s0, .int .u64 (t.raise 1).hd.s1, .int .u64 (t.raise 1).hd.s2, .int .u64 (t.raise 1).hd.s3, .slice B5 (t.raise 1).subs.length c5, .int .i64 (t.raise 1).hd.num, .int .i64 (t.raise 1).hd.min, .int .i64 (t.raise 1).hd.max, .bool (t.raise 1).hd.bare] 28)) = z3 at *
        have hS := hS2
        clear hS2
        refine wpAnyT_free (i := 9) hcl rfl (by kernel_rfl) (v := ?_) (fun _ _ _ h => h) hS (Or.inl ⟨rfl, fun w' _ => ?_⟩) (fun hcl => ?_)
        rotate_left
        · go_simp
          with_reducible rfl
        simp only [List.getElem_toArray, List.getElem_cons_zero, List.getElem_cons_succ, Act.put, List.setIfInBounds_toArray, List.set_cons_zero, List.set_cons_succ]
        refine wpAnyT_step (i := 10) hcl rfl (by kernel_rfl) (fun hcl => ?_)
        simp only [List.getElem_toArray, List.getElem_cons_zero, List.getElem_cons_succ, Act.put, List.setIfInBounds_toArray, List.set_cons_zero, List.set_cons_succ]
        go_wp2_with fail
        refine (HSm.out z3 hS _ 1 HI5.out).mono ?_
        rintro e z4 ⟨rfl, hb6⟩
        have hS4 := hS.trans (hb6.mono hS.size)
        clear hS hb6 HI5
        go_wp2_with fail
        refine ⟨hS4, ?_⟩
        have hS := hS4
        clear hS4
        refine wpAnyT_free (i := 11) hcl rfl (by kernel_rfl) (v := ?_) (fun _ _ _ h => h) hS (Or.inl ⟨rfl, fun w' _ => ?_⟩) (fun hcl => ?_)
        rotate_left
        · go_simp
          with_reducible rfl
        simp only [List.getElem_toArray, List.getElem_cons_zero, List.getElem_cons_succ, Act.put, List.setIfInBounds_toArray, List.set_cons_zero, List.set_cons_succ]
        refine wpAnyT_free (i := 12) hcl rfl (by kernel_rfl) (v := ?_) (fun _ _ _ h => h) hS (Or.inl ⟨rfl, fun w' _ => ?_⟩) (fun hcl => ?_)
        rotate_left
        · go_simp
          with_reducible rfl
        simp only [List.getElem_toArray, List.getElem_cons_zero, List.getElem_cons_succ, Act.put, List.setIfInBounds_toArray, List.set_cons_zero, List.set_cons_succ]
        refine wpAnyT_done (by kernel_rfl) ?_ _
        have HS := hide (H7.out.1.trans (hS.mono H7.out.1.size))
        have HG13 := hide (show Blk z4 g13 28 #[.int .i64 7, .int .u64 0, .int .u64 0, .int .u64 0, .int .u64 0, .slice B3 1 c3, .int .i64 1, .int .i64 0, .int .i64 0, .bool false] from H7.out.2.next hS)
        have hs13 : (#[.int .i64 7, .int .u64 0, .int .u64 0, .int .u64 0, .int .u64 0, .slice B3 1 c3, .int .i64 1, .int .i64 0, .int .i64 0, .bool false] : Array Value).size = 10 := rfl
        clear hS HSm HRd H7 HI3 hnd1 gK iw1
        have c7 := (HT7.out.next HS.out).cell
        have HBr1 := hide (fun (y : World) => branches_any t B cc y)
        have HBr2 := hide (fun (y : World) => branches_any u B2 c2 y)
        simp only [Hd.cells] at HBr1 HBr2
        go_wp2_with fail
        refine (HBr1.out _).mono ?_
        rintro e wa ⟨rfl, hba⟩
        have HSa := hide (HS.out.trans (hba.mono HS.out.size))
        have HG13a := hide (HG13.out.next hba)
        clear hba c7 HBr1 HS HG13
        by_cases k6 : t.hd.kind = 6
        · have e6 : (t.hd.kind == 6) = true := by rw [k6]; rfl
          go_wp2_with fail
          go_ret
          exact ⟨rfl, H5.out.trans (HSa.out.mono H5.out.size)⟩
        have e6 : (t.hd.kind == 6) = false := by simp [k6]
        have c10 := (HT10.out.next HSa.out).cell
        go_wp2_with fail
        refine (HBr2.out _).mono ?_
        rintro e wb ⟨rfl, hbb⟩
        have HSb := hide (HSa.out.trans (hbb.mono HSa.out.size))
        have HG13b := hide (HG13a.out.next hbb)
        clear hbb c10 HBr2 HSa HG13a e6
        by_cases k6' : u.hd.kind = 6
        · have e6 : (u.hd.kind == 6) = true := by rw [k6']; rfl
          go_wp2_with fail
          go_ret
          exact ⟨rfl, H5.out.trans (HSb.out.mono H5.out.size)⟩
        have e6 : (u.hd.kind == 6) = false := by simp [k6']
        obtain ⟨s1, s2, s3⟩ := bar_emb p q
        have hj := join_alt HR1.out HR2.out k6 k6' s2 s3 s1 (by omega)
        obtain ⟨x2, hx2⟩ : ∃ x2, x2 = (p ++ (⟨#[124]⟩ : ByteArray)) ++ q := ⟨_, rfl⟩
        rw [← hx2] at hj s1
        have hrx2 := parseE_right x2 (!decide (bits .and .i64 fl 2 = 0)) (!decide (bits .and .i64 fl 4 = 0))
        have HPx := hide (HP.out x2 wb (HB.out _ (H5.out.trans (HSb.out.mono H5.out.size))))
        rw [hj] at HPx hrx2
        have HS1 := hide s1
        have hpe := hx2.symm
        clear hx2 s1 s2 s3 hj
        go_wp2_with fail
        refine HPx.out.mono ?_
        rintro e wc hz
        clear hpe HPx e6
        by_cases hbig : 2000 < (T.mk ⟨6, 0, 0, 0, 0, 0, 0, 0, false⟩ [t, u.raise n]).fullSize
        · rw [if_pos hbig] at hz
          obtain ⟨gf, rfl, hfi, hbc⟩ := hz
          have HSc := hide (HSb.out.trans (hbc.mono HSb.out.size))
          have HF := hide hfi
          have HG := hide (HG13b.out.next hbc)
          unfold faultV zeroCells
          clear hbc hfi
          go_wp2_with (refine wpList_store_node rfl _ _ rfl g13 _ ⟨0, 0, 0, 0, 0, 0, 0, 0, false⟩ none 0 0 rfl rfl HG.out hs13 ?_; intro w9 hrow9 hg9 hz9)
          have hb9 := below_grew HSc.out hg9 (Nat.le_refl _) (fun q hq => by rw [← Option.some.inj hq]; exact HG5.out)
          have H9 := hide (And.intro (H5.out.trans (hb9.mono H5.out.size)) (Blk.grown HF.out hg9 (fun e => (blk_ne6 HF.out HG.out (by decide)) (Option.some.inj e))))
          obtain ⟨pl, hpl⟩ : ∃ pl : Int, pl = ((x2.size : Nat) : Int) := ⟨_, rfl⟩
          rw [← hpl] at H9
          have g18 : (pl == (p.size : Int) + (q.size : Int) + 1) = true := by rw [hpl, HS1.out, beq_iff_eq]; omega
          clear hb9 hrow9 hg9 hz9 HG HF hpl
          have hn1 := fun w => run_neq_iface_nil (P := Tryd.prog) (w := w) 30 (by kernel_rfl) 50 (.pointer (some ⟨gf, 0, none⟩))
          have HN := hide (num_fault w9 a gf pl 9 (by decide) (HB.out _ H9.out.1).errs H9.out.2)
          have HPl := hide (fun (y : World) (hy : Below w9.heap.size w9 y) => place_fault gf pl _ y (HT.out _ (H9.out.1.trans (hy.mono H9.out.1.size))) (Blk.next H9.out.2 hy))
          go_wp2_with fail
          refine HN.out.mono ?_
          rintro e wd ⟨rfl, hbd⟩
          have HPl2 := hide (HPl.out wd hbd)
          have Hd := hide (H9.out.1.trans (hbd.mono H9.out.1.size))
          clear hbd HN HPl hn1 H9
          go_wp2_with fail
          refine HPl2.out.mono ?_
          rintro e we ⟨rfl, hbe⟩
          have He := hide (Hd.out.trans (hbe.mono Hd.out.size))
          clear hbe HPl2
          go_wp2_with fail
          go_ret
          exact ⟨rfl, He.out⟩
        · rw [if_neg hbig] at hz hrx2
          have hnd4 := hrx2.2.2.2.2
          obtain ⟨B4, c4, rfl, hown, hbc⟩ := hz
          have HSc := hide (HSb.out.trans (hbc.mono HSb.out.size))
          have HG := hide (HG13b.out.next hbc)
          have HO4 := hide hown
          have HG5b := hide (show g13 < wb.heap.size from HG13b.out.lt)
          obtain ⟨K, hK⟩ : ∃ K : Int, K = ((n + m2 : Nat) : Int) := ⟨_, rfl⟩
          rw [← hK]
          have gK : (K == (n : Int) + (m2 : Int)) = true := by rw [hK]; simp
          have iw : IntKind.i64.wrap ((n : Int) + (m2 : Int)) = (n : Int) + (m2 : Int) := wrapI (by omega) (by omega)
          clear hbc hown hrx2 hK
          go_upto_region 17 with (refine wpList_store_node rfl _ _ rfl g13 _ ⟨6, 0, 0, 0, 0, 0, 0, 0, false⟩ B4 2 c4 rfl rfl HG.out hs13 ?_; intro w9 hrow9 hg9 hz9)
          have HS4 := hide (below_grew HSc.out hg9 (Nat.le_refl _) (fun q hq => by rw [← Option.some.inj hq]; exact HG5.out))
          have HG4 := hide (show Blk w9 g13 28 #[.int .i64 6, .int .u64 0, .int .u64 0, .int .u64 0, .int .u64 0, .slice B4 2 c4, .int .i64 0, .int .i64 0, .int .i64 0, .bool false] from hrow9)
          have HI4 := hide (show T.In w9 (· < w9.heap.size) (T.mk ⟨6, 0, 0, 0, 0, 0, 0, 0, false⟩ [t, u.raise n]) B4 from by
            obtain ⟨bs, h1, h2, h3⟩ := HO4.out
            exact (h1.same (w' := w9) (fun b hb => hg9.block b (h3 b hb).2 (fun e => by have := Option.some.inj e; have h4 := (h3 b hb).1; have h5 := HG5b.out; omega))).in_ fun b hb => Nat.lt_of_lt_of_le (h3 b hb).2 hg9.size)
          have HSm4 := hide (fun (z : World) (hz : Below w9.heap.size w9 z) (B' : Option Addr) (c' : Nat) (hi : T.In z (· < z.heap.size) (T.mk ⟨6, 0, 0, 0, 0, 0, 0, 0, false⟩ [t, u.raise n]) B') => show Calls Tryd.prog 13 #[.agg #[.int .i64 6, .int .u64 0, .int .u64 0, .int .u64 0, .int .u64 0, .slice B4 2 c4, .int .i64 0, .int .i64 0, .int .i64 0, .bool false], .agg #[.int .i64 6, .int .u64 0, .int .u64 0, .int .u64 0, .int .u64 0, .slice B' 2 c', .int .i64 0, .int .i64 0, .int .i64 0, .bool false]] z fun e w' => e = .returned (.bool true) ∧ Below z.heap.size z w' from by
            have h1 := same_any 10000 (T.mk ⟨6, 0, 0, 0, 0, 0, 0, 0, false⟩ [t, u.raise n]) (T.mk ⟨6, 0, 0, 0, 0, 0, 0, 0, false⟩ [t, u.raise n]) B4 B' c4 c' z hnd4 (by decide) (HI4.out.next hz) hi
            rw [T.same_self7] at h1
            exact h1)
          have HRd := hide (fun (z : World) (hz : Below w5.heap.size w5 z) => raised_any (n : Int) u B2 c2 z (by omega) (HIu.out.next hz))
          simp only [Hd.cells] at HRd
          clear hrow9 hg9 hz9 HG HO4 HG5b hnd4
          go_upto_region 19 with fail
          refine wp_region_mix (fun z => Below w9.heap.size w9 z) [] (by kernel_rfl) (fun hcl => ?_)
          generalize hz0 : w9.drew = z0
          have hS : Below w9.heap.size w9 z0 := by rw [← hz0]; exact (Below.refl _ _).drew
          clear hz0
          refine wpAnyT_free (i := 0) hcl rfl (by kernel_rfl) (v := ?_) (fun _ _ _ h => h) hS (Or.inl ⟨rfl, fun w' _ => ?_⟩) (fun hcl => ?_)
          rotate_left
          · go_simp
            with_reducible rfl
          simp only [List.getElem_toArray, List.getElem_cons_zero, List.getElem_cons_succ, Act.put, List.setIfInBounds_toArray, List.set_cons_zero, List.set_cons_succ]
          refine wpAnyT_free (i := 1) hcl rfl (by kernel_rfl) (v := ?_) (fun _ _ _ h => h) hS (Or.inl ⟨rfl, fun w' _ => ?_⟩) (fun hcl => ?_)
          rotate_left
          · go_simp
            with_reducible rfl
          simp only [List.getElem_toArray, List.getElem_cons_zero, List.getElem_cons_succ, Act.put, List.setIfInBounds_toArray, List.set_cons_zero, List.set_cons_succ]
          refine wpAnyT_free (i := 2) hcl rfl (by kernel_rfl) (v := ?_) (fun _ _ _ h => h) hS (Or.inl ⟨rfl, fun w' _ => ?_⟩) (fun hcl => ?_)
          rotate_left
          · go_simp
            with_reducible rfl
          simp only [List.getElem_toArray, List.getElem_cons_zero, List.getElem_cons_succ, Act.put, List.setIfInBounds_toArray, List.set_cons_zero, List.set_cons_succ]
          refine wpAnyT_free (i := 3) hcl rfl (by kernel_rfl) (v := ?_) (fun _ _ _ h => h) hS (Or.inl ⟨rfl, fun w' _ => ?_⟩) (fun hcl => ?_)
          rotate_left
          · go_simp
            with_reducible rfl
          simp only [List.getElem_toArray, List.getElem_cons_zero, List.getElem_cons_succ, Act.put, List.setIfInBounds_toArray, List.set_cons_zero, List.set_cons_succ]
          refine wpAnyT_free (i := 4) hcl rfl (by kernel_rfl) (v := ?_) (fun _ _ _ h => h) hS (Or.inl ⟨rfl, fun w' _ => ?_⟩) (fun hcl => ?_)
          rotate_left
          · go_simp
            with_reducible rfl
          simp only [List.getElem_toArray, List.getElem_cons_zero, List.getElem_cons_succ, Act.put, List.setIfInBounds_toArray, List.set_cons_zero, List.set_cons_succ]
          refine wpAnyT_free (i := 5) hcl rfl (by kernel_rfl) (v := ?_) (fun _ _ _ h => h) hS (Or.inl ⟨rfl, fun w' _ => ?_⟩) (fun hcl => ?_)
          rotate_left
          · go_simp
            with_reducible rfl
          simp only [List.getElem_toArray, List.getElem_cons_zero, List.getElem_cons_succ, Act.put, List.setIfInBounds_toArray, List.set_cons_zero, List.set_cons_succ]
          refine wpAnyT_take (i := 6) hcl rfl (by kernel_rfl) (v := ?_) (fun _ _ _ h => h) hS (Or.inl ⟨rfl, fun w' hS => ?_⟩) (fun hcl => ?_)
          rotate_left
          · skip
            have cr : ∀ i : Nat, _ = _ := (HG4.out.next hS).cell
            go_simp
            with_reducible rfl
          simp only [List.getElem_toArray, List.getElem_cons_zero, List.getElem_cons_succ, Act.put, List.setIfInBounds_toArray, List.set_cons_zero, List.set_cons_succ]
          refine wpAnyT_take (i := 7) hcl rfl (by kernel_rfl) (v := ?_) (fun _ _ _ h => h) hS (Or.inl ⟨rfl, fun w' hS => ?_⟩) (fun hcl => ?_)
          rotate_left
          · skip
            have cr : ∀ i : Nat, _ = _ := (HT7.out.next (HS4.out.trans (hS.mono HS4.out.size))).cell
            go_simp
            with_reducible rfl
          simp only [List.getElem_toArray, List.getElem_cons_zero, List.getElem_cons_succ, Act.put, List.setIfInBounds_toArray, List.set_cons_zero, List.set_cons_succ]
          refine wpAnyT_take (i := 8) hcl rfl (by kernel_rfl) (v := ?_) (fun _ _ _ h => h) hS (Or.inl ⟨rfl, fun w' hS => ?_⟩) (fun hcl => ?_)
          rotate_left
          · skip
            have cr : ∀ i : Nat, _ = _ := (HT10.out.next (HS4.out.trans (hS.mono HS4.out.size))).cell
            go_simp
            with_reducible rfl
          simp only [List.getElem_toArray, List.getElem_cons_zero, List.getElem_cons_succ, Act.put, List.setIfInBounds_toArray, List.set_cons_zero, List.set_cons_succ]
          refine wpAnyT_free (i := 9) hcl rfl (by kernel_rfl) (v := ?_) (fun _ _ _ h => h) hS (Or.inl ⟨rfl, fun w' _ => ?_⟩) (fun hcl => ?_)
          rotate_left
          · go_simp
            with_reducible rfl
          simp only [List.getElem_toArray, List.getElem_cons_zero, List.getElem_cons_succ, Act.put, List.setIfInBounds_toArray, List.set_cons_zero, List.set_cons_succ]
          refine wpAnyT_step (i := 10) hcl rfl (by kernel_rfl) (fun hcl => ?_)
          simp only [List.getElem_toArray, List.getElem_cons_zero, List.getElem_cons_succ, Act.put, List.setIfInBounds_toArray, List.set_cons_zero, List.set_cons_succ]
          go_wp2_with fail
          refine (HRd.out z0 (HS4.out.trans (hS.mono HS4.out.size))).mono ?_
          rintro e z1 ⟨B5, c5, bs, rfl, hown5, hnd5, hbs5, hb5⟩
          have hS1 := hS.trans (hb5.mono hS.size)
          have HO5 := hide (show T.In z1 (· < z1.heap.size) (u.raise n) B5 from hown5.in_ fun b hb => (hbs5 b hb).2)
          have HOt := hide (show T.In z1 (· < z1.heap.size) t B from HIt.out.next (HS4.out.trans (hS1.mono HS4.out.size)))
          clear hown5 hnd5 hbs5 hb5 hS
          simp only [Hd.cells]
          go_wp2_with fail
          refine ⟨hS1, ?_⟩
          refine wpAnyT_step (i := 11) hcl rfl (by kernel_rfl) (fun hcl => ?_)
          simp only [List.getElem_toArray, List.getElem_cons_zero, List.getElem_cons_succ, Act.put, List.setIfInBounds_toArray, List.set_cons_zero, List.set_cons_succ]
          have hS2 := hS1.alloc hS1.size (.cells #[.int .i64 t.hd.kind, .int .u64 t.hd.s0, .int .u64 t.hd.s1, .int .u64 t.hd.s2, .int .u64 t.hd.s3, .slice B t.subs.length cc, .int .i64 t.hd.num, .int .i64 t.hd.min, .int .i64 t.hd.max, .bool t.hd.bare, .int .i64 (u.raise n).hd.kind, .int .u64 (u.raise n).hd.s0, .int .u64 (u.raise n).hd.s1, .int .u64 (u.raise n).hd.s2, .int .u64 (u.raise n).hd.s3, .slice B5 (u.raise n).subs.length c5, .int .i64 (u.raise n).hd.num, .int .i64 (u.raise n).hd.min, .int .i64 (u.raise n).hd.max, .bool (u.raise n).hd.bare] 28)
          have hal := (Below.refl z1.heap.size z1).alloc (Nat.le_refl _) (.cells #[.int .i64 t.hd.kind, .int .u64 t.hd.s0, .int .u64 t.hd.s1, .int .u64 t.hd.s2, .int .u64 t.hd.s3, .slice B t.subs.length cc, .int .i64 t.hd.num, .int .i64 t.hd.min, .int .i64 t.hd.max, .bool t.hd.bare, .int .i64 (u.raise n).hd.kind, .int .u64 (u.raise n).hd.s0, .int .u64 (u.raise n).hd.s1, .int .u64 (u.raise n).hd.s2, .int .u64 (u.raise n).hd.s3, .slice B5 (u.raise n).subs.length c5, .int .i64 (u.raise n).hd.num, .int .i64 (u.raise n).hd.min, .int .i64 (u.raise n).hd.max, .bool (u.raise n).hd.bare] 28)
          have HI5 := hide (show T.In (z1.alloc (.cells #[.int .i64 t.hd.kind, .int .u64 t.hd.s0, .int .u64 t.hd.s1, .int .u64 t.hd.s2, .int .u64 t.hd.s3, .slice B t.subs.length cc, .int .i64 t.hd.num, .int .i64 t.hd.min, .int .i64 t.hd.max, .bool t.hd.bare, .int .i64 (u.raise n).hd.kind, .int .u64 (u.raise n).hd.s0, .int .u64 (u.raise n).hd.s1, .int .u64 (u.raise n).hd.s2, .int .u64 (u.raise n).hd.s3, .slice B5 (u.raise n).subs.length c5, .int .i64 (u.raise n).hd.num, .int .i64 (u.raise n).hd.min, .int .i64 (u.raise n).hd.max, .bool (u.raise n).hd.bare] 28)) (· < (z1.alloc (.cells #[.int .i64 t.hd.kind, .int .u64 t.hd.s0, .int .u64 t.hd.s1, .int .u64 t.hd.s2, .int .u64 t.hd.s3, .slice B t.subs.length cc, .int .i64 t.hd.num, .int .i64 t.hd.min, .int .i64 t.hd.max, .bool t.hd.bare, .int .i64 (u.raise n).hd.kind, .int .u64 (u.raise n).hd.s0, .int .u64 (u.raise n).hd.s1, .int .u64 (u.raise n).hd.s2, .int .u64 (u.raise n).hd.s3, .slice B5 (u.raise n).subs.length c5, .int .i64 (u.raise n).hd.num, .int .i64 (u.raise n).hd.min, .int .i64 (u.raise n).hd.max, .bool (u.raise n).hd.bare] 28)).heap.size) (T.mk ⟨6, 0, 0, 0, 0, 0, 0, 0, false⟩ [t, u.raise n]) (some ⟨z1.heap.size, 0, none⟩) from two_in (Blk.new z1 28 #[.int .i64 t.hd.kind, .int .u64 t.hd.s0, .int .u64 t.hd.s1, .int .u64 t.hd.s2, .int .u64 t.hd.s3, .slice B t.subs.length cc, .int .i64 t.hd.num, .int .i64 t.hd.min, .int .i64 t.hd.max, .bool t.hd.bare, .int .i64 (u.raise n).hd.kind, .int .u64 (u.raise n).hd.s0, .int .u64 (u.raise n).hd.s1, .int .u64 (u.raise n).hd.s2, .int .u64 (u.raise n).hd.s3, .slice B5 (u.raise n).subs.length c5, .int .i64 (u.raise n).hd.num, .int .i64 (u.raise n).hd.min, .int .i64 (u.raise n).hd.max, .bool (u.raise n).hd.bare]) (by simp) (HOt.out.next hal) (HO5.out.next hal))
          clear hal HO5 HOt
          go_wp2_with fail
          refine ⟨hS2, ?_⟩
          clear hS1
          generalize (z1.alloc (.cells #[.int .i64 t.hd.kind, .int .u64 t.hd.s0, .int .u64 t.hd.s1, .int .u64 t.hd.s2, .int .u64 t.hd.s3, .slice B t.subs.length cc, .int .i64 t.hd.num, .int .i64 t.hd.min, .int .i64 t.hd.max, .bool t.hd.bare, .int .i64 (u.raise n).hd.kind, .int .u64 (u.raise n).hd.s0, .int .u64 (u.raise n).hd.s1, .int .u64 (u.raise n).hd.s2, .int .u64 (u.raise n).hd.s3, .slice B5 (u.raise n).subs.length c5, .int .i64 (u.raise n).hd.num, .int .i64 (u.raise n).hd.min, .int .i64 (u.raise n).hd.max, .bool (u.raise n).hd.bare] 28)) = z3 at *
          have hS := hS2
          clear hS2
          refine wpAnyT_free (i := 12) hcl rfl (by kernel_rfl) (v := ?_) (fun _ _ _ h => h) hS (Or.inl ⟨rfl, fun w' _ => ?_⟩) (fun hcl => ?_)
          rotate_left
          · go_simp
            with_reducible rfl
          simp only [List.getElem_toArray, List.getElem_cons_zero, List.getElem_cons_succ, Act.put, List.setIfInBounds_toArray, List.set_cons_zero, List.set_cons_succ]
          refine wpAnyT_step (i := 13) hcl rfl (by kernel_rfl) (fun hcl => ?_)
          simp only [List.getElem_toArray, List.getElem_cons_zero, List.getElem_cons_succ, Act.put, List.setIfInBounds_toArray, List.set_cons_zero, List.set_cons_succ]
          go_wp2_with fail
          refine (HSm4.out z3 hS _ 2 HI5.out).mono ?_
          rintro e z4 ⟨rfl, hb6⟩
          have hS4 := hS.trans (hb6.mono hS.size)
          clear hS hb6 HI5
          go_wp2_with fail
          refine ⟨hS4, ?_⟩
          have hS := hS4
          clear hS4
          refine wpAnyT_free (i := 14) hcl rfl (by kernel_rfl) (v := ?_) (fun _ _ _ h => h) hS (Or.inl ⟨rfl, fun w' _ => ?_⟩) (fun hcl => ?_)
          rotate_left
          · go_simp
            with_reducible rfl
          simp only [List.getElem_toArray, List.getElem_cons_zero, List.getElem_cons_succ, Act.put, List.setIfInBounds_toArray, List.set_cons_zero, List.set_cons_succ]
          refine wpAnyT_free (i := 15) hcl rfl (by kernel_rfl) (v := ?_) (fun _ _ _ h => h) hS (Or.inl ⟨rfl, fun w' _ => ?_⟩) (fun hcl => ?_)
          rotate_left
          · go_simp
            with_reducible rfl
          simp only [List.getElem_toArray, List.getElem_cons_zero, List.getElem_cons_succ, Act.put, List.setIfInBounds_toArray, List.set_cons_zero, List.set_cons_succ]
          refine wpAnyT_done (by kernel_rfl) ?_ _
          have Hf := hide (H5.out.trans ((HS4.out.trans (hS.mono HS4.out.size)).mono H5.out.size))
          clear hS
          go_wp2_with fail
          go_ret
          exact ⟨rfl, Hf.out⟩
end Go.Proofs.YtfehmfifjidjjaaDoor
