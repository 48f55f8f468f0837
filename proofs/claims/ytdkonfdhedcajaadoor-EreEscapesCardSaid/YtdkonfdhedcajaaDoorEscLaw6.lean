/- trawllaw06.EreEscapes: the law walked. (Printed by gen_esclaw6.py.) -/
import Derived.Test.YtdkonfdhedcajaaDoorEreB
import Derived.Test.YtdkonfdhedcajaaDoorEscP6
import Derived.Test.YtdkonfdhedcajaaDoorSames
import Derived.Laws.Strings
set_option linter.unusedSimpArgs false
set_option linter.unusedVariables false
namespace Go.Proofs.YtdkonfdhedcajaaDoor
open Go.RowKit

theorem one_byte6 (fb : Nat) (hb : fb < 256) (g : Nat) (y : World) (h : y.cell? ⟨g, 0, none⟩ = some (.int .u8 (fb : Int))) : (convert 54 9 (.slice (some ⟨g, 0, none⟩) 1 1)).run Tryd.prog y = .ok (.string ⟨#[fb.toUInt8]⟩) y := by
  refine run_convert_bytes_back y 54 9 5 ⟨g, 0, none⟩ 1 [fb.toUInt8] Tryd.underlying54 Tryd.underlying5 Tryd.underlying9 fun j hj => ?_
  obtain rfl : j = 0 := by simpa using hj
  rw [Addr.add_lit]
  simp only [Nat.add_zero, List.getElem_cons_zero]
  rw [h, show fb.toUInt8.toNat = fb from by simp [Nat.toUInt8]; omega]
theorem app_list (x y : ByteArray) : (x ++ y).data.toList = x.data.toList ++ y.data.toList := by simp
/-- A backslash and a byte. -/
theorem esc_pb (c : Nat) (hc : c < 256) : ((⟨#[92]⟩ : ByteArray) ++ ⟨#[c.toUInt8]⟩).size = 2 ∧ pb ((⟨#[92]⟩ : ByteArray) ++ ⟨#[c.toUInt8]⟩) 0 = 92 ∧ pb ((⟨#[92]⟩ : ByteArray) ++ ⟨#[c.toUInt8]⟩) 1 = c := by
  have hl : ((⟨#[92]⟩ : ByteArray) ++ ⟨#[c.toUInt8]⟩).data.toList = [(92 : Nat).toUInt8, c.toUInt8] := by rw [app_list]; rfl
  have hs : ((⟨#[92]⟩ : ByteArray) ++ ⟨#[c.toUInt8]⟩).size = 2 := by rw [← data_len, hl]; rfl
  have h0 := data_at ((⟨#[92]⟩ : ByteArray) ++ ⟨#[c.toUInt8]⟩) 0
  have h1 := data_at ((⟨#[92]⟩ : ByteArray) ++ ⟨#[c.toUInt8]⟩) 1
  rw [hl, hs, if_pos (by decide)] at h0 h1
  exact ⟨hs, ((u8_eq (by decide) (pb_lt (by omega))).1 (Option.some.inj h0)).symm, ((u8_eq hc (pb_lt (by omega))).1 (Option.some.inj h1)).symm⟩
/-- A text and a backslash behind it. -/
theorem tail_pb (s : ByteArray) : (s ++ (⟨#[92]⟩ : ByteArray)).size = s.size + 1 ∧ pb (s ++ (⟨#[92]⟩ : ByteArray)) s.size = 92 ∧ ∀ i, i < s.size → pb (s ++ (⟨#[92]⟩ : ByteArray)) i = pb s i := by
  have hl : (s ++ (⟨#[92]⟩ : ByteArray)).data.toList = s.data.toList ++ [(92 : Nat).toUInt8] := by rw [app_list]; rfl
  have hs : (s ++ (⟨#[92]⟩ : ByteArray)).size = s.size + 1 := by rw [← data_len, hl, List.length_append, data_len]; rfl
  refine ⟨hs, ?_, fun i hi => ?_⟩
  · have h0 := data_at (s ++ (⟨#[92]⟩ : ByteArray)) s.size
    rw [hl, hs, if_pos (by omega), List.getElem?_append_right (by rw [data_len]; exact Nat.le_refl _), data_len, Nat.sub_self] at h0
    exact ((u8_eq (by decide) (pb_lt (by omega))).1 (Option.some.inj h0)).symm
  · have h0 := data_at (s ++ (⟨#[92]⟩ : ByteArray)) i
    rw [hl, hs, if_pos (by omega), List.getElem?_append_left (by rw [data_len]; exact hi), data_at, if_pos hi] at h0
    exact ((u8_eq (pb_lt hi) (pb_lt (by omega))).1 (Option.some.inj h0)).symm
theorem bytT_same (S : Nat → Bool) : (bytT S).same (bytT S) = true := by
  rw [T.same_eq]
  have h : (bytT S).hd.same (bytT S).hd = true := Hd.same_iff.2 rfl
  rw [h]
  rfl
set_option maxRecDepth 100000 in
set_option maxHeartbeats 4000000 in
theorem ereEscapes_law (c : Nat) (ahead : ByteArray) (hc : c < 256) (hmx : ahead.size ≤ maxLen) (a : Nat → Addr) (m : Int) (w : World) (hB : B5 w a m) (hT : ErrT w) : Calls Tryd.prog 8 #[.int .u8 (c : Int), .string ahead] w fun e w' => e = .returned (.bool true) ∧ Below w.heap.size w w' := by
  have HL := hide (lives6_true a m w hB hT)
  have HB := hide (fun (y : World) (h : Below w.heap.size w y) => hB.below h)
  have HT := hide (fun (y : World) (h : Below w.heap.size w y) => hT.below h)
  obtain ⟨e1, e2, e3⟩ := esc_pb c hc
  have hpe := parse_esc e1 e2
  rw [e3] at hpe
  obtain ⟨cs, hcs⟩ : ∃ cs : ByteArray, cs = ⟨#[c.toUInt8]⟩ := ⟨_, rfl⟩
  rw [← hcs] at hpe
  obtain ⟨p, hp⟩ : ∃ p, p = ((⟨#[92]⟩ : ByteArray) ++ cs) := ⟨_, rfl⟩
  rw [← hp] at hpe
  have HP := hide (fun (y : World) (hy : B5 y a m) => show Calls Tryd.prog 28 #[.string p, .int .i64 0] y (ParseIs (if punct5 c = true then .ok (bytT (fun x => decide (x = c))) 2 0 else .bad 7 0) a y) from by
    have h2 := ereParse_any p 0 a m y hy
    rw [fl_zero2, fl_zero4, hpe] at h2
    exact h2)
  have HPU := hide (punct_is ⟨c, hc⟩)
  simp only at HPU
  obtain ⟨pu, hpu⟩ : ∃ pu, pu = punct5 c := ⟨_, rfl⟩
  rw [← hpu] at HP HPU
  have hcs1 : cs.size = 1 := by rw [hcs]; rfl
  have HCS := hide hcs
  clear hB hT e1 e2 e3 hpe hpu
  go_enter Tryd.func8, Tryd.ntmps8
  go_wp2_with fail
  refine HL.out.mono ?_
  rintro e w1 ⟨rfl, hb1⟩
  have H1 := hide hb1
  have hal := (Below.refl w1.heap.size w1).alloc (Nat.le_refl _) (.cells #[.int .u8 (c : Int)] 5)
  have hcv := one_byte6 c hc w1.heap.size (w1.alloc (.cells #[.int .u8 (c : Int)] 5)) (by rw [(Blk.new w1 _ _).cell]; rfl)
  have H2 := hide (hb1.trans (hal.mono hb1.size))
  rw [← hcs] at hcv
  have hsz : ¬ 9223372036854775807 < (⟨#[92]⟩ : ByteArray).size + cs.size := by
    have h1 : (⟨#[92]⟩ : ByteArray).size = 1 := rfl
    omega
  have hsz2 : ¬ 9223372036854775807 < 1 + cs.size := by omega
  have hcs2 : cs.size ≤ 1 := by omega
  clear hcs hcs1 hsz hsz2
  have hpe := hp.symm
  clear hp
  clear hb1 hal HL
  go_wp2_with fail
  refine (HP.out _ (HB.out _ H2.out)).mono ?_
  rintro e w2 hz
  cases pu with
  | false =>
    rw [if_neg (by decide)] at hz
    obtain ⟨gf, rfl, hfi, hb2⟩ := hz
    have hb2' := H2.out.trans (hb2.mono H2.out.size)
    have hal := (Below.refl w2.heap.size w2).alloc (Nat.le_refl _) (.cells zeroCells 42)
    have H3 := hide (And.intro (hb2'.trans (hal.mono hb2'.size)) (Blk.next hfi hal))
    clear hfi hb2 hb2' hal hpe hcv HP
    unfold zeroCells at *
    unfold faultV
    go_upto_region 4 with fail
    generalize (w2.alloc (.cells #[.int .i64 0, .int .u64 0, .int .u64 0, .int .u64 0, .int .u64 0, .slice none 0 0, .int .i64 0, .int .i64 0, .int .i64 0, .bool false] 42)) = w3 at *
    have hcase : (c ≤ 32) ∨ (32 < c ∧ 127 ≤ c) ∨ (48 ≤ c ∧ c ≤ 57) ∨ (65 ≤ c ∧ c ≤ 90) ∨ (97 ≤ c ∧ c ≤ 122) := by
      have h1 := HPU.out
      simp only [Bool.false_eq, Bool.and_eq_false_iff, decide_eq_false_iff_not, Bool.not_eq_false', Bool.and_eq_true, decide_eq_true_eq] at h1
      omega
    have HN := hide (num_fault w3 a gf 0 7 (by decide) (HB.out _ H3.out.1).errs H3.out.2)
    have HPl := hide (fun (y : World) (hy : Below w3.heap.size w3 y) => place_fault gf 0 _ y (HT.out _ (H3.out.1.trans (hy.mono H3.out.1.size))) (Blk.next H3.out.2 hy))
    rcases hcase with h | ⟨h, h'⟩ | ⟨h, h'⟩ | ⟨h, h'⟩ | ⟨h, h'⟩
    · have k0 : ¬ (32 : Int) < (c : Int) := by omega
      go_upto_region 6 with fail
      clear k0
      go_wp2_with fail
      refine HN.out.mono ?_
      rintro e w4 ⟨rfl, hb4⟩
      have HPl4 := hide (HPl.out w4 hb4)
      have H4 := hide (H3.out.1.trans (hb4.mono H3.out.1.size))
      clear hb4 HN HPl
      go_wp2_with fail
      refine HPl4.out.mono ?_
      rintro e w5 ⟨rfl, hb5⟩
      have H5 := hide (H4.out.trans (hb5.mono H4.out.size))
      clear hb5 HPl4
      go_wp2_with fail
      go_ret
      exact ⟨rfl, H5.out⟩
    · have k0 : (32 : Int) < (c : Int) := by omega
      have k1 : ¬ (c : Int) < 127 := by omega
      go_upto_region 6 with fail
      clear k0 k1
      go_wp2_with fail
      refine HN.out.mono ?_
      rintro e w4 ⟨rfl, hb4⟩
      have HPl4 := hide (HPl.out w4 hb4)
      have H4 := hide (H3.out.1.trans (hb4.mono H3.out.1.size))
      clear hb4 HN HPl
      go_wp2_with fail
      refine HPl4.out.mono ?_
      rintro e w5 ⟨rfl, hb5⟩
      have H5 := hide (H4.out.trans (hb5.mono H4.out.size))
      clear hb5 HPl4
      go_wp2_with fail
      go_ret
      exact ⟨rfl, H5.out⟩
    · have k0 : (32 : Int) < (c : Int) := by omega
      have k1 : (c : Int) < 127 := by omega
      have k2 : (48 : Int) ≤ (c : Int) := by omega
      have k3 : (c : Int) ≤ 57 := by omega
      go_upto_region 6 with fail
      clear k0 k1 k2 k3
      go_wp2_with fail
      refine HN.out.mono ?_
      rintro e w4 ⟨rfl, hb4⟩
      have HPl4 := hide (HPl.out w4 hb4)
      have H4 := hide (H3.out.1.trans (hb4.mono H3.out.1.size))
      clear hb4 HN HPl
      go_wp2_with fail
      refine HPl4.out.mono ?_
      rintro e w5 ⟨rfl, hb5⟩
      have H5 := hide (H4.out.trans (hb5.mono H4.out.size))
      clear hb5 HPl4
      go_wp2_with fail
      go_ret
      exact ⟨rfl, H5.out⟩
    · have k0 : (32 : Int) < (c : Int) := by omega
      have k1 : (c : Int) < 127 := by omega
      have k2 : (48 : Int) ≤ (c : Int) := by omega
      have k3 : ¬ (c : Int) ≤ 57 := by omega
      have k4 : (65 : Int) ≤ (c : Int) := by omega
      have k5 : (c : Int) ≤ 90 := by omega
      go_upto_region 6 with fail
      clear k0 k1 k2 k3 k4 k5
      go_wp2_with fail
      refine HN.out.mono ?_
      rintro e w4 ⟨rfl, hb4⟩
      have HPl4 := hide (HPl.out w4 hb4)
      have H4 := hide (H3.out.1.trans (hb4.mono H3.out.1.size))
      clear hb4 HN HPl
      go_wp2_with fail
      refine HPl4.out.mono ?_
      rintro e w5 ⟨rfl, hb5⟩
      have H5 := hide (H4.out.trans (hb5.mono H4.out.size))
      clear hb5 HPl4
      go_wp2_with fail
      go_ret
      exact ⟨rfl, H5.out⟩
    · have k0 : (32 : Int) < (c : Int) := by omega
      have k1 : (c : Int) < 127 := by omega
      have k2 : (48 : Int) ≤ (c : Int) := by omega
      have k3 : ¬ (c : Int) ≤ 57 := by omega
      have k4 : (65 : Int) ≤ (c : Int) := by omega
      have k5 : ¬ (c : Int) ≤ 90 := by omega
      have k6 : (97 : Int) ≤ (c : Int) := by omega
      have k7 : (c : Int) ≤ 122 := by omega
      go_upto_region 6 with fail
      clear k0 k1 k2 k3 k4 k5 k6 k7
      go_wp2_with fail
      refine HN.out.mono ?_
      rintro e w4 ⟨rfl, hb4⟩
      have HPl4 := hide (HPl.out w4 hb4)
      have H4 := hide (H3.out.1.trans (hb4.mono H3.out.1.size))
      clear hb4 HN HPl
      go_wp2_with fail
      refine HPl4.out.mono ?_
      rintro e w5 ⟨rfl, hb5⟩
      have H5 := hide (H4.out.trans (hb5.mono H4.out.size))
      clear hb5 HPl4
      go_wp2_with fail
      go_ret
      exact ⟨rfl, H5.out⟩
  | true =>
    rw [if_pos rfl] at hz
    obtain ⟨S, hS0⟩ : ∃ S : Nat → Bool, S = fun x => decide (x = c) := ⟨_, rfl⟩
    rw [← hS0] at hz
    obtain ⟨B, c', rfl, hown, hb2⟩ := hz
    have HOf := hide (fun (y : World) => show Calls Tryd.prog 31 #[.string cs] y (SetIs S y) from by
      have h1 := refOf_one c.toUInt8 y
      have h2 : c.toUInt8.toNat = c := by simp [Nat.toUInt8]; omega
      rw [h2] at h1
      rw [hS0, HCS.out]
      exact h1)
    have hb2' := H2.out.trans (hb2.mono H2.out.size)
    simp only [bytT, T.hd, T.subs, Hd.cells, List.length_nil]
    have hal := (Below.refl w2.heap.size w2).alloc (Nat.le_refl _) (.cells #[.int .i64 2, .int .u64 ((wd S 0 : Nat) : Int), .int .u64 ((wd S 1 : Nat) : Int), .int .u64 ((wd S 2 : Nat) : Int), .int .u64 ((wd S 3 : Nat) : Int), .slice B 0 c', .int .i64 0, .int .i64 0, .int .i64 0, .bool false] 42)
    have H3 := hide (And.intro (hb2'.trans (hal.mono hb2'.size)) (Blk.new w2 42 #[.int .i64 2, .int .u64 ((wd S 0 : Nat) : Int), .int .u64 ((wd S 1 : Nat) : Int), .int .u64 ((wd S 2 : Nat) : Int), .int .u64 ((wd S 3 : Nat) : Int), .slice B 0 c', .int .i64 0, .int .i64 0, .int .i64 0, .bool false]))
    clear hown hb2 hb2' hal hpe hcv HP hS0
    go_upto_region 4 with fail
    generalize (w2.alloc (.cells #[.int .i64 2, .int .u64 ((wd S 0 : Nat) : Int), .int .u64 ((wd S 1 : Nat) : Int), .int .u64 ((wd S 2 : Nat) : Int), .int .u64 ((wd S 3 : Nat) : Int), .slice B 0 c', .int .i64 0, .int .i64 0, .int .i64 0, .bool false] 42)) = w3 at *
    generalize w2.heap.size = g5 at *
    have hcase : (32 < c ∧ c < 48) ∨ (57 < c ∧ c < 65) ∨ (90 < c ∧ c < 97) ∨ (122 < c ∧ c < 127) := by
      have h1 := HPU.out
      symm at h1
      simp only [Bool.and_eq_true, decide_eq_true_eq, Bool.not_eq_true', Bool.and_eq_false_iff, decide_eq_false_iff_not] at h1
      omega
    go_cut [8] (fun z wx => z = .bool true ∧ wx = w3)
    case first =>
      have k0 : (32 : Int) < (c : Int) := by omega
      have k1 : (c : Int) < 127 := by omega
      rcases hcase with ⟨h, h'⟩ | ⟨h, h'⟩ | ⟨h, h'⟩ | ⟨h, h'⟩
      · have k2 : ¬ (48 : Int) ≤ (c : Int) := by omega
        have k3 : ¬ (65 : Int) ≤ (c : Int) := by omega
        have k4 : ¬ (97 : Int) ≤ (c : Int) := by omega
        go_wp2_with fail
        go_meet
        case rel => exact ⟨rfl, rfl⟩
      · have k2 : (48 : Int) ≤ (c : Int) := by omega
        have k5 : ¬ (c : Int) ≤ 57 := by omega
        have k3 : ¬ (65 : Int) ≤ (c : Int) := by omega
        have k4 : ¬ (97 : Int) ≤ (c : Int) := by omega
        go_wp2_with fail
        go_meet
        case rel => exact ⟨rfl, rfl⟩
      · have k2 : (48 : Int) ≤ (c : Int) := by omega
        have k5 : ¬ (c : Int) ≤ 57 := by omega
        have k3 : (65 : Int) ≤ (c : Int) := by omega
        have k6 : ¬ (c : Int) ≤ 90 := by omega
        have k4 : ¬ (97 : Int) ≤ (c : Int) := by omega
        go_wp2_with fail
        go_meet
        case rel => exact ⟨rfl, rfl⟩
      · have k2 : (48 : Int) ≤ (c : Int) := by omega
        have k5 : ¬ (c : Int) ≤ 57 := by omega
        have k3 : (65 : Int) ≤ (c : Int) := by omega
        have k6 : ¬ (c : Int) ≤ 90 := by omega
        have k4 : (97 : Int) ≤ (c : Int) := by omega
        have k7 : ¬ (c : Int) ≤ 122 := by omega
        go_wp2_with fail
        go_meet
        case rel => exact ⟨rfl, rfl⟩
    case rest =>
    obtain ⟨hv8, hwc⟩ := hcut
    obtain rfl := hwc.symm
    subst hv8
    have hn0 := fun w => run_neq_nil_nil_at (P := Tryd.prog) (w := w) 27 (by kernel_rfl)
    have HSm := hide (fun (y : World) => show Calls Tryd.prog 24 #[.agg #[.int .i64 2, .int .u64 ((wd S 0 : Nat) : Int), .int .u64 ((wd S 1 : Nat) : Int), .int .u64 ((wd S 2 : Nat) : Int), .int .u64 ((wd S 3 : Nat) : Int), .slice B 0 c', .int .i64 0, .int .i64 0, .int .i64 0, .bool false], .agg #[.int .i64 2, .int .u64 ((wd S 0 : Nat) : Int), .int .u64 ((wd S 1 : Nat) : Int), .int .u64 ((wd S 2 : Nat) : Int), .int .u64 ((wd S 3 : Nat) : Int), .slice none 0 0, .int .i64 0, .int .i64 0, .int .i64 0, .bool false]] y fun e y' => e = .returned (.bool true) ∧ Below y.heap.size y y' from by
      have h1 := same_any 1 (bytT S) (bytT S) B none c' 0 y (Nat.le_refl _) (by decide) (T.In_iff.2 trivial) (T.In_iff.2 trivial)
      rw [bytT_same] at h1
      exact h1)
    go_upto_region 7 with fail
    refine wp_region_mix (fun z => Below w3.heap.size w3 z) [] (by kernel_rfl) (fun hcl => ?_)
    generalize hz0 : w3.drew = z0
    have hS : Below w3.heap.size w3 z0 := by rw [← hz0]; exact (Below.refl _ _).drew
    clear hz0
    refine wpAnyT_free (i := 0) hcl rfl (by kernel_rfl) (v := ?_) (fun _ _ _ h => h) hS (Or.inl ⟨rfl, fun w' _ => ?_⟩) (fun hcl => ?_)
    rotate_left
    · go_simp
      with_reducible rfl
    simp only [List.getElem_toArray, List.getElem_cons_zero, List.getElem_cons_succ, Act.put, List.setIfInBounds_toArray, List.set_cons_zero, List.set_cons_succ]
    refine wpAnyT_free (i := 1) hcl rfl (by kernel_rfl) (v := ?_) (fun _ _ _ h => h) hS (Or.inl ⟨rfl, fun w' _ => ?_⟩) (fun hcl => ?_)
    rotate_left
    · go_simp
      with_reducible rfl
    simp only [List.getElem_toArray, List.getElem_cons_zero, List.getElem_cons_succ, Act.put, List.setIfInBounds_toArray, List.set_cons_zero, List.set_cons_succ]
    refine wpAnyT_free (i := 2) hcl rfl (by kernel_rfl) (v := ?_) (fun _ _ _ h => h) hS (Or.inl ⟨rfl, fun w' _ => ?_⟩) (fun hcl => ?_)
    rotate_left
    · go_simp
      with_reducible rfl
    simp only [List.getElem_toArray, List.getElem_cons_zero, List.getElem_cons_succ, Act.put, List.setIfInBounds_toArray, List.set_cons_zero, List.set_cons_succ]
    refine wpAnyT_free (i := 3) hcl rfl (by kernel_rfl) (v := ?_) (fun _ _ _ h => h) hS (Or.inl ⟨rfl, fun w' _ => ?_⟩) (fun hcl => ?_)
    rotate_left
    · go_simp
      with_reducible rfl
    simp only [List.getElem_toArray, List.getElem_cons_zero, List.getElem_cons_succ, Act.put, List.setIfInBounds_toArray, List.set_cons_zero, List.set_cons_succ]
    refine wpAnyT_free (i := 4) hcl rfl (by kernel_rfl) (v := ?_) (fun _ _ _ h => h) hS (Or.inl ⟨rfl, fun w' _ => ?_⟩) (fun hcl => ?_)
    rotate_left
    · go_simp
      with_reducible rfl
    simp only [List.getElem_toArray, List.getElem_cons_zero, List.getElem_cons_succ, Act.put, List.setIfInBounds_toArray, List.set_cons_zero, List.set_cons_succ]
    refine wpAnyT_free (i := 5) hcl rfl (by kernel_rfl) (v := ?_) (fun _ _ _ h => h) hS (Or.inl ⟨rfl, fun w' _ => ?_⟩) (fun hcl => ?_)
    rotate_left
    · go_simp
      with_reducible rfl
    simp only [List.getElem_toArray, List.getElem_cons_zero, List.getElem_cons_succ, Act.put, List.setIfInBounds_toArray, List.set_cons_zero, List.set_cons_succ]
    refine wpAnyT_free (i := 6) hcl rfl (by kernel_rfl) (v := ?_) (fun _ _ _ h => h) hS (Or.inl ⟨rfl, fun w' _ => ?_⟩) (fun hcl => ?_)
    rotate_left
    · go_simp
      with_reducible rfl
    simp only [List.getElem_toArray, List.getElem_cons_zero, List.getElem_cons_succ, Act.put, List.setIfInBounds_toArray, List.set_cons_zero, List.set_cons_succ]
    refine wpAnyT_take (i := 7) hcl rfl (by kernel_rfl) (v := ?_) (fun _ _ _ h => h) hS (Or.inl ⟨rfl, fun w' hS => ?_⟩) (fun hcl => ?_)
    rotate_left
    · skip
      have cr : ∀ i : Nat, _ = _ := (H3.out.2.below hS H3.out.2.lt).cell
      go_simp
      with_reducible rfl
    simp only [List.getElem_toArray, List.getElem_cons_zero, List.getElem_cons_succ, Act.put, List.setIfInBounds_toArray, List.set_cons_zero, List.set_cons_succ]
    refine wpAnyT_free (i := 8) hcl rfl (by kernel_rfl) (v := ?_) (fun _ _ _ h => h) hS (Or.inl ⟨rfl, fun w' _ => ?_⟩) (fun hcl => ?_)
    rotate_left
    · go_simp
      with_reducible rfl
    simp only [List.getElem_toArray, List.getElem_cons_zero, List.getElem_cons_succ, Act.put, List.setIfInBounds_toArray, List.set_cons_zero, List.set_cons_succ]
    refine wpAnyT_step (i := 9) hcl rfl (by kernel_rfl) (fun hcl => ?_)
    simp only [List.getElem_toArray, List.getElem_cons_zero, List.getElem_cons_succ, Act.put, List.setIfInBounds_toArray, List.set_cons_zero, List.set_cons_succ]
    go_wp2_with fail
    have hS5 := hS.alloc hS.size (.cells #[.int .u8 (c : Int)] 5)
    have hcv := one_byte6 c hc z0.heap.size (z0.alloc (.cells #[.int .u8 (c : Int)] 5)) (by rw [(Blk.new z0 _ _).cell]; rfl)
    rw [← HCS.out] at hcv
    refine ⟨hS5, ?_⟩
    clear hS
    generalize (z0.alloc (.cells #[.int .u8 (c : Int)] 5)) = z1 at *
    refine wpAnyT_step (i := 10) hcl rfl (by kernel_rfl) (fun hcl => ?_)
    simp only [List.getElem_toArray, List.getElem_cons_zero, List.getElem_cons_succ, Act.put, List.setIfInBounds_toArray, List.set_cons_zero, List.set_cons_succ]
    go_wp2_with fail
    refine ⟨hS5, ?_⟩
    clear hcv
    refine wpAnyT_step (i := 11) hcl rfl (by kernel_rfl) (fun hcl => ?_)
    simp only [List.getElem_toArray, List.getElem_cons_zero, List.getElem_cons_succ, Act.put, List.setIfInBounds_toArray, List.set_cons_zero, List.set_cons_succ]
    go_wp2_with fail
    refine (HOf.out z1).mono ?_
    rintro e z2 ⟨rfl, hb6⟩
    unfold setV setC
    have hS := hS5.trans (hb6.mono hS5.size)
    go_wp2_with fail
    refine ⟨hS, ?_⟩
    clear hS5 hb6 HOf
    refine wpAnyT_free (i := 12) hcl rfl (by kernel_rfl) (v := ?_) (fun _ _ _ h => h) hS (Or.inl ⟨rfl, fun w' _ => ?_⟩) (fun hcl => ?_)
    rotate_left
    · go_simp
      with_reducible rfl
    simp only [List.getElem_toArray, List.getElem_cons_zero, List.getElem_cons_succ, Act.put, List.setIfInBounds_toArray, List.set_cons_zero, List.set_cons_succ]
    refine wpAnyT_step (i := 13) hcl rfl (by kernel_rfl) (fun hcl => ?_)
    simp only [List.getElem_toArray, List.getElem_cons_zero, List.getElem_cons_succ, Act.put, List.setIfInBounds_toArray, List.set_cons_zero, List.set_cons_succ]
    go_wp2_with fail
    refine (HSm.out z2).mono ?_
    rintro e z3 ⟨rfl, hb7⟩
    have hS7 := hS.trans (hb7.mono hS.size)
    go_wp2_with fail
    refine ⟨hS7, ?_⟩
    clear hS hb7 HSm
    have hS := hS7
    clear hS7
    refine wpAnyT_free (i := 14) hcl rfl (by kernel_rfl) (v := ?_) (fun _ _ _ h => h) hS (Or.inl ⟨rfl, fun w' _ => ?_⟩) (fun hcl => ?_)
    rotate_left
    · go_simp
      with_reducible rfl
    simp only [List.getElem_toArray, List.getElem_cons_zero, List.getElem_cons_succ, Act.put, List.setIfInBounds_toArray, List.set_cons_zero, List.set_cons_succ]
    refine wpAnyT_free (i := 15) hcl rfl (by kernel_rfl) (v := ?_) (fun _ _ _ h => h) hS (Or.inl ⟨rfl, fun w' _ => ?_⟩) (fun hcl => ?_)
    rotate_left
    · go_simp
      with_reducible rfl
    simp only [List.getElem_toArray, List.getElem_cons_zero, List.getElem_cons_succ, Act.put, List.setIfInBounds_toArray, List.set_cons_zero, List.set_cons_succ]
    refine wpAnyT_done (by kernel_rfl) ?_ _
    have H8 := hide (H3.out.1.trans (hS.mono H3.out.1.size))
    clear hS hn0
    simp only [maxLen] at hmx
    go_wp2_with fail
    go_loopw [9] (fun iv wr => ∃ k : Nat, iv = .int .i64 (k : Int) ∧ k ≤ ahead.size ∧ (∀ i, i < k → lett (pb ahead i)) ∧ Below w.heap.size w wr) (fun iv _ => ahead.size - (intOf iv).toNat)
    case atStart => exact ⟨0, rfl, Nat.zero_le _, fun i hi => absurd hi (by omega), H8.out⟩
    case round =>
      obtain ⟨k, rfl, hk, hlk, hbr⟩ := hrel
      have HBr := hide hbr
      have HLK := hide hlk
      clear hbr hlk
      by_cases hlt : k < ahead.size
      case pos =>
        have g1 : decide ((k : Int) < (ahead.size : Int)) = true := decide_eq_true (by omega)
        obtain ⟨b, hb⟩ : ∃ b, b = (ahead[k]'hlt).toNat := ⟨_, rfl⟩
        have hpbk : pb ahead k = b := by rw [pb_at hlt, hb]
        have HPB := hide hpbk
        clear hpbk
        by_cases c1 : b < 97
        · have g2 : (ahead[k]'hlt).toNat < 97 := by omega
          clear hb
          go_wp2_with fail
          go_ret
          exact ⟨rfl, HBr.out⟩
        · by_cases c2 : 122 < b
          · have g2 : ¬ (ahead[k]'hlt).toNat < 97 := by omega
            have g3 : 122 < (ahead[k]'hlt).toNat := by omega
            clear hb
            go_wp2_with fail
            go_ret
            exact ⟨rfl, HBr.out⟩
          · have g2 : ¬ (ahead[k]'hlt).toNat < 97 := by omega
            have g3 : ¬ 122 < (ahead[k]'hlt).toNat := by omega
            clear hb
            go_wp2_with fail
            go_roundw
            case rel =>
              refine ⟨k + 1, by go_num, hlt, fun i hi => ?_, HBr.out⟩
              by_cases e : i = k
              · subst e
                unfold lett
                rw [HPB.out]
                omega
              · exact HLK.out i (by omega)
            case measure => simp [intOf]; omega
      case neg =>
        have g1 : decide ((k : Int) < (ahead.size : Int)) = false := decide_eq_false (by omega)
        by_cases hbig : 1000 < ahead.size
        · have g2 : decide (1000 < (ahead.size : Int)) = true := decide_eq_true (by omega)
          go_wp2_with fail
          go_ret
          exact ⟨rfl, HBr.out⟩
        · have g2 : decide (1000 < (ahead.size : Int)) = false := decide_eq_false (by omega)
          obtain ⟨t1, t2, t3⟩ := tail_pb ahead
          have hpt := parse_tail (p := ahead ++ (⟨#[92]⟩ : ByteArray)) (n := ahead.size) t1 (by omega) (fun i hi => by rw [t3 i hi]; exact HLK.out i (by omega)) t2
          obtain ⟨p2, hp2⟩ : ∃ p2, p2 = ahead ++ (⟨#[92]⟩ : ByteArray) := ⟨_, rfl⟩
          rw [← hp2] at hpt
          have HP2 := hide (show Calls Tryd.prog 28 #[.string p2, .int .i64 0] wr (ParseIs (.bad 7 (ahead.size : Int)) a wr) from by
            have h2 := ereParse_any p2 0 a m wr (HB.out _ HBr.out)
            rw [fl_zero2, fl_zero4, hpt] at h2
            exact h2)
          have hpe := hp2.symm
          have hsz3 : ahead.size ≤ 1000 := by omega
          clear hp2 hpt t1 t2 t3
          go_wp2_with fail
          refine HP2.out.mono ?_
          rintro e w6 ⟨gf, rfl, hfi, hb6⟩
          have H6 := hide (And.intro (HBr.out.trans (hb6.mono HBr.out.size)) hfi)
          have HN := hide (num_fault w6 a gf (ahead.size : Int) 7 (by decide) (HB.out _ H6.out.1).errs H6.out.2)
          have HPl := hide (fun (y : World) (hy : Below w6.heap.size w6 y) => place_fault gf (ahead.size : Int) _ y (HT.out _ (H6.out.1.trans (hy.mono H6.out.1.size))) (Blk.next H6.out.2 hy))
          clear hb6 hfi HP2 hpe
          unfold faultV
          go_wp2_with fail
          refine HN.out.mono ?_
          rintro e w7 ⟨rfl, hb7⟩
          have HPl7 := hide (HPl.out w7 hb7)
          have H7 := hide (H6.out.1.trans (hb7.mono H6.out.1.size))
          clear hb7 HN HPl
          go_wp2_with fail
          refine HPl7.out.mono ?_
          rintro e w8 ⟨rfl, hb8⟩
          have H8' := hide (H7.out.trans (hb8.mono H7.out.size))
          clear hb8 HPl7
          go_wp2_with fail
          go_ret
          exact ⟨rfl, H8'.out⟩
theorem ereEscapes_card (n : Int) (ahead : ByteArray) (hn : 0 ≤ n ∧ n ≤ 255) (hs : ahead.size ≤ maxLen) (a : Nat → Addr) (m : Int) (w : World) (hB : B5 w a m) (hT : ErrT w) : Calls Tryd.prog 8 #[.int .u8 n, .string ahead] w fun e w' => e = .returned (.bool true) ∧ Below w.heap.size w w' := by
  obtain ⟨c, rfl⟩ : ∃ c : Nat, n = (c : Int) := ⟨n.toNat, by omega⟩
  exact ereEscapes_law c ahead (by omega) hs a m w hB hT
end Go.Proofs.YtdkonfdhedcajaaDoor
