/- The law BracketReads, walked. -/
import Derived.Test.YtdkonfdhedcajaaDoorLives5
import Derived.Test.YtdkonfdhedcajaaDoorRefRead5
import Derived.Test.YtdkonfdhedcajaaDoorCheck
set_option linter.unusedSimpArgs false
set_option linter.unusedVariables false
namespace Go.Proofs.YtdkonfdhedcajaaDoor
open Go.RowKit

theorem namedP_code {p : ByteArray} {i : Nat} {pl y : Int} {g : Nat} (h : namedP p i pl = .bad g y) : g < 21 := by
  unfold namedP at h
  split at h
  · injection h with h _; omega
  · split at h
    · cases h
    · injection h with h _; omega
theorem itemP_code {p : ByteArray} {i : Nat} {pl y : Int} {g : Nat} (h : itemP p i pl = .bad g y) : g < 21 := by
  unfold itemP at h
  split at h
  · injection h with h _; omega
  · split at h
    · exact namedP_code h
    · split at h
      · split at h
        · injection h with h _; omega
        · split at h
          · injection h with h _; omega
          · cases h
      · cases h
theorem loopP_code {p : ByteArray} {z f : Nat} {y : Int} {g : Nat} : ∀ (n i : Nat) (S : Nat → Bool), loopP p z f n i S = .bad g y → g < 21
  | 0, i, S, h => by rw [loopP] at h; injection h with h _; omega
  | n + 1, i, S, h => by
    rw [loopP] at h
    split at h
    · injection h with h _; omega
    · split at h
      · cases h
      · split at h
        · rename_i g2 y2 h2
          injection h with h3 _
          rw [← h3]
          exact itemP_code h2
        · exact loopP_code n _ _ h
theorem readP_code {p : ByteArray} {z : Nat} {ic nl : Bool} {y : Int} {g : Nat} (h : readP p z ic nl = .bad g y) : g < 21 := by
  unfold readP at h
  split at h
  all_goals
    generalize hq : loopP p z _ _ _ _ = q at h
    cases q with
    | good S n => cases h
    | bad g2 y2 =>
      injection h with h1 _
      rw [← h1]
      exact loopP_code _ _ _ hq

set_option maxRecDepth 100000 in
set_option maxHeartbeats 1000000 in
theorem reads5_law (p : ByteArray) (z fl : Int) (n : Nat) (hn8 : n < 8) (hn : bits .and .i64 fl 6 = (n : Int)) (h2 : (!decide (bits .and .i64 fl 2 = 0)) = decide (n / 2 % 2 = 1)) (h4 : (!decide (bits .and .i64 fl 4 = 0)) = decide (n / 4 % 2 = 1)) (hs : p.size < 4294967281) (a : Nat → Addr) (m : Int) (w : World) (hB : B5 w a m) (hT : ErrT w) : Calls Tryd.prog 3 #[.string p, .int .i64 z, .int .i64 fl] w fun e w' => e = .returned (.bool true) ∧ Below w.heap.size w w' := by
  have HB := hide (And.intro hB hT)
  have HRD := hide (fun (y : World) (h : B5 y a m) => read5_any p z fl hs a m y h)
  have HRF := hide (fun (y : World) => refRead_any p z n hn8 hs y)
  unfold ReadIs at HRD
  unfold refP at HRF
  rw [h2, h4] at HRD
  clear hB hT h2 h4 hs
  have HLV := hide (lives5_any a m w HB.out.1 HB.out.2)
  go_enter Tryd.func3, Tryd.ntmps3
  go_wp2_with fail
  refine HLV.out.mono ?_
  rintro e w1 ⟨rfl, hb1⟩
  have H1 := hide (And.intro hb1 (And.intro (HB.out.1.below hb1) (HB.out.2.below hb1)))
  clear hb1 HB HLV
  go_wp2_with fail
  refine (HRD.out w1 H1.out.2.1).mono ?_
  intro e w2 hres
  by_cases hz : 0 ≤ z ∧ pb p z.toNat = 91
  case pos =>
    rw [if_pos hz] at hres HRF
    clear HRD
    generalize hq : readP p z.toNat (decide (n / 2 % 2 = 1)) (decide (n / 4 % 2 = 1)) = q at *
    cases q with
    | bad g y =>
      have hg := readP_code hq
      clear hq hz
      obtain ⟨gf, rfl, hgf, hbf, hb2⟩ := hres
      have hal := (Below.refl w2.heap.size w2).alloc (Nat.le_refl _) (.cells #[.int .u64 0, .int .u64 0, .int .u64 0, .int .u64 0] 25)
      have hzb := Blk.new w2 25 #[.int .u64 0, .int .u64 0, .int .u64 0, .int .u64 0]
      have hz1 := hb2.size
      have hz2 := H1.out.1.size
      have hgl := hbf.lt
      rw [setV_none]
      go_wp2_with (refine wpList_store_row rfl _ _ _ rfl w2.heap.size 0 _ _ _ rfl rfl hzb Tryd.sizeSetO (by simp) (by simp [Value.oneCell']) ?_)
      intro w3 hrow2 hg9 hz9
      have hrow := hrow2.out
      rw [splice_full (by rfl)] at hrow
      have hbE : Below w2.heap.size w2 w3 := below_grew hal hg9 (Nat.le_refl _) (fun q hq => by rw [← Option.some.inj hq]; exact Nat.le_refl _)
      have hb3 := hb2.trans (hbE.mono hb2.size)
      have H3 := hide (And.intro hrow (And.intro (hbf.below hbE hgl) (And.intro (H1.out.1.trans (hb3.mono H1.out.1.size)) (And.intro (H1.out.2.1.below hb3) (H1.out.2.2.below hb3)))))
      have hz3 := hrow.lt
      have hz4 := hbE.size
      clear hrow hrow2 hg9 hz9 hal hzb hbE hb3 hb2 hbf H1
      generalize hg7 : w2.heap.size = g7 at *
      clear hg7
      go_wp2_with fail
      refine (HRF.out _).mono ?_
      rintro e w4 ⟨rfl, hb4⟩
      have hal := (Below.refl w4.heap.size w4).alloc (Nat.le_refl _) (.cells #[.int .u64 0, .int .u64 0, .int .u64 0, .int .u64 0, .int .i64 0, .int .i64 0, .int .i64 0] 31)
      have hzb := Blk.new w4 31 #[.int .u64 0, .int .u64 0, .int .u64 0, .int .u64 0, .int .i64 0, .int .i64 0, .int .i64 0]
      have hz5 := hb4.size
      unfold R5.ans
      go_wp2_with (refine wpList_store_row rfl _ _ _ rfl w4.heap.size 0 _ _ _ rfl rfl hzb Tryd.sizeAns (by simp) (by simp [Value.oneCell']) ?_)
      intro w5 hrow2 hg9 hz9
      have hrow := hrow2.out
      rw [splice_full (by rfl)] at hrow
      have hbE : Below w4.heap.size w4 w5 := below_grew hal hg9 (Nat.le_refl _) (fun q hq => by rw [← Option.some.inj hq]; exact Nat.le_refl _)
      have hb5 := hb4.trans (hbE.mono hb4.size)
      have H5 := hide (And.intro (H3.out.1.below hb5 hz3) (And.intro hrow (And.intro (H3.out.2.1.below hb5 (by omega)) (And.intro (H3.out.2.2.1.trans (hb5.mono H3.out.2.2.1.size)) (And.intro (H3.out.2.2.2.1.below hb5) (H3.out.2.2.2.2.below hb5))))))
      have hz6 := hrow.lt
      clear hrow hrow2 hg9 hz9 hal hzb hbE hb5 hb4 H3 HRF
      generalize hg10 : w4.heap.size = g10 at *
      clear hg10
      have ca := fun (x : Later w5) => (H5.out.1.below x.2 H5.out.1.lt).cell
      have cb := fun (x : Later w5) => (H5.out.2.1.below x.2 H5.out.2.1.lt).cell
      have hgk : ¬ (g : Int) + 1 = 0 := by omega
      have hns := fun W => run_neq_set W 0 0 0 0 0 0 0 0
      have HNM := hide (fun (x : Later w5) => num_fault x.val a gf y g hg (H5.out.2.2.2.2.1.below x.2).errs (H5.out.2.2.1.below x.2 (by have := H5.out.2.2.1.lt; exact this)))
      have HPL := hide (fun (W : World) (hb : Below w5.heap.size w5 W) => place_fault gf y (a (sentVar g)) W (H5.out.2.2.2.2.2.below hb) (H5.out.2.2.1.below hb H5.out.2.2.1.lt))
      go_upto_region 5 with fail
      refine wp_region_later (by kernel_rfl) (by kernel_rfl) ?_
      repeat (go_big_quiet_step (exact calls_later (HNM.out _)))
      refine wpQuiet_nil ?_
      intro w6 hw6
      obtain ⟨x, hxe⟩ := hw6
      have hx : Below w5.heap.size w5 w6 := hxe ▸ x.2
      clear hxe x
      have HP2 := hide (fun (x : Later w6) => HPL.out x.val (hx.trans (x.2.mono hx.size)))
      have cc := fun (x : Later w6) => (H5.out.2.1.below (hx.trans (x.2.mono hx.size)) H5.out.2.1.lt).cell
      have HB6 := hide (And.intro (H5.out.2.2.2.1.trans (hx.mono H5.out.2.2.2.1.size)) (Nat.le_trans H5.out.2.2.2.1.size hx.size))
      clear ca cb hns hgk HNM HPL H5 hx
      have hnn := fun W => run_eql_iface_nil (P := Tryd.prog) (w := W) 27 (by kernel_rfl) 63 (.pointer (some ⟨gf, 0, none⟩))
      have hev : faultV gf = .iface 63 (.pointer (some ⟨gf, 0, none⟩)) := rfl
      rw [hev] at HP2
      go_upto_region 7 with fail
      refine wp_region_later (by kernel_rfl) (by kernel_rfl) ?_
      repeat (go_big_quiet_step (exact calls_later (HP2.out _)))
      refine wpQuiet_nil ?_
      intro w7 hw7
      obtain ⟨x, hxe⟩ := hw7
      have hx : Below w6.heap.size w6 w7 := hxe ▸ x.2
      clear hxe x
      go_wp2_with fail
      go_ret
      exact ⟨rfl, HB6.out.1.trans (hx.mono HB6.out.2)⟩
    | good S k =>
      clear hq hz
      obtain ⟨rfl, hb2⟩ := hres
      have hal := (Below.refl w2.heap.size w2).alloc (Nat.le_refl _) (.cells #[.int .u64 0, .int .u64 0, .int .u64 0, .int .u64 0] 25)
      have hzb := Blk.new w2 25 #[.int .u64 0, .int .u64 0, .int .u64 0, .int .u64 0]
      have hz1 := hb2.size
      have hz2 := H1.out.1.size
      unfold setV setC
      go_wp2_with (refine wpList_store_row rfl _ _ _ rfl w2.heap.size 0 _ _ _ rfl rfl hzb Tryd.sizeSetO (by simp) (by simp [Value.oneCell']) ?_)
      intro w3 hrow2 hg9 hz9
      have hrow := hrow2.out
      rw [splice_full (by rfl)] at hrow
      have hbE : Below w2.heap.size w2 w3 := below_grew hal hg9 (Nat.le_refl _) (fun q hq => by rw [← Option.some.inj hq]; exact Nat.le_refl _)
      have hb3 := hb2.trans (hbE.mono hb2.size)
      have H3 := hide (And.intro hrow (And.intro trivial (And.intro (H1.out.1.trans (hb3.mono H1.out.1.size)) (And.intro (H1.out.2.1.below hb3) (H1.out.2.2.below hb3)))))
      have hz3 := hrow.lt
      have hz4 := hbE.size
      clear hrow hrow2 hg9 hz9 hal hzb hbE hb3 hb2 H1
      generalize hg7 : w2.heap.size = g7 at *
      clear hg7
      go_wp2_with fail
      refine (HRF.out _).mono ?_
      rintro e w4 ⟨rfl, hb4⟩
      have hal := (Below.refl w4.heap.size w4).alloc (Nat.le_refl _) (.cells #[.int .u64 0, .int .u64 0, .int .u64 0, .int .u64 0, .int .i64 0, .int .i64 0, .int .i64 0] 31)
      have hzb := Blk.new w4 31 #[.int .u64 0, .int .u64 0, .int .u64 0, .int .u64 0, .int .i64 0, .int .i64 0, .int .i64 0]
      have hz5 := hb4.size
      unfold R5.ans
      go_wp2_with (refine wpList_store_row rfl _ _ _ rfl w4.heap.size 0 _ _ _ rfl rfl hzb Tryd.sizeAns (by simp) (by simp [Value.oneCell']) ?_)
      intro w5 hrow2 hg9 hz9
      have hrow := hrow2.out
      rw [splice_full (by rfl)] at hrow
      have hbE : Below w4.heap.size w4 w5 := below_grew hal hg9 (Nat.le_refl _) (fun q hq => by rw [← Option.some.inj hq]; exact Nat.le_refl _)
      have hb5 := hb4.trans (hbE.mono hb4.size)
      have H5 := hide (And.intro (H3.out.1.below hb5 hz3) (And.intro hrow (And.intro trivial (And.intro (H3.out.2.2.1.trans (hb5.mono H3.out.2.2.1.size)) (And.intro (H3.out.2.2.2.1.below hb5) (H3.out.2.2.2.2.below hb5))))))
      have hz6 := hrow.lt
      clear hrow hrow2 hg9 hz9 hal hzb hbE hb5 hb4 H3 HRF
      generalize hg10 : w4.heap.size = g10 at *
      clear hg10
      have ca := fun (x : Later w5) => (H5.out.1.below x.2 H5.out.1.lt).cell
      have cb := fun (x : Later w5) => (H5.out.2.1.below x.2 H5.out.2.1.lt).cell
      have hns := fun W => run_neq_set W (wd S 0) (wd S 1) (wd S 2) (wd S 3) (wd S 0) (wd S 1) (wd S 2) (wd S 3)
      have HNM := hide (fun (x : Later w5) => (num_nil x.val).mono fun e w2 h => (⟨h.1, h.2 ▸ Below.refl _ _⟩ : e = .returned (.int .i64 0) ∧ Below x.val.heap.size x.val w2))
      go_upto_region 5 with fail
      refine wp_region_later (by kernel_rfl) (by kernel_rfl) ?_
      repeat (go_big_quiet_step (exact calls_later (HNM.out _)))
      refine wpQuiet_nil ?_
      intro w6 hw6
      obtain ⟨x, hxe⟩ := hw6
      have hx : Below w5.heap.size w5 w6 := hxe ▸ x.2
      clear hxe x
      have HB6 := hide (And.intro (H5.out.2.2.2.1.trans (hx.mono H5.out.2.2.2.1.size)) (Nat.le_trans H5.out.2.2.2.1.size hx.size))
      clear ca cb hns HNM H5 hx
      go_upto_region 7 with fail
      refine wp_region_later (by kernel_rfl) (by kernel_rfl) ?_
      repeat (go_big_quiet_step (fail))
      refine wpQuiet_nil ?_
      intro w7 hw7
      obtain ⟨x, hxe⟩ := hw7
      have hx : Below w6.heap.size w6 w7 := hxe ▸ x.2
      clear hxe x
      go_wp2_with fail
      go_ret
      exact ⟨rfl, HB6.out.1.trans (hx.mono HB6.out.2)⟩
  case neg =>
    rw [if_neg hz] at hres HRF
    clear HRD hz
    obtain ⟨rfl, hb2⟩ := hres
    have hal := (Below.refl w2.heap.size w2).alloc (Nat.le_refl _) (.cells #[.int .u64 0, .int .u64 0, .int .u64 0, .int .u64 0] 25)
    have hzb := Blk.new w2 25 #[.int .u64 0, .int .u64 0, .int .u64 0, .int .u64 0]
    have hz1 := hb2.size
    have hz2 := H1.out.1.size
    rw [setV_none]
    go_wp2_with (refine wpList_store_row rfl _ _ _ rfl w2.heap.size 0 _ _ _ rfl rfl hzb Tryd.sizeSetO (by simp) (by simp [Value.oneCell']) ?_)
    intro w3 hrow2 hg9 hz9
    have hrow := hrow2.out
    rw [splice_full (by rfl)] at hrow
    have hbE : Below w2.heap.size w2 w3 := below_grew hal hg9 (Nat.le_refl _) (fun q hq => by rw [← Option.some.inj hq]; exact Nat.le_refl _)
    have hb3 := hb2.trans (hbE.mono hb2.size)
    have H3 := hide (And.intro hrow (And.intro trivial (And.intro (H1.out.1.trans (hb3.mono H1.out.1.size)) (And.intro (H1.out.2.1.below hb3) (H1.out.2.2.below hb3)))))
    have hz3 := hrow.lt
    have hz4 := hbE.size
    clear hrow hrow2 hg9 hz9 hal hzb hbE hb3 hb2 H1
    generalize hg7 : w2.heap.size = g7 at *
    clear hg7
    go_wp2_with fail
    refine (HRF.out _).mono ?_
    rintro e w4 ⟨rfl, hb4⟩
    have hal := (Below.refl w4.heap.size w4).alloc (Nat.le_refl _) (.cells #[.int .u64 0, .int .u64 0, .int .u64 0, .int .u64 0, .int .i64 0, .int .i64 0, .int .i64 0] 31)
    have hzb := Blk.new w4 31 #[.int .u64 0, .int .u64 0, .int .u64 0, .int .u64 0, .int .i64 0, .int .i64 0, .int .i64 0]
    have hz5 := hb4.size
    unfold R5.ans
    go_wp2_with (refine wpList_store_row rfl _ _ _ rfl w4.heap.size 0 _ _ _ rfl rfl hzb Tryd.sizeAns (by simp) (by simp [Value.oneCell']) ?_)
    intro w5 hrow2 hg9 hz9
    have hrow := hrow2.out
    rw [splice_full (by rfl)] at hrow
    have hbE : Below w4.heap.size w4 w5 := below_grew hal hg9 (Nat.le_refl _) (fun q hq => by rw [← Option.some.inj hq]; exact Nat.le_refl _)
    have hb5 := hb4.trans (hbE.mono hb4.size)
    have H5 := hide (And.intro (H3.out.1.below hb5 hz3) (And.intro hrow (And.intro trivial (And.intro (H3.out.2.2.1.trans (hb5.mono H3.out.2.2.1.size)) (And.intro (H3.out.2.2.2.1.below hb5) (H3.out.2.2.2.2.below hb5))))))
    have hz6 := hrow.lt
    clear hrow hrow2 hg9 hz9 hal hzb hbE hb5 hb4 H3 HRF
    generalize hg10 : w4.heap.size = g10 at *
    clear hg10
    have ca := fun (x : Later w5) => (H5.out.1.below x.2 H5.out.1.lt).cell
    have cb := fun (x : Later w5) => (H5.out.2.1.below x.2 H5.out.2.1.lt).cell
    have hns := fun W => run_neq_set W 0 0 0 0 0 0 0 0
    have HNM := hide (fun (x : Later w5) => num_err x.val a 14 (by decide) (H5.out.2.2.2.2.1.below x.2).errs)
    have HPL := hide (fun (W : World) (hb : Below w5.heap.size w5 W) => place_sent (a 0) W (H5.out.2.2.2.2.2.below hb))
    go_upto_region 5 with fail
    refine wp_region_later (by kernel_rfl) (by kernel_rfl) ?_
    repeat (go_big_quiet_step (exact calls_later (HNM.out _)))
    refine wpQuiet_nil ?_
    intro w6 hw6
    obtain ⟨x, hxe⟩ := hw6
    have hx : Below w5.heap.size w5 w6 := hxe ▸ x.2
    clear hxe x
    have HP2 := hide (fun (x : Later w6) => HPL.out x.val (hx.trans (x.2.mono hx.size)))
    have cc := fun (x : Later w6) => (H5.out.2.1.below (hx.trans (x.2.mono hx.size)) H5.out.2.1.lt).cell
    have HB6 := hide (And.intro (H5.out.2.2.2.1.trans (hx.mono H5.out.2.2.2.1.size)) (Nat.le_trans H5.out.2.2.2.1.size hx.size))
    clear ca cb hns HNM HPL H5 hx
    have hnn := fun W => run_eql_iface_nil (P := Tryd.prog) (w := W) 27 (by kernel_rfl) 154 (.pointer (some (a 0)))
    have hev : errV (a 0) = .iface 154 (.pointer (some (a 0))) := rfl
    rw [hev] at HP2
    go_upto_region 7 with fail
    refine wp_region_later (by kernel_rfl) (by kernel_rfl) ?_
    repeat (go_big_quiet_step (exact calls_later (HP2.out _)))
    refine wpQuiet_nil ?_
    intro w7 hw7
    obtain ⟨x, hxe⟩ := hw7
    have hx : Below w6.heap.size w6 w7 := hxe ▸ x.2
    clear hxe x
    go_wp2_with fail
    go_ret
    exact ⟨rfl, HB6.out.1.trans (hx.mono HB6.out.2)⟩

theorem low3 (x c : Nat) (hc : 7 &&& c = c) : x &&& c = (x % 8) &&& c := by
  rw [← hc, ← Nat.and_assoc, ← Nat.and_assoc]
  congr 1
  rw [show (7 : Nat) = 2 ^ 3 - 1 from rfl, Nat.and_two_pow_sub_one_eq_mod, Nat.and_two_pow_sub_one_eq_mod]
  omega
theorem bits_low (fl : Int) (c : Nat) (hc : 7 &&& c = c) (h8 : c < 8) : bits .and .i64 fl (c : Int) = ((((BitVec.ofInt 64 fl).toNat % 8) &&& c : Nat) : Int) := by
  have h2 : (BitVec.ofInt 64 (c : Int)).toNat = c := by
    rw [BitVec.ofInt_natCast, BitVec.toNat_ofNat]; exact Nat.mod_eq_of_lt (by omega)
  show IntKind.i64.wrap ((BitVec.ofInt 64 fl &&& BitVec.ofInt 64 (c : Int)).toNat : Int) = _
  rw [BitVec.toNat_and, h2, low3 _ _ hc]
  have : (BitVec.ofInt 64 fl).toNat % 8 &&& c ≤ c := Nat.and_le_right
  clear h2
  generalize (BitVec.ofInt 64 fl).toNat % 8 &&& c = k at *
  simp [IntKind.wrap, IntKind.bits, IntKind.signed]
  omega
theorem flags5 (fl : Int) : ∃ n : Nat, n < 8 ∧ bits .and .i64 fl 6 = (n : Int) ∧ (!decide (bits .and .i64 fl 2 = 0)) = decide (n / 2 % 2 = 1) ∧ (!decide (bits .and .i64 fl 4 = 0)) = decide (n / 4 % 2 = 1) := by
  have h6 := bits_low fl 6 (by decide) (by decide)
  have h2 := bits_low fl 2 (by decide) (by decide)
  have h4 := bits_low fl 4 (by decide) (by decide)
  have hx : (BitVec.ofInt 64 fl).toNat % 8 < 8 := Nat.mod_lt _ (by decide)
  generalize (BitVec.ofInt 64 fl).toNat % 8 = y at *
  have key : ∀ y : Fin 8, (y.val &&& 6) < 8 ∧ (!decide (((y.val &&& 2 : Nat) : Int) = 0)) = decide ((y.val &&& 6) / 2 % 2 = 1) ∧ (!decide (((y.val &&& 4 : Nat) : Int) = 0)) = decide ((y.val &&& 6) / 4 % 2 = 1) := by decide
  have k := key ⟨y, hx⟩
  refine ⟨y &&& 6, k.1, h6, ?_, ?_⟩
  · rw [show (2 : Int) = ((2 : Nat) : Int) from rfl, h2]; exact k.2.1
  · rw [show (4 : Int) = ((4 : Nat) : Int) from rfl, h4]; exact k.2.2
/-- The law BracketReads at a text that is not too long. -/
theorem bracketReads_law (p : ByteArray) (z fl : Int) (hs : p.size < 4294967281) (a : Nat → Addr) (m : Int) (w : World) (hB : B5 w a m) (hT : ErrT w) : Calls Tryd.prog 3 #[.string p, .int .i64 z, .int .i64 fl] w fun e w' => e = .returned (.bool true) ∧ Below w.heap.size w w' := by
  obtain ⟨n, hn8, hn, h2, h4⟩ := flags5 fl
  exact reads5_law p z fl n hn8 hn h2 h4 hs a m w hB hT
end Go.Proofs.YtdkonfdhedcajaaDoor
