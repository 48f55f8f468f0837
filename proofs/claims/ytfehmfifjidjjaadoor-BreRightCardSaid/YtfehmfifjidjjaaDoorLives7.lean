/- trawllaw07.lives: what the law looks at ahead. (Printed by gen_law7.py.) -/
import Derived.Test.YtfehmfifjidjjaaDoorBreG
set_option linter.unusedSimpArgs false
set_option linter.unusedVariables false
namespace Go.Proofs.YtfehmfifjidjjaaDoor
open Go.RowKit

def tlB : T := repT 2 3 (grpT 1 (T.seq [bytT (oneS false 42), bytT (oneS false 97)]))
set_option maxRecDepth 100000 in
theorem parseB_a : parseB ⟨#[92, 40, 42, 97, 92, 41, 92, 123, 50, 44, 51, 92, 125]⟩ false false = .ok tlB 13 1 := by kernel_rfl
theorem parseB_b : parseB ⟨#[97, 42, 42]⟩ false false = .bad 8 2 := by kernel_rfl
set_option maxRecDepth 100000 in
set_option maxHeartbeats 1000000 in
theorem lives7_true (a : Nat → Addr) (m : Int) (w : World) (hB : B5 w a m) (hT : ErrT w) : Calls Tryd.prog 5 #[] w fun e w' => e = .returned (.bool true) ∧ Below w.heap.size w w' := by
  have h1 := breParse_any ⟨#[92, 40, 42, 97, 92, 41, 92, 123, 50, 44, 51, 92, 125]⟩ 0 a m w hB
  rw [fl_zero2, fl_zero4, parseB_a] at h1
  have HB := hide hB
  have HT := hide hT
  have HP := hide (fun (y : World) (hy : B5 y a m) => show Calls Tryd.prog 6 #[.string ⟨#[97, 42, 42]⟩, .int .i64 0] y (ParseIs (.bad 8 2) a y) from by
    have h2 := breParse_any ⟨#[97, 42, 42]⟩ 0 a m y hy
    rw [fl_zero2, fl_zero4, parseB_b] at h2
    exact h2)
  have HA := hide h1
  have hn1 := fun w => run_eql_nil_nil_at (P := Tryd.prog) (w := w) 30 Tryd.isIfaceErr6
  clear h1 hB hT
  go_enter Tryd.func5, Tryd.ntmps5
  go_wp2_with fail
  refine HA.out.mono ?_
  rintro e w1 ⟨B, c, rfl, hown, hb⟩
  have H1 := hide hb
  have HZ := hide hb.size
  clear hown hb HA
  simp only [tlB, repT, T.hd, T.subs, Hd.cells, List.length_cons, List.length_nil, Nat.zero_add]
  have hal := (Below.refl w1.heap.size w1).alloc (Nat.le_refl _) (.cells #[.int .i64 8, .int .u64 0, .int .u64 0, .int .u64 0, .int .u64 0, .slice B 1 c, .int .i64 0, .int .i64 2, .int .i64 3, .bool false] 28)
  have H2 := hide (And.intro (H1.out.trans (hal.mono H1.out.size)) (Blk.new w1 28 #[.int .i64 8, .int .u64 0, .int .u64 0, .int .u64 0, .int .u64 0, .slice B 1 c, .int .i64 0, .int .i64 2, .int .i64 3, .bool false]))
  clear hal
  go_upto_region 2 with fail
  generalize (w1.alloc (.cells #[.int .i64 8, .int .u64 0, .int .u64 0, .int .u64 0, .int .u64 0, .slice B 1 c, .int .i64 0, .int .i64 2, .int .i64 3, .bool false] 28)) = w2 at *
  go_wp2_with fail
  refine (HP.out w2 (HB.out.below H2.out.1)).mono ?_
  rintro e w3 ⟨gf, rfl, hfi, hb3⟩
  have hal := hb3.trans ((Below.refl w3.heap.size w3).alloc (Nat.le_refl _) (.cells zeroCells 28) |>.mono hb3.size)
  have H3 := hide (And.intro (H2.out.1.trans (hal.mono H2.out.1.size)) (And.intro (H2.out.2.next hal) (Blk.next hfi ((Below.refl w3.heap.size w3).alloc (Nat.le_refl _) (.cells zeroCells 28)))))
  clear hfi hb3 hal H2 HP
  unfold zeroCells at *
  unfold faultV
  go_upto_region 3 with fail
  generalize (w3.alloc (.cells #[.int .i64 0, .int .u64 0, .int .u64 0, .int .u64 0, .int .u64 0, .slice none 0 0, .int .i64 0, .int .i64 0, .int .i64 0, .bool false] 28)) = w4 at *
  have c4 := H3.out.2.1.cell
  have HN := hide (num_fault w4 a gf 2 8 (by decide) (HB.out.below H3.out.1).errs H3.out.2.2)
  go_wp2_with fail
  refine HN.out.mono ?_
  rintro e w5 ⟨rfl, hb5⟩
  have H5 := hide (And.intro (H3.out.1.trans (hb5.mono H3.out.1.size)) (Blk.next H3.out.2.2 hb5))
  have HPl := hide (place_fault gf 2 _ w5 (HT.out.below H5.out.1) H5.out.2)
  clear hb5 HN c4
  go_wp2_with fail
  refine HPl.out.mono ?_
  rintro e w6 ⟨rfl, hb6⟩
  have H6 := hide (H5.out.1.trans (hb6.mono H5.out.1.size))
  clear hb6 HPl
  go_wp2_with fail
  go_ret
  exact ⟨rfl, H6.out⟩
end Go.Proofs.YtfehmfifjidjjaaDoor
