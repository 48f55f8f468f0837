/- trawllaw17.lives: it returns true. -/
import Derived.Test.YthkddbfgihgfaaaDoorPosMade
import Derived.Test.YthkddbfgihgfaaaDoorMake2
import Derived.Test.YthkddbfgihgfaaaDoorText
set_option linter.unusedSimpArgs false
set_option linter.unusedVariables false
namespace Go.Proofs.YthkddbfgihgfaaaDoor
open Go.RowKit

def row17 : T := .mk ⟨5, 0, 0, 0, 0, 0, 0, 0, false⟩ [.mk ⟨2, 0, 8589934592, 0, 0, 0, 0, 0, false⟩ [], .mk ⟨2, 0, 17179869184, 0, 0, 0, 0, 0, false⟩ []]
def grp17 : T := .mk ⟨7, 0, 0, 0, 0, 1, 0, 0, false⟩ [row17]
def rep17 : T := .mk ⟨8, 0, 0, 0, 0, 0, 0, -1, false⟩ [grp17]
def end17 : T := .mk ⟨4, 0, 0, 0, 0, 0, 0, 0, false⟩ []
def tree17 : T := .mk ⟨5, 0, 0, 0, 0, 0, 0, 0, false⟩ [rep17, end17]
def po17 : Po := ⟨[(0, 8589934592, 0, 0), (0, 17179869184, 0, 0)], 12, [(0, 15)], [(1, 12)], [[(1, 15)], [(0, 15)]]⟩
theorem text17 : T.seq (T.texts ⟨#[97, 98]⟩) = row17 := by kernel_rfl
theorem tree17_check : tree17.check = none := by kernel_rfl
theorem tree17_laid : tree17.exp.laid = po17 := by kernel_rfl

set_option maxRecDepth 100000 in
set_option maxHeartbeats 2000000 in
theorem lives17_true (w : World) (a : Nat → Addr) (hE : Sent [12, 13, 9] w a) : Calls Tryd.prog 7 #[] w fun e w' => e = .returned (.bool true) ∧ Below w.heap.size w w' := by
  have hen := fun y => run_eql_nil_nil_at (P := Tryd.prog) (w := y) 38 (by kernel_rfl)
  have HE := hide (fun x (hx : Below w.heap.size w x) => hE.below hx)
  clear hE
  go_enter Tryd.func7, Tryd.ntmps7
  go_wp2_with fail
  refine (Calls_fresh (t' := row17) (text_any ⟨#[97, 98]⟩ w (by decide)) text17).mono ?_
  rintro e w1 ⟨B1, c1, bs, he, hown, _, hfr, hb⟩
  have H1 := hide (And.intro hb (hown.in_ (ok := (· < w1.heap.size)) fun b hb => (hfr b hb).2))
  clear hown hfr hb
  have HG := hide (group_any row17 B1 c1 1 w1 (by simp [row17, T.nodes, TL.nodes]) H1.out.2)
  simp only [row17, T.hd, T.subs, Hd.cells, List.length_cons, List.length_nil, Nat.zero_add] at he HG
  subst he
  go_wp2_with fail
  refine HG.out.mono ?_
  rintro e w2 ⟨B2, c2, bs2, he, hown, _, hfr, hb⟩
  have H2 := hide (And.intro (H1.out.1.trans (hb.mono H1.out.1.size)) (hown.in_ (ok := (· < w2.heap.size)) fun b hb => (hfr b hb).2))
  clear hown hfr hb HG H1
  have HR := hide (rep_any grp17 B2 c2 0 (-1) w2 (by simp [grp17, row17, T.nodes, TL.nodes]) H2.out.2)
  simp only [grp17, T.hd, T.subs, Hd.cells, List.length_cons, List.length_nil, Nat.zero_add] at he HR
  subst he
  go_wp2_with fail
  refine HR.out.mono ?_
  rintro e w3 ⟨B3, c3, bs3, he, hown, _, hfr, hb⟩
  have H3 := hide (And.intro (H2.out.1.trans (hb.mono H2.out.1.size)) (hown.in_ (ok := (· < w3.heap.size)) fun b hb => (hfr b hb).2))
  clear hown hfr hb HR H2
  have HS := hide (seq2_any rep17 end17 B3 none c3 0 w3 (by simp [rep17, end17, grp17, row17, T.nodes, TL.nodes]) H3.out.2 (show T.In w3 (· < w3.heap.size) end17 none from trivial))
  simp only [rep17, end17, T.hd, T.subs, Hd.cells, List.length_cons, List.length_nil, Nat.zero_add, List.cons_append, List.nil_append] at he HS
  subst he
  go_wp2_with fail
  refine HS.out.mono ?_
  rintro e w4 ⟨B4, c4, bs4, he, hown, _, hfr, hb⟩
  have hin4 : T.In w4 (· < w4.heap.size) tree17 B4 := hown.in_ (ok := (· < w4.heap.size)) fun b hb => (hfr b hb).2
  have H4 := hide (And.intro (H3.out.1.trans (hb.mono H3.out.1.size)) hin4)
  clear hown hfr hb HS H3 hin4
  simp only [T.hd, T.subs, Hd.cells, List.length_cons, List.length_nil, Nat.zero_add] at he
  subst he
  go_upto_region 2 with fail
  have hal := (Below.refl w4.heap.size w4).alloc (Nat.le_refl _) (.cells #[.int .i64 5, .int .u64 0, .int .u64 0, .int .u64 0, .int .u64 0, .slice B4 2 c4, .int .i64 0, .int .i64 0, .int .i64 0, .bool false] 27)
  have hbel5 := H4.out.1.trans (hal.mono H4.out.1.size)
  have HO := hide (posOfAll_any tree17 B4 c4 _ a (by simp [tree17, rep17, end17, grp17, row17, T.nodes, TL.nodes]) (T.In.next H4.out.2 hal) (HE.out _ hbel5))
  have HB := hide hbel5
  have cs := (Blk.new w4 27 #[.int .i64 5, .int .u64 0, .int .u64 0, .int .u64 0, .int .u64 0, .slice B4 2 c4, .int .i64 0, .int .i64 0, .int .i64 0, .bool false]).cell
  clear hal hbel5 H4
  have hcells : (tree17.hd.cells (.slice B4 tree17.subs.length c4)).toArray = #[.int .i64 5, .int .u64 0, .int .u64 0, .int .u64 0, .int .u64 0, .slice B4 2 c4, .int .i64 0, .int .i64 0, .int .i64 0, .bool false] := rfl
  rw [hcells] at HO
  clear hcells
  generalize (w4.alloc (.cells #[.int .i64 5, .int .u64 0, .int .u64 0, .int .u64 0, .int .u64 0, .slice B4 2 c4, .int .i64 0, .int .i64 0, .int .i64 0, .bool false] 27)) = w5 at *
  go_wp2_with fail
  refine HO.out.mono ?_
  rintro e w6 hm
  have hm2 : ∃ sv v1 v2 fv vs, e = .returned (.tuple #[.agg #[sv, .int .i64 12, v1, v2, fv], .nilIface]) ∧ OwnPo w5.heap.size po17 sv v1 v2 fv vs w6 ∧ Below w5.heap.size w5 w6 := by
    rcases hm with ⟨g, hg, _⟩ | ⟨_, h⟩
    · rw [tree17_check] at hg; cases hg
    · rw [tree17_laid] at h; exact h
  obtain ⟨sv, v1, v2, fv, vs, rfl, hown, hb⟩ := hm2
  obtain ⟨pa, hpa, hpi⟩ := hown.in_
  have H6 := hide (And.intro (HB.out.trans (hb.mono HB.out.size)) hpi)
  clear hm hown hb hpi HO cs
  simp only [Po.cells, po17, List.length_cons, List.length_nil, Nat.zero_add] at hpa
  injection hpa with hpa
  injection hpa with e1 hpa
  injection hpa with _ hpa
  injection hpa with e2 hpa
  injection hpa with e3 hpa
  injection hpa with e4 _
  subst e1 e2 e3 e4
  obtain ⟨bl, ol, hal, _, l0, l1⟩ := H6.out.2.last.cell (show po17.last[0]? = some (1, 12) from rfl)
  obtain ⟨bf, of, Bf, cf, haf, _, f1, _⟩ := H6.out.2.follow.cell (show po17.follow[1]? = some [(0, 15)] from rfl)
  simp only [Nat.zero_mul, Nat.add_zero, List.length_cons, List.length_nil, Nat.zero_add] at l0 l1 f1
  have HAA := hide (And.intro hal haf)
  rw [hal, haf]
  clear hal haf
  go_wp2_with fail
  go_ret
  exact ⟨rfl, H6.out.1.alloc H6.out.1.size _⟩
end Go.Proofs.YthkddbfgihgfaaaDoor
