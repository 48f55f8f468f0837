/- turn.Turn: the turned tree, in memory of its own. -/
import Derived.Test.YtbiamlinoldnlaaDoorTurn2
set_option linter.unusedSimpArgs false
set_option linter.unusedVariables false
set_option linter.unnecessarySimpa false
namespace Go.Proofs.YtbiamlinoldnlaaDoor
open Go.RowKit

theorem splice_all {cur cs : List Value} (h : cs.length = cur.length) : splice cur 0 cs = cs := by
  simp [splice, h]

/-- A fresh tree: what a function that makes a tree hands back. -/
def Fresh (t : T) (w : World) (e : Ending) (w' : World) : Prop :=
  ∃ B c bs, e = .returned (.agg (t.hd.cells (.slice B t.subs.length c)).toArray) ∧ T.Own w' t B bs ∧ bs.Nodup ∧ (∀ b ∈ bs, w.heap.size ≤ b ∧ b < w'.heap.size) ∧ Below w.heap.size w w'

set_option maxRecDepth 100000 in
set_option maxHeartbeats 1000000 in
theorem Turn_any (t : T) (A : Option Addr) (c : Nat) (w : World) (hN : t.nodes ≤ 1000000) (hin : T.In w (· < w.heap.size) t A) :
    Calls Tryd.prog 16 #[.agg (t.hd.cells (.slice A t.subs.length c)).toArray] w (Fresh t.turn w) := by
  have hcopy := copy_any 1000000 t A c
  have hturn := turn_any 1000000 t
  have hsl := T.turn_subs_length t
  obtain ⟨h, l⟩ := t
  obtain ⟨kind, s0, s1, s2, s3, num, mn, mx, bare⟩ := h
  simp only [T.hd, T.subs, Hd.cells] at hcopy hturn ⊢
  have HC := hide hcopy
  have HT := hide hturn
  have HSL := hide hsl
  clear hcopy hturn hsl
  go_enter Tryd.func16, Tryd.ntmps16
  go_wp2_with fail
  refine (HC.out _ hN (by omega) (hin.same (((Same.refl _ _).alloc (fun b hb => hb) _).alloc (fun b hb => by simp; omega) _) (fun b hb => by simp; omega))).mono ?_
  rintro e w1 ⟨B, c', bs, rfl, hown, hnd, hfr, hbel⟩
  simp only [World.size_alloc] at hfr hbel
  have hz1 := hbel.size
  simp only [World.size_alloc] at hz1
  have hb0 : Blk w1 w.heap.size 27 #[.int .i64 kind, .int .u64 s0, .int .u64 s1, .int .u64 s2, .int .u64 s3, .slice A l.length c, .int .i64 num, .int .i64 mn, .int .i64 mx, .bool bare] :=
    ((Blk.new _ _ _).alloc _).below hbel (by omega)
  have hb1 : Blk w1 (w.heap.size + 1) 27 #[.int .i64 0, .int .u64 0, .int .u64 0, .int .u64 0, .int .u64 0, .slice none 0 0, .int .i64 0, .int .i64 0, .int .i64 0, .bool false] := by
    have := Blk.new (w.alloc (.cells #[.int .i64 kind, .int .u64 s0, .int .u64 s1, .int .u64 s2, .int .u64 s3, .slice A l.length c, .int .i64 num, .int .i64 mn, .int .i64 mx, .bool bare] 27)) 27 #[.int .i64 0, .int .u64 0, .int .u64 0, .int .u64 0, .int .u64 0, .slice none 0 0, .int .i64 0, .int .i64 0, .int .i64 0, .bool false]
    rw [World.size_alloc] at this
    exact this.below hbel (by omega)
  have hbw : Below w.heap.size w w1 := (((Below.refl _ _).alloc (Nat.le_refl _) _).alloc (by simp) _).trans (hbel.mono (by omega))
  go_wp2_with (refine wpList_store_row rfl _ _ _ rfl w.heap.size 0 _ _ _ rfl rfl hb0 Tryd.sizeNode (by simp) (by simp [Value.oneCell']) ?_)
  intro w2 hrow2 hg2 hz2
  have hrow2' := hrow2.out
  rw [splice_all (by simp)] at hrow2'
  clear hrow2
  have hb1' := hb1.grown hg2 (by simp)
  have hbw2 : Below w.heap.size w w2 := hbw.grown hg2 hbw.size (fun k hk => by injection hk with hk; omega)
  go_wp2_with fail
  refine (HT.out B c' w.heap.size 0 bs _ [] [] w2 hN (by omega) hrow2' (by simp [Hid]) rfl (hown.same fun b hb => hg2.block b (hfr b hb).2 (fun e => ?_)) hnd (fun hb => ?_) (fun b hb => ?_)).mono ?_
  · injection e with e
    have := (hfr b hb).1
    omega
  · have := (hfr _ hb).1; omega
  · have := (hfr b hb).2; omega
  rintro e w3 ⟨rfl, hon, pcur', bs', q1, q2, q3, q4, q5⟩
  have hb1'' : Blk w3 (w.heap.size + 1) 27 _ := (hon.block _ hb1'.lt (fun h => by
    rcases h with h | h
    · omega
    · have := (hfr _ h).1; omega)).trans hb1'
  have hbw3 : Below w.heap.size w w3 := hbw2.trans (hon.below hbw2.size (fun b hb => by
    rcases hb with hb | hb
    · omega
    · have := (hfr b hb).1; omega))
  simp only [List.nil_append, List.append_nil] at q2
  have q1' := hide q1
  have hn := (show CellsAt w3 ⟨w.heap.size, 0, none⟩ _ from (by
    have h1 := q1.cellsAt 0
    rw [q2, List.drop_zero] at h1
    exact h1)).node
  generalize T.turn _ = u at *
  have c1 := hb1''.cell
  have f1 := hb1''.frozen
  have z1 := hb1''.lt
  have hlt : ∀ b ∈ bs', w.heap.size + 2 ≤ b ∧ b < w3.heap.size := fun b hb => by
    have h1 := hfr b (q3 b hb)
    have h2 := hon.size
    omega
  have Q2 := hide q2
  have HB := hide hbw3
  clear q2 q1 hbw3 hon hb1' hb1 hb0 hrow2' hbw2 hbw hbel
  go_wp2_with fail
  refine bodyPost_ret (v := .agg #[.int .i64 u.hd.kind, .int .u64 u.hd.s0, .int .u64 u.hd.s1, .int .u64 u.hd.s2, .int .u64 u.hd.s3, .slice B l.length c', .int .i64 u.hd.num, .int .i64 u.hd.min, .int .i64 u.hd.max, .bool u.hd.bare])
    (by simp [results, Tryd.results16, go_sem, c1, T.subs]) rfl ?_
  refine ⟨B, c', bs', by rw [show u.subs.length = l.length from HSL.out]; rfl, q5.same (Same.mono (ok := fun b => w.heap.size + 2 ≤ b) ?_ fun b hb => (hlt b hb).1), q4, ?_, ?_⟩
  · repeat refine Same.set ?_ (by simp) _
    exact Same.refl _ _
  · intro b hb
    simp only [World.size_setCell]
    have := hlt b hb; omega
  · repeat refine Below.setCell ?_ (by simp) _
    exact HB.out
end Go.Proofs.YtbiamlinoldnlaaDoor
