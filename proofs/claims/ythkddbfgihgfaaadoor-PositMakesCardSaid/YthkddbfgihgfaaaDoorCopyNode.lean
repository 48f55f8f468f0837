/- trawlnum.CopyNode: the same tree in memory of its own, by append. -/
import Derived.Test.YthkddbfgihgfaaaDoorGrow
namespace Go.Proofs.YthkddbfgihgfaaaDoor
open Go.RowKit

set_option maxRecDepth 100000 in
set_option maxHeartbeats 1000000 in
theorem copyNode_any (N : Nat) : ∀ (t : T) (A : Option Addr) (c : Nat) (w : World), t.nodes ≤ N → N ≤ 1000000 → T.In w (· < w.heap.size) t A →
    Calls Tryd.prog 10 #[.agg (t.hd.cells (.slice A t.subs.length c)).toArray] w fun e w' =>
      ∃ B c' bs, e = .returned (.agg (t.hd.cells (.slice B t.subs.length c')).toArray) ∧ T.Own w' t B bs ∧ bs.Nodup ∧ (∀ b ∈ bs, w.heap.size ≤ b ∧ b < w'.heap.size) ∧ Below w.heap.size w w' := by
  induction N with
  | zero => intro t A c w h; have := t.nodes_pos; omega
  | succ N ih =>
    intro t A c w hN hM hin
    obtain ⟨h, l⟩ := t
    obtain ⟨kind, s0, s1, s2, s3, num, mn, mx, bare⟩ := h
    have hlen := T.length_lt (T.mk ⟨kind, s0, s1, s2, s3, num, mn, mx, bare⟩ l)
    simp only [T.nodes] at hN
    simp only [T.nodes, T.hd, T.subs, Hd.cells] at hlen ⊢
    go_enter Tryd.func10, Tryd.ntmps10
    go_wp2_with fail
    go_loopw [3, 9] (fun v kv wr => ∃ (k : Nat) (bs : List Nat), kv = .int .i64 k ∧ k ≤ l.length ∧ GrowT (w.heap.size + 2) wr v (l.take k) bs ∧ Below w.heap.size w wr ∧
        Blk wr w.heap.size 27 #[.int .i64 kind, .int .u64 s0, .int .u64 s1, .int .u64 s2, .int .u64 s3, .slice A l.length c, .int .i64 num, .int .i64 mn, .int .i64 mx, .bool bare] ∧
        Blk wr (w.heap.size + 1) 27 zeroCells) (fun _ kv _ => l.length - (intOf kv).toNat)
    case atStart =>
      refine ⟨0, [], rfl, Nat.zero_le _, GrowT.nil _ _, ((Below.refl _ _).alloc (Nat.le_refl _) _).alloc (by simp) _, (Blk.new _ _ _).alloc _, ?_⟩
      have := Blk.new (w.alloc (.cells #[.int .i64 kind, .int .u64 s0, .int .u64 s1, .int .u64 s2, .int .u64 s3, .slice A l.length c, .int .i64 num, .int .i64 mn, .int .i64 mx, .bool bare] 27)) 27 zeroCells
      rw [World.size_alloc] at this
      exact this
    case round =>
      obtain ⟨k, bs, rfl, hk, hgrow, hbel, hb0, hb1⟩ := hrel
      have z0 := hb0.lt
      have z1 := hb1.lt
      by_cases hlt : k < l.length
      · have hs := List.getElem?_eq_getElem hlt
        obtain ⟨b, o, B, c', rfl, hbk, hcs, hsub⟩ := TL.In.at_ (T.In_iff.1 hin) hs
        have hsn := TL.nodes_mem (List.getElem_mem hlt)
        generalize l[k] = s at *
        obtain ⟨n0, n1, n2, n3, n4, n5, n6, n7, n8, n9⟩ := (hcs.same (same_of_below hbel) hbk).node
        have HS := hide hs
        clear hs
        go_wp2_with fail
        refine (ih s B c' _ (by omega) (by omega) (hsub.same ((same_of_below hbel).alloc (fun x hx => ?_) _) (fun x hx => ?_))).mono ?_
        · have := hbel.size; omega
        · simp; have := hbel.size; omega
        rintro e w1 ⟨B', c2, bs2, rfl, hown2, hnd2, hfr2, hbel2⟩
        have hbelA : Below wr.heap.size wr w1 := ((Below.refl _ _).alloc (Nat.le_refl _) _).trans (hbel2.mono (by simp))
        rw [World.size_alloc] at hfr2
        have hz2 := hbel2.size
        rw [World.size_alloc] at hz2
        clear hbel2
        have hfr3 : ∀ (X : Obj), ∀ b ∈ bs2, w.heap.size + 2 ≤ b ∧ b < (w1.alloc X).heap.size ∧ some b ≠ u3.ownBlock ∧ b ∉ bs := fun X b hb => by
          obtain ⟨xs, q1, q2, q3, q4⟩ := hgrow
          refine ⟨?_, ?_, ?_, ?_⟩
          · have := (hfr2 b hb).1; omega
          · have := (hfr2 b hb).2; simp; omega
          · intro e
            have := (q1.lt b e.symm).2
            have := (hfr2 b hb).1
            omega
          · intro e
            have := (q4 b e).2.1
            have := (hfr2 b hb).1
            omega
        have hgA := hide (fun X => (hgrow.below hbelA).below ((Below.refl _ _).alloc (Nat.le_refl _) X))
        have hoA := hide (fun (X : Obj) => hown2.same ((Same.refl _ w1).alloc (fun b hb => (hfr2 b hb).2) X))
        have hlA : (l.take k).length < 1000000 := by rw [List.length_take]; omega
        have HH := hide (And.intro hgrow (And.intro hfr2 hbelA))
        clear hgrow hbelA hfr2
        simp only [Hd.cells]
        go_wp2_with (at_builtin; refine wpList_append_node rfl _ _ rfl (w.heap.size + 2) _ (l.take k) bs rfl (hgA.out _) s B' c2 w1.heap.size _ bs2 rfl (Blk.new _ _ _) (hoA.out _) hnd2 (hfr3 _) hlA (by simp; omega) ?_)
        intro v' w2 hgrow2 hg2
        have hz3 := hg2.size
        rw [World.size_alloc] at hz3
        obtain ⟨hgrow, hfr2, hbelA⟩ := HH.out
        have hown : ∀ g, u3.ownBlock = some g → w.heap.size + 2 ≤ g ∧ g < wr.heap.size := by
          obtain ⟨xs, q1, _⟩ := hgrow
          exact q1.lt
        have hkeep : ∀ g, g < w.heap.size + 2 → w2.heap[g]? = wr.heap[g]? := fun g hx => by
          rw [hg2.block g (by simp; omega) (fun e => by have := (hown g e.symm).1; omega), Below.heap_alloc _ _ _ (by omega), hbelA.block g (by omega)]
        have hgrow2' : GrowT (w.heap.size + 2) w2 v' (l.take (k + 1)) (bs ++ bs2) := by
          rw [show l.take (k + 1) = l.take k ++ [s] from by rw [List.take_add_one, HS.out]; rfl]
          exact hgrow2
        have hgoal : Below w.heap.size w w2 ∧ Blk w2 w.heap.size 27 #[.int .i64 kind, .int .u64 s0, .int .u64 s1, .int .u64 s2, .int .u64 s3, .slice (some ⟨b, o, none⟩) l.length c, .int .i64 num, .int .i64 mn, .int .i64 mx, .bool bare] ∧ Blk w2 (w.heap.size + 1) 27 zeroCells := by
          refine ⟨⟨(hg2.os.trans hbelA.os).trans hbel.os, (hg2.tape.trans hbelA.tape).trans hbel.tape, (hg2.output.trans hbelA.output).trans hbel.output, by have := hbel.size; omega, fun g hx => ?_⟩, (hkeep _ (by omega)).trans hb0, (hkeep _ (by omega)).trans hb1⟩
          rw [hkeep g (by omega), hbel.block g hx]
        have HG := hide (And.intro hgrow2' hgoal)
        clear hgrow2' hgoal hkeep hown hgrow hfr2 hbelA hgrow2 hg2
        go_wp2_with fail
        go_roundw
        case rel => exact ⟨k + 1, bs ++ bs2, by go_num, by omega, HG.out⟩
        case measure => simp [intOf]; omega
      · have hke : k = l.length := by omega
        obtain ⟨A', c', bs', hv, hown, hnd, hfr⟩ := hgrow.own ⟨kind, s0, s1, s2, s3, num, mn, mx, bare⟩
        rw [hke, List.take_length] at hv hown
        clear hgrow
        subst hv
        have c1 : ∀ i : Nat, wr.cell? ⟨w.heap.size + 1, i, none⟩ = #[Value.int .i64 0, .int .u64 0, .int .u64 0, .int .u64 0, .int .u64 0, .slice none 0 0, .int .i64 0, .int .i64 0, .int .i64 0, .bool false][i]? := hb1.cell
        have c0 := hb0.cell
        have f0 := hb0.frozen
        have f1 := hb1.frozen
        have H := hide hown
        clear hown hke
        go_wp2_with fail
        refine bodyPost_ret (v := .agg #[.int .i64 kind, .int .u64 s0, .int .u64 s1, .int .u64 s2, .int .u64 s3, .slice A' l.length c', .int .i64 num, .int .i64 mn, .int .i64 mx, .bool bare])
          (by simp [results, Tryd.results10, go_sem, c1]) rfl ?_
        refine ⟨A', c', bs', rfl, H.out.same (Same.mono (ok := fun b => w.heap.size + 2 ≤ b) ?_ fun b hb => (hfr b hb).1), hnd, ?_, ?_⟩
        · repeat refine Same.set ?_ (by simp) _
          exact Same.refl _ _
        · intro b hb
          simp only [World.size_setCell]
          have := hfr b hb; omega
        · repeat refine Below.setCell ?_ (by simp) _
          exact hbel

end Go.Proofs.YthkddbfgihgfaaaDoor
