/- trawlref16.Turn. (Printed by gen_refturn.py.) -/
import Derived.Test.YtbiamlinoldnlaaTurn3
set_option linter.unusedSimpArgs false
set_option linter.unusedVariables false
set_option linter.unnecessarySimpa false
namespace Go.Proofs.Ytbiamlinoldnlaa
open Go.RowKit

set_option maxRecDepth 100000 in
set_option maxHeartbeats 2000000 in
theorem refTurn_any (M : Nat) : ∀ (t : T) (A : Option Addr) (c : Nat) (w : World), t.nodes ≤ M → M ≤ 1000000 → T.In w (· < w.heap.size) t A →
    Calls Try.prog 8 #[.agg (t.hd.cells (.slice A t.subs.length c)).toArray] w (Fresh t.turn w) := by
  induction M with
  | zero => intro t A c w h; have := t.nodes_pos; omega
  | succ M ih =>
    intro t A c w hM hM2 hin
    obtain ⟨h, l⟩ := t
    obtain ⟨kind, s0, s1, s2, s3, num, mn, mx, bare⟩ := h
    have hlen := T.length_lt (T.mk ⟨kind, s0, s1, s2, s3, num, mn, mx, bare⟩ l)
    simp only [T.nodes] at hM
    simp only [T.nodes, T.hd, T.subs, Hd.cells] at hlen ⊢
    have hlI : (l.length : Int) ≤ 1000000 := by omega
    obtain ⟨m, hm⟩ : ∃ m, m = if kind = 5 then l.reverse else l := ⟨_, rfl⟩
    have HM := hide hm
    have hml : Hid (m.length = l.length) := by show m.length = l.length; rw [hm]; split <;> simp
    clear hm
    go_enter Try.func8, Try.ntmps8
    go_wp2_with fail
    go_loopw [5] (fun kv wr => ∃ (k : Nat) (v : Value) (bs : List Nat), kv = .int .i64 k ∧ k ≤ l.length ∧ GrowT (w.heap.size + 3) wr v ((m.take k).map T.turn) bs ∧ Below w.heap.size w wr ∧
        Blk wr w.heap.size 27 #[.int .i64 kind, .int .u64 s0, .int .u64 s1, .int .u64 s2, .int .u64 s3, .slice A l.length c, .int .i64 num, .int .i64 mn, .int .i64 mx, .bool bare] ∧
        Blk wr (w.heap.size + 1) 27 zeroCells ∧ Blk wr (w.heap.size + 2) 27 #[.int .i64 kind, .int .u64 s0, .int .u64 s1, .int .u64 s2, .int .u64 s3, v, .int .i64 num, .int .i64 mn, .int .i64 mx, .bool bare]) (fun kv _ => l.length - (intOf kv).toNat)
    case atStart =>
      refine ⟨0, .slice none 0 0, [], rfl, Nat.zero_le _, by simpa using GrowT.nil _ _, (((Below.refl _ _).alloc (Nat.le_refl _) _).alloc (by simp) _).alloc (by simp; omega) _, ((Blk.new _ _ _).alloc _).alloc _, ?_, ?_⟩
      · have := (Blk.new (w.alloc (.cells #[.int .i64 kind, .int .u64 s0, .int .u64 s1, .int .u64 s2, .int .u64 s3, .slice A l.length c, .int .i64 num, .int .i64 mn, .int .i64 mx, .bool bare] 27)) 27 zeroCells)
        rw [World.size_alloc] at this
        exact this.alloc _
      · simpa using Blk.new ((w.alloc _).alloc _) 27 _
    case round =>
      obtain ⟨k, v, bs, rfl, hk, hgrow, hbel, hb0, hb1, hb2⟩ := hrel
      have z0 := hb0.lt
      have z1 := hb1.lt
      have z2 := hb2.lt
      have c0 := hb0.cell
      by_cases hlt : k < l.length
      · obtain ⟨j, hj1, hj2⟩ : ∃ j : Nat, j < l.length ∧ m[k]? = l[j]? ∧ (kind = 5 → (j : Int) = l.length - 1 - k) ∧ (kind ≠ 5 → j = k) := by
          by_cases k5 : kind = 5
          · exact ⟨l.length - 1 - k, by omega, by rw [HM.out, if_pos k5, List.getElem?_reverse hlt], fun _ => by omega, fun h => absurd k5 h⟩
          · exact ⟨k, hlt, by rw [HM.out, if_neg k5], fun h => absurd h k5, fun _ => rfl⟩
        have hs := List.getElem?_eq_getElem hj1
        obtain ⟨b, o, B, c', rfl, hbk, hcs, hsub⟩ := TL.In.at_ (T.In_iff.1 hin) hs
        have hsn := TL.nodes_mem (List.getElem_mem hj1)
        generalize l[j] = s at *
        rw [hs] at hj2
        have hcs' := hcs.same (same_of_below hbel) hbk
        have hsub' := fun (x : World) (hx : Below wr.heap.size wr x) => hsub.same (ok' := (· < x.heap.size)) ((same_of_below hbel).trans ((same_of_below hx).mono fun b hb => Nat.lt_of_lt_of_le hb hbel.size)) (fun y hy => Nat.lt_of_lt_of_le hy (Nat.le_trans hbel.size hx.size))
        have HJ := hide hj2
        have HK := hide hcs'
        have HU := hide hsub'
        clear hs hj2 hcs hcs' hsub' hsub
        have hreg : kind = 5 ∨ (kind == 5) = false := by by_cases k5 : kind = 5 <;> simp [k5]
        rcases hreg with k5 | k5
        · subst k5
          have hji := HJ.out.2.1 rfl
          obtain ⟨hji', _⟩ : ((l.length : Int) - 1 - k = (j : Int)) ∧ True := ⟨by omega, trivial⟩
          clear hji
          go_wp2_with fail
          refine wp_region_mix (fun x => Below wr.heap.size wr x) [9, 10, 11] (by kernel_rfl) (fun hcl => ?_)
          have hS : Below wr.heap.size wr wr.drew := (Below.refl _ _).drew
          clear c0
          refine wpAnyT_free (i := 0) hcl rfl (by kernel_rfl) (v := ?_) (fun _ _ _ h => h) hS (Or.inl ⟨rfl, fun w' _ => ?_⟩) (fun hcl => ?_)
          rotate_left
          · go_simp
            with_reducible rfl
          simp only [List.getElem_toArray, List.getElem_cons_zero, List.getElem_cons_succ, Act.put, List.setIfInBounds_toArray, List.set_cons_zero, List.set_cons_succ]
          refine wpAnyT_take (i := 1) hcl rfl (by kernel_rfl) (v := ?_) (fun _ _ _ h => h) hS (Or.inl ⟨rfl, fun w' hS => ?_⟩) (fun hcl => ?_)
          rotate_left
          · skip
            have c2 := (hb2.below hS z2).cell
            go_simp
            with_reducible rfl
          simp only [List.getElem_toArray, List.getElem_cons_zero, List.getElem_cons_succ, Act.put, List.setIfInBounds_toArray, List.set_cons_zero, List.set_cons_succ]
          refine wpAnyT_free (i := 2) hcl rfl (by kernel_rfl) (v := ?_) (fun _ _ _ h => h) hS (Or.inl ⟨rfl, fun w' _ => ?_⟩) (fun hcl => ?_)
          rotate_left
          · go_simp
            with_reducible rfl
          simp only [List.getElem_toArray, List.getElem_cons_zero, List.getElem_cons_succ, Act.put, List.setIfInBounds_toArray, List.set_cons_zero, List.set_cons_succ]
          refine wpAnyT_take (i := 3) hcl rfl (by kernel_rfl) (v := ?_) (fun _ _ _ h => h) hS (Or.inl ⟨rfl, fun w' hS => ?_⟩) (fun hcl => ?_)
          rotate_left
          · skip
            have c0 := (hb0.below hS z0).cell
            go_simp
            with_reducible rfl
          simp only [List.getElem_toArray, List.getElem_cons_zero, List.getElem_cons_succ, Act.put, List.setIfInBounds_toArray, List.set_cons_zero, List.set_cons_succ]
          refine wpAnyT_free (i := 4) hcl rfl (by kernel_rfl) (v := ?_) (fun _ _ _ h => h) hS (Or.inl ⟨rfl, fun w' _ => ?_⟩) (fun hcl => ?_)
          rotate_left
          · go_simp
            with_reducible rfl
          simp only [List.getElem_toArray, List.getElem_cons_zero, List.getElem_cons_succ, Act.put, List.setIfInBounds_toArray, List.set_cons_zero, List.set_cons_succ]
          refine wpAnyT_free (i := 5) hcl rfl (by kernel_rfl) (v := ?_) (fun _ _ _ h => h) hS (Or.inl ⟨rfl, fun w' _ => ?_⟩) (fun hcl => ?_)
          rotate_left
          · go_simp
            with_reducible rfl
          simp only [List.getElem_toArray, List.getElem_cons_zero, List.getElem_cons_succ, Act.put, List.setIfInBounds_toArray, List.set_cons_zero, List.set_cons_succ]
          refine wpAnyT_take (i := 6) hcl rfl (by kernel_rfl) (fun _ _ _ h => h) hS (Or.inl ⟨rfl, fun w' hS => run_load_cells _ _ rfl ⟨b, o + j * 10, none⟩ rfl (s.hd.cells (.slice B s.subs.length c')) _ Try.underlying27 rfl Try.sizeNode (HK.out.same (same_of_below hS) (Nat.lt_of_lt_of_le hbk hbel.size))⟩) (fun hcl => ?_)
          simp only [List.getElem_toArray, List.getElem_cons_zero, List.getElem_cons_succ, Act.put, List.setIfInBounds_toArray, List.set_cons_zero, List.set_cons_succ]
          refine wpAnyT_step (i := 7) hcl rfl (by kernel_rfl) (fun hcl => ?_)
          simp only [List.getElem_toArray, List.getElem_cons_zero, List.getElem_cons_succ, Act.put, List.setIfInBounds_toArray, List.set_cons_zero, List.set_cons_succ]
          go_wp2_with fail
          refine (ih s B c' _ (by omega) (by omega) (HU.out _ hS)).mono ?_
          rintro e w1 ⟨B', c2, bs2, rfl, hown2, hnd2, hfr2, hbel2⟩
          have hbelA : Below wr.heap.size wr w1 := hS.trans hbel2
          have hz2 := hbel2.size
          simp only [World.size_drew] at hfr2 hz2
          clear hbel2 hS
          simp only [Hd.cells]
          go_wp2_with fail
          refine ⟨hbelA, ?_⟩
          refine wpAnyT_step (i := 8) hcl rfl (by kernel_rfl) (fun hcl => ?_)
          simp only [List.getElem_toArray, List.getElem_cons_zero, List.getElem_cons_succ, Act.put, List.setIfInBounds_toArray, List.set_cons_zero, List.set_cons_succ]
          go_wp2_with fail
          have hbelB := hbelA.alloc hbelA.size (.cells (s.turn.hd.cells (.slice B' s.turn.subs.length c2)).toArray 27)
          simp only [Hd.cells] at hbelB
          refine ⟨hbelB, ?_⟩
          have hfr3 : ∀ (X : Obj), ∀ b ∈ bs2, w.heap.size + 3 ≤ b ∧ b < (w1.alloc X).heap.size ∧ some b ≠ v.ownBlock ∧ b ∉ bs := fun X b hb => by
            obtain ⟨xs, q1, q2, q3, q4⟩ := hgrow
            refine ⟨?_, ?_, ?_, ?_⟩
            · have := (hfr2 b hb).1; omega
            · have := (hfr2 b hb).2; simp; omega
            · intro e
              have := (q1.lt b e.symm).2
              have := (hfr2 b hb).1
              omega
            · intro e
              have := (q4 b e).2.1
              have := (hfr2 b hb).1
              omega
          have hgA := (hgrow.below hbelA).below ((Below.refl _ _).alloc (Nat.le_refl _) (.cells (s.turn.hd.cells (.slice B' s.turn.subs.length c2)).toArray 27))
          have hoA := hown2.same ((Same.refl _ w1).alloc (fun b hb => (hfr2 b hb).2) (.cells (s.turn.hd.cells (.slice B' s.turn.subs.length c2)).toArray 27))
          refine wpAnyT_last (i := 9) hcl rfl (by kernel_rfl) (by kernel_rfl) (fun hcl => ?_)
          simp only [List.getElem_toArray, List.getElem_cons_zero, List.getElem_cons_succ, Act.put, List.setIfInBounds_toArray, List.set_cons_zero, List.set_cons_succ]
          refine wpList_append_node rfl _ _ rfl (w.heap.size + 3) v ((m.take k).map T.turn) bs rfl hgA s.turn B' c2 w1.heap.size _ bs2 rfl (Blk.new _ _ _) hoA hnd2 (hfr3 _) (by rw [List.length_map, List.length_take]; omega) (by simp; omega) ?_
          intro v' w2 hgrow2 hg2
          refine wpList_nil ?_
          have hz3 := hg2.size
          rw [World.size_alloc] at hz3
          have hownb : ∀ g, v.ownBlock = some g → w.heap.size + 3 ≤ g ∧ g < wr.heap.size := by
            obtain ⟨xs, q1, _⟩ := hgrow
            exact q1.lt
          have hkeep : ∀ g, g < w.heap.size + 3 → w2.heap[g]? = wr.heap[g]? := fun g hx => by
            rw [hg2.block g (by simp; omega) (fun e => by have := (hownb g e.symm).1; omega), Below.heap_alloc _ _ _ (by omega), hbelA.block g (by omega)]
          have hbelC : Below w.heap.size w w2 := ⟨(hg2.os.trans hbelA.os).trans hbel.os, (hg2.tape.trans hbelA.tape).trans hbel.tape, (hg2.output.trans hbelA.output).trans hbel.output, by have := hbel.size; omega, fun g hx => by rw [hkeep g (by omega), hbel.block g hx]⟩
          have hb0' : Blk w2 w.heap.size _ _ := (hkeep _ (by omega)).trans hb0
          have hb1' : Blk w2 (w.heap.size + 1) _ _ := (hkeep _ (by omega)).trans hb1
          have hb2' : Blk w2 (w.heap.size + 2) _ _ := (hkeep _ (by omega)).trans hb2
          have c2' := hb2'.cell
          have f2' := hb2'.frozen
          have hgrow3 : GrowT (w.heap.size + 3) w2 v' ((m.take (k + 1)).map T.turn) (bs ++ bs2) := by
            rw [List.take_add_one, HJ.out.1]
            simpa using hgrow2
          obtain ⟨A3, c3, hv3⟩ := hgrow3.form
          rw [show ((m.take (k + 1)).map T.turn).length = k + 1 from by rw [List.length_map, List.length_take, hml.out]; omega] at hv3
          have HG := hide hgrow3
          have HB := hide (And.intro hbelC (And.intro hb0' (And.intro hb1' hb2')))
          clear hgrow3 hgrow2 hg2 hkeep hbelC hb0' hb1' hb2' hgA hoA hfr3 hownb hbelA hbelB
          subst hv3
          refine wpAnyT_last (i := 10) hcl rfl (by kernel_rfl) (by kernel_rfl) (fun hcl => ?_)
          simp only [List.getElem_toArray, List.getElem_cons_zero, List.getElem_cons_succ, Act.put, List.setIfInBounds_toArray, List.set_cons_zero, List.set_cons_succ]
          go_wp2_with fail
          refine wpAnyT_last (i := 11) hcl rfl (by kernel_rfl) (by kernel_rfl) (fun hcl => ?_)
          simp only [List.getElem_toArray, List.getElem_cons_zero, List.getElem_cons_succ, Act.put, List.setIfInBounds_toArray, List.set_cons_zero, List.set_cons_succ]
          go_wp2_with fail
          refine wpAnyT_done (by kernel_rfl) ?_ _
          go_wp2_with fail
          go_roundw
          case rel =>
            refine ⟨k + 1, _, bs ++ bs2, by go_num, by omega, HG.out.same ((Same.refl _ _).set (p := ⟨w.heap.size + 2, 5, none⟩) (fun h => by have := h.1; simp at this) _) (by simp), HB.out.1.setCell (by simp; omega) _, HB.out.2.1.far (by simp; omega) _, HB.out.2.2.1.far (by simp) _, by simpa using HB.out.2.2.2.set_ 5 (.slice A3 (k + 1) c3)⟩
          case measure => simp [intOf]; omega

        · have hjk : k = j := (HJ.out.2.2 (by simpa using k5)).symm
          subst hjk
          go_wp2_with fail
          refine wp_region_mix (fun x => Below wr.heap.size wr x) [9, 10, 11] (by kernel_rfl) (fun hcl => ?_)
          have hS : Below wr.heap.size wr wr.drew := (Below.refl _ _).drew
          clear c0
          refine wpAnyT_free (i := 0) hcl rfl (by kernel_rfl) (v := ?_) (fun _ _ _ h => h) hS (Or.inl ⟨rfl, fun w' _ => ?_⟩) (fun hcl => ?_)
          rotate_left
          · go_simp
            with_reducible rfl
          simp only [List.getElem_toArray, List.getElem_cons_zero, List.getElem_cons_succ, Act.put, List.setIfInBounds_toArray, List.set_cons_zero, List.set_cons_succ]
          refine wpAnyT_take (i := 1) hcl rfl (by kernel_rfl) (v := ?_) (fun _ _ _ h => h) hS (Or.inl ⟨rfl, fun w' hS => ?_⟩) (fun hcl => ?_)
          rotate_left
          · skip
            have c2 := (hb2.below hS z2).cell
            go_simp
            with_reducible rfl
          simp only [List.getElem_toArray, List.getElem_cons_zero, List.getElem_cons_succ, Act.put, List.setIfInBounds_toArray, List.set_cons_zero, List.set_cons_succ]
          refine wpAnyT_free (i := 2) hcl rfl (by kernel_rfl) (v := ?_) (fun _ _ _ h => h) hS (Or.inl ⟨rfl, fun w' _ => ?_⟩) (fun hcl => ?_)
          rotate_left
          · go_simp
            with_reducible rfl
          simp only [List.getElem_toArray, List.getElem_cons_zero, List.getElem_cons_succ, Act.put, List.setIfInBounds_toArray, List.set_cons_zero, List.set_cons_succ]
          refine wpAnyT_take (i := 3) hcl rfl (by kernel_rfl) (v := ?_) (fun _ _ _ h => h) hS (Or.inl ⟨rfl, fun w' hS => ?_⟩) (fun hcl => ?_)
          rotate_left
          · skip
            have c0 := (hb0.below hS z0).cell
            go_simp
            with_reducible rfl
          simp only [List.getElem_toArray, List.getElem_cons_zero, List.getElem_cons_succ, Act.put, List.setIfInBounds_toArray, List.set_cons_zero, List.set_cons_succ]
          refine wpAnyT_free (i := 4) hcl rfl (by kernel_rfl) (v := ?_) (fun _ _ _ h => h) hS (Or.inl ⟨rfl, fun w' _ => ?_⟩) (fun hcl => ?_)
          rotate_left
          · go_simp
            with_reducible rfl
          simp only [List.getElem_toArray, List.getElem_cons_zero, List.getElem_cons_succ, Act.put, List.setIfInBounds_toArray, List.set_cons_zero, List.set_cons_succ]
          refine wpAnyT_free (i := 5) hcl rfl (by kernel_rfl) (v := ?_) (fun _ _ _ h => h) hS (Or.inl ⟨rfl, fun w' _ => ?_⟩) (fun hcl => ?_)
          rotate_left
          · go_simp
            with_reducible rfl
          simp only [List.getElem_toArray, List.getElem_cons_zero, List.getElem_cons_succ, Act.put, List.setIfInBounds_toArray, List.set_cons_zero, List.set_cons_succ]
          refine wpAnyT_take (i := 6) hcl rfl (by kernel_rfl) (fun _ _ _ h => h) hS (Or.inl ⟨rfl, fun w' hS => run_load_cells _ _ rfl ⟨b, o + k * 10, none⟩ rfl (s.hd.cells (.slice B s.subs.length c')) _ Try.underlying27 rfl Try.sizeNode (HK.out.same (same_of_below hS) (Nat.lt_of_lt_of_le hbk hbel.size))⟩) (fun hcl => ?_)
          simp only [List.getElem_toArray, List.getElem_cons_zero, List.getElem_cons_succ, Act.put, List.setIfInBounds_toArray, List.set_cons_zero, List.set_cons_succ]
          refine wpAnyT_step (i := 7) hcl rfl (by kernel_rfl) (fun hcl => ?_)
          simp only [List.getElem_toArray, List.getElem_cons_zero, List.getElem_cons_succ, Act.put, List.setIfInBounds_toArray, List.set_cons_zero, List.set_cons_succ]
          go_wp2_with fail
          refine (ih s B c' _ (by omega) (by omega) (HU.out _ hS)).mono ?_
          rintro e w1 ⟨B', c2, bs2, rfl, hown2, hnd2, hfr2, hbel2⟩
          have hbelA : Below wr.heap.size wr w1 := hS.trans hbel2
          have hz2 := hbel2.size
          simp only [World.size_drew] at hfr2 hz2
          clear hbel2 hS
          simp only [Hd.cells]
          go_wp2_with fail
          refine ⟨hbelA, ?_⟩
          refine wpAnyT_step (i := 8) hcl rfl (by kernel_rfl) (fun hcl => ?_)
          simp only [List.getElem_toArray, List.getElem_cons_zero, List.getElem_cons_succ, Act.put, List.setIfInBounds_toArray, List.set_cons_zero, List.set_cons_succ]
          go_wp2_with fail
          have hbelB := hbelA.alloc hbelA.size (.cells (s.turn.hd.cells (.slice B' s.turn.subs.length c2)).toArray 27)
          simp only [Hd.cells] at hbelB
          refine ⟨hbelB, ?_⟩
          have hfr3 : ∀ (X : Obj), ∀ b ∈ bs2, w.heap.size + 3 ≤ b ∧ b < (w1.alloc X).heap.size ∧ some b ≠ v.ownBlock ∧ b ∉ bs := fun X b hb => by
            obtain ⟨xs, q1, q2, q3, q4⟩ := hgrow
            refine ⟨?_, ?_, ?_, ?_⟩
            · have := (hfr2 b hb).1; omega
            · have := (hfr2 b hb).2; simp; omega
            · intro e
              have := (q1.lt b e.symm).2
              have := (hfr2 b hb).1
              omega
            · intro e
              have := (q4 b e).2.1
              have := (hfr2 b hb).1
              omega
          have hgA := (hgrow.below hbelA).below ((Below.refl _ _).alloc (Nat.le_refl _) (.cells (s.turn.hd.cells (.slice B' s.turn.subs.length c2)).toArray 27))
          have hoA := hown2.same ((Same.refl _ w1).alloc (fun b hb => (hfr2 b hb).2) (.cells (s.turn.hd.cells (.slice B' s.turn.subs.length c2)).toArray 27))
          refine wpAnyT_last (i := 9) hcl rfl (by kernel_rfl) (by kernel_rfl) (fun hcl => ?_)
          simp only [List.getElem_toArray, List.getElem_cons_zero, List.getElem_cons_succ, Act.put, List.setIfInBounds_toArray, List.set_cons_zero, List.set_cons_succ]
          refine wpList_append_node rfl _ _ rfl (w.heap.size + 3) v ((m.take k).map T.turn) bs rfl hgA s.turn B' c2 w1.heap.size _ bs2 rfl (Blk.new _ _ _) hoA hnd2 (hfr3 _) (by rw [List.length_map, List.length_take]; omega) (by simp; omega) ?_
          intro v' w2 hgrow2 hg2
          refine wpList_nil ?_
          have hz3 := hg2.size
          rw [World.size_alloc] at hz3
          have hownb : ∀ g, v.ownBlock = some g → w.heap.size + 3 ≤ g ∧ g < wr.heap.size := by
            obtain ⟨xs, q1, _⟩ := hgrow
            exact q1.lt
          have hkeep : ∀ g, g < w.heap.size + 3 → w2.heap[g]? = wr.heap[g]? := fun g hx => by
            rw [hg2.block g (by simp; omega) (fun e => by have := (hownb g e.symm).1; omega), Below.heap_alloc _ _ _ (by omega), hbelA.block g (by omega)]
          have hbelC : Below w.heap.size w w2 := ⟨(hg2.os.trans hbelA.os).trans hbel.os, (hg2.tape.trans hbelA.tape).trans hbel.tape, (hg2.output.trans hbelA.output).trans hbel.output, by have := hbel.size; omega, fun g hx => by rw [hkeep g (by omega), hbel.block g hx]⟩
          have hb0' : Blk w2 w.heap.size _ _ := (hkeep _ (by omega)).trans hb0
          have hb1' : Blk w2 (w.heap.size + 1) _ _ := (hkeep _ (by omega)).trans hb1
          have hb2' : Blk w2 (w.heap.size + 2) _ _ := (hkeep _ (by omega)).trans hb2
          have c2' := hb2'.cell
          have f2' := hb2'.frozen
          have hgrow3 : GrowT (w.heap.size + 3) w2 v' ((m.take (k + 1)).map T.turn) (bs ++ bs2) := by
            rw [List.take_add_one, HJ.out.1]
            simpa using hgrow2
          obtain ⟨A3, c3, hv3⟩ := hgrow3.form
          rw [show ((m.take (k + 1)).map T.turn).length = k + 1 from by rw [List.length_map, List.length_take, hml.out]; omega] at hv3
          have HG := hide hgrow3
          have HB := hide (And.intro hbelC (And.intro hb0' (And.intro hb1' hb2')))
          clear hgrow3 hgrow2 hg2 hkeep hbelC hb0' hb1' hb2' hgA hoA hfr3 hownb hbelA hbelB
          subst hv3
          refine wpAnyT_last (i := 10) hcl rfl (by kernel_rfl) (by kernel_rfl) (fun hcl => ?_)
          simp only [List.getElem_toArray, List.getElem_cons_zero, List.getElem_cons_succ, Act.put, List.setIfInBounds_toArray, List.set_cons_zero, List.set_cons_succ]
          go_wp2_with fail
          refine wpAnyT_last (i := 11) hcl rfl (by kernel_rfl) (by kernel_rfl) (fun hcl => ?_)
          simp only [List.getElem_toArray, List.getElem_cons_zero, List.getElem_cons_succ, Act.put, List.setIfInBounds_toArray, List.set_cons_zero, List.set_cons_succ]
          go_wp2_with fail
          refine wpAnyT_done (by kernel_rfl) ?_ _
          go_wp2_with fail
          go_roundw
          case rel =>
            refine ⟨k + 1, _, bs ++ bs2, by go_num, by omega, HG.out.same ((Same.refl _ _).set (p := ⟨w.heap.size + 2, 5, none⟩) (fun h => by have := h.1; simp at this) _) (by simp), HB.out.1.setCell (by simp; omega) _, HB.out.2.1.far (by simp; omega) _, HB.out.2.2.1.far (by simp) _, by simpa using HB.out.2.2.2.set_ 5 (.slice A3 (k + 1) c3)⟩
          case measure => simp [intOf]; omega

      · skip
        have hke : k = m.length := by rw [hml.out]; omega
        obtain ⟨A3, c3, bs3, hv3, ho3, hnd3, hfr3⟩ := hgrow.own (Hd.turn ⟨kind, s0, s1, s2, s3, num, mn, mx, bare⟩)
        rw [hke, List.take_length] at hv3 ho3
        rw [show (m.map T.turn).length = l.length from by rw [List.length_map]; exact hml.out] at hv3
        rw [show T.mk (Hd.turn ⟨kind, s0, s1, s2, s3, num, mn, mx, bare⟩) (m.map T.turn) = T.turn (.mk ⟨kind, s0, s1, s2, s3, num, mn, mx, bare⟩ l) from by rw [HM.out]; simp only [T.turn, TL.turn_eq]; split <;> simp] at ho3
        have HO := hide ho3
        clear ho3 hgrow hke
        subst hv3
        have c1 : ∀ i : Nat, wr.cell? ⟨w.heap.size + 1, i, none⟩ = #[Value.int .i64 0, .int .u64 0, .int .u64 0, .int .u64 0, .int .u64 0, .slice none 0 0, .int .i64 0, .int .i64 0, .int .i64 0, .bool false][i]? := hb1.cell
        have f1 := hb1.frozen
        have c2 := hb2.cell
        have f2 := hb2.frozen
        clear HM
        by_cases k3 : kind = 3
        · subst k3
          go_wp2_with fail
          refine bodyPost_ret (v := .agg #[.int .i64 4, .int .u64 s0, .int .u64 s1, .int .u64 s2, .int .u64 s3, .slice A3 l.length c3, .int .i64 num, .int .i64 mn, .int .i64 mx, .bool bare])
            (by simp [results, Try.results8, go_sem, c1]) rfl ?_
          refine ⟨A3, c3, bs3, by simp [T.turn, T.hd, T.subs, Hd.turn, Hd.cells, TL.turn_eq], HO.out.same (Same.mono (ok := fun b => w.heap.size + 3 ≤ b) ?_ fun b hb => (hfr3 b hb).1), hnd3, ?_, ?_⟩
          · repeat refine Same.set ?_ (by simp; try omega) _
            exact Same.refl _ _
          · intro b hb
            simp only [World.size_setCell]
            have := hfr3 b hb; omega
          · repeat refine Below.setCell ?_ (by simp; try omega) _
            exact hbel
        by_cases k4 : kind = 4
        · subst k4
          go_wp2_with fail
          refine bodyPost_ret (v := .agg #[.int .i64 3, .int .u64 s0, .int .u64 s1, .int .u64 s2, .int .u64 s3, .slice A3 l.length c3, .int .i64 num, .int .i64 mn, .int .i64 mx, .bool bare])
            (by simp [results, Try.results8, go_sem, c1]) rfl ?_
          refine ⟨A3, c3, bs3, by simp [T.turn, T.hd, T.subs, Hd.turn, Hd.cells, TL.turn_eq], HO.out.same (Same.mono (ok := fun b => w.heap.size + 3 ≤ b) ?_ fun b hb => (hfr3 b hb).1), hnd3, ?_, ?_⟩
          · repeat refine Same.set ?_ (by simp; try omega) _
            exact Same.refl _ _
          · intro b hb
            simp only [World.size_setCell]
            have := hfr3 b hb; omega
          · repeat refine Below.setCell ?_ (by simp; try omega) _
            exact hbel
        have e3 : (kind == 3) = false := by simp [k3]
        have e4 : (kind == 4) = false := by simp [k4]
        go_wp2_with fail
        refine bodyPost_ret (v := .agg #[.int .i64 kind, .int .u64 s0, .int .u64 s1, .int .u64 s2, .int .u64 s3, .slice A3 l.length c3, .int .i64 num, .int .i64 mn, .int .i64 mx, .bool bare])
          (by simp [results, Try.results8, go_sem, c1]) rfl ?_
        refine ⟨A3, c3, bs3, by simp [T.turn, T.hd, T.subs, Hd.turn, Hd.cells, TL.turn_eq, k3, k4]; split <;> simp, HO.out.same (Same.mono (ok := fun b => w.heap.size + 3 ≤ b) ?_ fun b hb => (hfr3 b hb).1), hnd3, ?_, ?_⟩
        · repeat refine Same.set ?_ (by simp; try omega) _
          exact Same.refl _ _
        · intro b hb
          simp only [World.size_setCell]
          have := hfr3 b hb; omega
        · repeat refine Below.setCell ?_ (by simp; try omega) _
          exact hbel
end Go.Proofs.Ytbiamlinoldnlaa
