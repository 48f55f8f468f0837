/- trawlref14.Of of a tree without repeats: the same tree. (Printed by gen_refexp.py.) -/
import Derived.Test.YtlomjepemnlliaaDoorTurns
import Derived.Deep.DeepCutAuto
set_option linter.unusedSimpArgs false
set_option linter.unusedVariables false
set_option linter.unnecessarySimpa false
namespace Go.Proofs.YtlomjepemnlliaaDoor
open Go.RowKit

mutual
/-- Without repeats. -/
def T.norep : T → Prop
  | .mk h l => h.kind ≠ 8 ∧ TL.norep l
def TL.norep : List T → Prop
  | [] => True
  | t :: l => t.norep ∧ TL.norep l
end
theorem TL.norep_mem : ∀ {l : List T}, TL.norep l → ∀ t ∈ l, t.norep
  | t :: l, h, s, hs => by
    rcases List.mem_cons.1 hs with e | e
    · subst e; exact h.1
    · exact TL.norep_mem h.2 s e

set_option maxRecDepth 100000 in
set_option maxHeartbeats 2000000 in
theorem refExp_any (M : Nat) : ∀ (t : T) (A : Option Addr) (c : Nat) (w : World), t.nodes ≤ M → M ≤ 1000000 → t.norep → T.In w (· < w.heap.size) t A →
    Calls Tryd.prog 65 #[.agg (t.hd.cells (.slice A t.subs.length c)).toArray] w (Fresh t w) := by
  induction M with
  | zero => intro t A c w h; have := t.nodes_pos; omega
  | succ M ih =>
    intro t A c w hM hM2 hnr hin
    obtain ⟨h, l⟩ := t
    obtain ⟨kind, s0, s1, s2, s3, num, mn, mx, bare⟩ := h
    have hlen := T.length_lt (T.mk ⟨kind, s0, s1, s2, s3, num, mn, mx, bare⟩ l)
    simp only [T.nodes] at hM
    simp only [T.norep] at hnr
    obtain ⟨hk8, hnl⟩ := hnr
    have HNL := hide hnl
    clear hnl
    have e8 : (kind != 8) = true := bne_iff_ne.2 hk8
    simp only [T.nodes, T.hd, T.subs, Hd.cells] at hlen ⊢
    have hlI : (l.length : Int) ≤ 1000000 := by omega
    go_enter Tryd.func65, Tryd.ntmps65
    go_wp2_with fail
    go_loopw [4] (fun kv wr => ∃ (k : Nat) (v : Value) (bs : List Nat), kv = .int .i64 k ∧ k ≤ l.length ∧ GrowT (w.heap.size + 3) wr v (l.take k) bs ∧ Below w.heap.size w wr ∧
        Blk wr w.heap.size 52 #[.int .i64 kind, .int .u64 s0, .int .u64 s1, .int .u64 s2, .int .u64 s3, .slice A l.length c, .int .i64 num, .int .i64 mn, .int .i64 mx, .bool bare] ∧
        Blk wr (w.heap.size + 1) 52 zeroCells ∧ Blk wr (w.heap.size + 2) 52 #[.int .i64 kind, .int .u64 s0, .int .u64 s1, .int .u64 s2, .int .u64 s3, v, .int .i64 num, .int .i64 mn, .int .i64 mx, .bool bare]) (fun kv _ => l.length - (intOf kv).toNat)
    case atStart =>
      refine ⟨0, .slice none 0 0, [], rfl, Nat.zero_le _, by simpa using GrowT.nil _ _, (((Below.refl _ _).alloc (Nat.le_refl _) _).alloc (by simp) _).alloc (by simp; omega) _, ((Blk.new _ _ _).alloc _).alloc _, ?_, ?_⟩
      · have := (Blk.new (w.alloc (.cells #[.int .i64 kind, .int .u64 s0, .int .u64 s1, .int .u64 s2, .int .u64 s3, .slice A l.length c, .int .i64 num, .int .i64 mn, .int .i64 mx, .bool bare] 52)) 52 zeroCells)
        rw [World.size_alloc] at this
        exact this.alloc _
      · simpa using Blk.new ((w.alloc _).alloc _) 52 _
    case round =>
      obtain ⟨k, v, bs, rfl, hk, hgrow, hbel, hb0, hb1, hb2⟩ := hrel
      have z0 := hb0.lt
      have z1 := hb1.lt
      have z2 := hb2.lt
      have c0 := hb0.cell
      by_cases hlt : k < l.length
      · have g1 : decide ((k : Int) < (l.length : Int)) = true := decide_eq_true (by omega)
        have hs := List.getElem?_eq_getElem hlt
        obtain ⟨b, o, B, c', rfl, hbk, hcs, hsub⟩ := TL.In.at_ (T.In_iff.1 hin) hs
        have hsn := TL.nodes_mem (List.getElem_mem hlt)
        have HNS := hide (TL.norep_mem HNL.out _ (List.getElem_mem hlt))
        generalize l[k] = s at *
        have hcs' := hcs.same (same_of_below hbel) hbk
        have hsub' := fun (x : World) (hx : Below wr.heap.size wr x) => hsub.same (ok' := (· < x.heap.size)) ((same_of_below hbel).trans ((same_of_below hx).mono fun b hb => Nat.lt_of_lt_of_le hb hbel.size)) (fun y hy => Nat.lt_of_lt_of_le hy (Nat.le_trans hbel.size hx.size))
        have HJ := hide hs
        have HK := hide hcs'
        have HU := hide hsub'
        clear hs hcs hcs' hsub' hsub
        go_upto_region 7 with fail
        refine wp_region_mix (fun x => Below wr.heap.size wr x) [9, 10, 11] (by kernel_rfl) (fun hcl => ?_)
        have hS : Below wr.heap.size wr wr.drew := (Below.refl _ _).drew
        clear c0
        refine wpAnyT_free (i := 0) hcl rfl (by kernel_rfl) (v := ?_) (fun _ _ _ h => h) hS (Or.inl ⟨rfl, fun w' _ => ?_⟩) (fun hcl => ?_)
        rotate_left
        · go_simp
          with_reducible rfl
        simp only [List.getElem_toArray, List.getElem_cons_zero, List.getElem_cons_succ, Act.put, List.setIfInBounds_toArray, List.set_cons_zero, List.set_cons_succ]
        refine wpAnyT_take (i := 1) hcl rfl (by kernel_rfl) (v := ?_) (fun _ _ _ h => h) hS (Or.inl ⟨rfl, fun w' hS => ?_⟩) (fun hcl => ?_)
        rotate_left
        · skip
          have c2 := (hb2.below hS z2).cell
          go_simp
          with_reducible rfl
        simp only [List.getElem_toArray, List.getElem_cons_zero, List.getElem_cons_succ, Act.put, List.setIfInBounds_toArray, List.set_cons_zero, List.set_cons_succ]
        refine wpAnyT_free (i := 2) hcl rfl (by kernel_rfl) (v := ?_) (fun _ _ _ h => h) hS (Or.inl ⟨rfl, fun w' _ => ?_⟩) (fun hcl => ?_)
        rotate_left
        · go_simp
          with_reducible rfl
        simp only [List.getElem_toArray, List.getElem_cons_zero, List.getElem_cons_succ, Act.put, List.setIfInBounds_toArray, List.set_cons_zero, List.set_cons_succ]
        refine wpAnyT_take (i := 3) hcl rfl (by kernel_rfl) (v := ?_) (fun _ _ _ h => h) hS (Or.inl ⟨rfl, fun w' hS => ?_⟩) (fun hcl => ?_)
        rotate_left
        · skip
          have c0 := (hb0.below hS z0).cell
          go_simp
          with_reducible rfl
        simp only [List.getElem_toArray, List.getElem_cons_zero, List.getElem_cons_succ, Act.put, List.setIfInBounds_toArray, List.set_cons_zero, List.set_cons_succ]
        refine wpAnyT_free (i := 4) hcl rfl (by kernel_rfl) (v := ?_) (fun _ _ _ h => h) hS (Or.inl ⟨rfl, fun w' _ => ?_⟩) (fun hcl => ?_)
        rotate_left
        · go_simp
          with_reducible rfl
        simp only [List.getElem_toArray, List.getElem_cons_zero, List.getElem_cons_succ, Act.put, List.setIfInBounds_toArray, List.set_cons_zero, List.set_cons_succ]
        refine wpAnyT_free (i := 5) hcl rfl (by kernel_rfl) (v := ?_) (fun _ _ _ h => h) hS (Or.inl ⟨rfl, fun w' _ => ?_⟩) (fun hcl => ?_)
        rotate_left
        · go_simp
          with_reducible rfl
        simp only [List.getElem_toArray, List.getElem_cons_zero, List.getElem_cons_succ, Act.put, List.setIfInBounds_toArray, List.set_cons_zero, List.set_cons_succ]
        refine wpAnyT_take (i := 6) hcl rfl (by kernel_rfl) (fun _ _ _ h => h) hS (Or.inl ⟨rfl, fun w' hS => run_load_cells _ _ rfl ⟨b, o + k * 10, none⟩ rfl (s.hd.cells (.slice B s.subs.length c')) _ Tryd.underlying52 rfl Tryd.sizeNode (HK.out.same (same_of_below hS) (Nat.lt_of_lt_of_le hbk hbel.size))⟩) (fun hcl => ?_)
        simp only [List.getElem_toArray, List.getElem_cons_zero, List.getElem_cons_succ, Act.put, List.setIfInBounds_toArray, List.set_cons_zero, List.set_cons_succ]
        refine wpAnyT_step (i := 7) hcl rfl (by kernel_rfl) (fun hcl => ?_)
        simp only [List.getElem_toArray, List.getElem_cons_zero, List.getElem_cons_succ, Act.put, List.setIfInBounds_toArray, List.set_cons_zero, List.set_cons_succ]
        go_wp2_with fail
        refine (ih s B c' _ (by omega) (by omega) HNS.out (HU.out _ hS)).mono ?_
        rintro e w1 ⟨B', c2, bs2, rfl, hown2, hnd2, hfr2, hbel2⟩
        have hbelA : Below wr.heap.size wr w1 := hS.trans hbel2
        have hz2 := hbel2.size
        simp only [World.size_drew] at hfr2 hz2
        clear hbel2 hS
        simp only [Hd.cells]
        go_wp2_with fail
        refine ⟨hbelA, ?_⟩
        refine wpAnyT_step (i := 8) hcl rfl (by kernel_rfl) (fun hcl => ?_)
        simp only [List.getElem_toArray, List.getElem_cons_zero, List.getElem_cons_succ, Act.put, List.setIfInBounds_toArray, List.set_cons_zero, List.set_cons_succ]
        go_wp2_with fail
        have hbelB := hbelA.alloc hbelA.size (.cells (s.hd.cells (.slice B' s.subs.length c2)).toArray 52)
        simp only [Hd.cells] at hbelB
        refine ⟨hbelB, ?_⟩
        have hfr3 : ∀ (X : Obj), ∀ b ∈ bs2, w.heap.size + 3 ≤ b ∧ b < (w1.alloc X).heap.size ∧ some b ≠ v.ownBlock ∧ b ∉ bs := fun X b hb => by
          obtain ⟨xs, q1, q2, q3, q4⟩ := hgrow
          refine ⟨?_, ?_, ?_, ?_⟩
          · have := (hfr2 b hb).1; omega
          · have := (hfr2 b hb).2; simp; omega
          · intro e
            have := (q1.lt b e.symm).2
            have := (hfr2 b hb).1
            omega
          · intro e
            have := (q4 b e).2.1
            have := (hfr2 b hb).1
            omega
        have hgA := (hgrow.below hbelA).below ((Below.refl _ _).alloc (Nat.le_refl _) (.cells (s.hd.cells (.slice B' s.subs.length c2)).toArray 52))
        have hoA := hown2.same ((Same.refl _ w1).alloc (fun b hb => (hfr2 b hb).2) (.cells (s.hd.cells (.slice B' s.subs.length c2)).toArray 52))
        refine wpAnyT_last (i := 9) hcl rfl (by kernel_rfl) (by kernel_rfl) (fun hcl => ?_)
        simp only [List.getElem_toArray, List.getElem_cons_zero, List.getElem_cons_succ, Act.put, List.setIfInBounds_toArray, List.set_cons_zero, List.set_cons_succ]
        refine wpList_append_node rfl _ _ rfl (w.heap.size + 3) v (l.take k) bs rfl hgA s B' c2 w1.heap.size _ bs2 rfl (Blk.new _ _ _) hoA hnd2 (hfr3 _) (by rw [List.length_take]; omega) (by simp; omega) ?_
        intro v' w2 hgrow2 hg2
        refine wpList_nil ?_
        have hz3 := hg2.size
        rw [World.size_alloc] at hz3
        have hownb : ∀ g, v.ownBlock = some g → w.heap.size + 3 ≤ g ∧ g < wr.heap.size := by
          obtain ⟨xs, q1, _⟩ := hgrow
          exact q1.lt
        have hkeep : ∀ g, g < w.heap.size + 3 → w2.heap[g]? = wr.heap[g]? := fun g hx => by
          rw [hg2.block g (by simp; omega) (fun e => by have := (hownb g e.symm).1; omega), Below.heap_alloc _ _ _ (by omega), hbelA.block g (by omega)]
        have hbelC : Below w.heap.size w w2 := ⟨(hg2.os.trans hbelA.os).trans hbel.os, (hg2.tape.trans hbelA.tape).trans hbel.tape, (hg2.output.trans hbelA.output).trans hbel.output, by have := hbel.size; omega, fun g hx => by rw [hkeep g (by omega), hbel.block g hx]⟩
        have hb0' : Blk w2 w.heap.size _ _ := (hkeep _ (by omega)).trans hb0
        have hb1' : Blk w2 (w.heap.size + 1) _ _ := (hkeep _ (by omega)).trans hb1
        have hb2' : Blk w2 (w.heap.size + 2) _ _ := (hkeep _ (by omega)).trans hb2
        have c2' := hb2'.cell
        have f2' := hb2'.frozen
        have hgrow3 : GrowT (w.heap.size + 3) w2 v' (l.take (k + 1)) (bs ++ bs2) := by
          rw [List.take_add_one, HJ.out]
          simpa using hgrow2
        obtain ⟨A3, c3, hv3⟩ := hgrow3.form
        rw [show (l.take (k + 1)).length = k + 1 from by rw [List.length_take]; omega] at hv3
        have HG := hide hgrow3
        have HB := hide (And.intro hbelC (And.intro hb0' (And.intro hb1' hb2')))
        clear hgrow3 hgrow2 hg2 hkeep hbelC hb0' hb1' hb2' hgA hoA hfr3 hownb hbelA hbelB
        subst hv3
        refine wpAnyT_last (i := 10) hcl rfl (by kernel_rfl) (by kernel_rfl) (fun hcl => ?_)
        simp only [List.getElem_toArray, List.getElem_cons_zero, List.getElem_cons_succ, Act.put, List.setIfInBounds_toArray, List.set_cons_zero, List.set_cons_succ]
        go_wp2_with fail
        refine wpAnyT_last (i := 11) hcl rfl (by kernel_rfl) (by kernel_rfl) (fun hcl => ?_)
        simp only [List.getElem_toArray, List.getElem_cons_zero, List.getElem_cons_succ, Act.put, List.setIfInBounds_toArray, List.set_cons_zero, List.set_cons_succ]
        go_wp2_with fail
        refine wpAnyT_done (by kernel_rfl) ?_ _
        go_wp2_with fail
        go_roundw
        case rel =>
          refine ⟨k + 1, _, bs ++ bs2, by go_num, by omega, HG.out.same ((Same.refl _ _).set (p := ⟨w.heap.size + 2, 5, none⟩) (fun h => by have := h.1; simp at this) _) (by simp), HB.out.1.setCell (by simp; omega) _, HB.out.2.1.far (by simp; omega) _, HB.out.2.2.1.far (by simp) _, by simpa using HB.out.2.2.2.set_ 5 (.slice A3 (k + 1) c3)⟩
        case measure => simp [intOf]; omega
      · have g1 : decide ((k : Int) < (l.length : Int)) = false := decide_eq_false (by omega)
        have hke : k = l.length := by omega
        obtain ⟨A3, c3, bs3, hv3, ho3, hnd3, hfr3⟩ := hgrow.own ⟨kind, s0, s1, s2, s3, num, mn, mx, bare⟩
        rw [hke, List.take_length] at hv3 ho3
        have HO := hide ho3
        clear ho3 hgrow hke
        subst hv3
        have c1 : ∀ i : Nat, wr.cell? ⟨w.heap.size + 1, i, none⟩ = #[Value.int .i64 0, .int .u64 0, .int .u64 0, .int .u64 0, .int .u64 0, .slice none 0 0, .int .i64 0, .int .i64 0, .int .i64 0, .bool false][i]? := hb1.cell
        have f1 := hb1.frozen
        have c2 := hb2.cell
        have f2 := hb2.frozen
        go_wp2_with fail
        refine bodyPost_ret (v := .agg #[.int .i64 kind, .int .u64 s0, .int .u64 s1, .int .u64 s2, .int .u64 s3, .slice A3 l.length c3, .int .i64 num, .int .i64 mn, .int .i64 mx, .bool bare])
          (by simp [results, Tryd.results65, go_sem, c1]) rfl ?_
        refine ⟨A3, c3, bs3, by simp [T.hd, T.subs, Hd.cells], HO.out.same (Same.mono (ok := fun b => w.heap.size + 3 ≤ b) ?_ fun b hb => (hfr3 b hb).1), hnd3, ?_, ?_⟩
        · repeat refine Same.set ?_ (by simp; try omega) _
          exact Same.refl _ _
        · intro b hb
          simp only [World.size_setCell]
          have := hfr3 b hb; omega
        · repeat refine Below.setCell ?_ (by simp; try omega) _
          exact hbel
end Go.Proofs.YtlomjepemnlliaaDoor
