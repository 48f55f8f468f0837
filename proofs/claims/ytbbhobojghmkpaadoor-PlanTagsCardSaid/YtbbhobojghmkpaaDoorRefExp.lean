/- trawlref14.Of of a right tree: its expansion. (Printed by gen_refexp14.py.) -/
import Derived.Test.YtbbhobojghmkpaaDoorTurns
import Derived.Test.YtbbhobojghmkpaaDoorExpand
import Derived.Deep.DeepCutAuto
set_option linter.unusedSimpArgs false
set_option linter.unusedVariables false
set_option linter.unnecessarySimpa false
namespace Go.Proofs.YtbbhobojghmkpaaDoor
open Go.RowKit

/-- A contract of trawlref14.Of, for one tree. -/
def RefC (t : T) : Prop := ∀ (A : Option Addr) (c : Nat) (w : World), T.In w (· < w.heap.size) t A → Calls Tryd.prog 93 #[.agg (t.hd.cells (.slice A t.subs.length c)).toArray] w (NewTree t.exp w)

/-- What optional answers: a repeat of the node, which lies in a block of its own. -/
def OptPost (mx : Int) (b : Bool) (cs : Array Value) (w : World) (e : Ending) (w' : World) : Prop := ∃ g, e = .returned (.agg #[.int .i64 8, .int .u64 0, .int .u64 0, .int .u64 0, .int .u64 0, .slice (some ⟨g, 0, none⟩) 1 1, .int .i64 0, .int .i64 0, .int .i64 mx, .bool b]) ∧ Blk w' g 27 cs ∧ w.heap.size ≤ g ∧ g < w'.heap.size ∧ Below w.heap.size w w'
theorem optional_any (mx : Int) (b : Bool) (x : T) (B2 : Option Addr) (c2 : Nat) (w : World) : Calls Tryd.prog 116 #[.agg #[.int .i64 x.hd.kind, .int .u64 x.hd.s0, .int .u64 x.hd.s1, .int .u64 x.hd.s2, .int .u64 x.hd.s3, .slice B2 x.subs.length c2, .int .i64 x.hd.num, .int .i64 x.hd.min, .int .i64 x.hd.max, .bool x.hd.bare], .int .i64 mx, .bool b] w (OptPost mx b #[.int .i64 x.hd.kind, .int .u64 x.hd.s0, .int .u64 x.hd.s1, .int .u64 x.hd.s2, .int .u64 x.hd.s3, .slice B2 x.subs.length c2, .int .i64 x.hd.num, .int .i64 x.hd.min, .int .i64 x.hd.max, .bool x.hd.bare] w) := by
  have hb := (((Below.refl w.heap.size w).alloc (Nat.le_refl _) (.cells #[.int .i64 x.hd.kind, .int .u64 x.hd.s0, .int .u64 x.hd.s1, .int .u64 x.hd.s2, .int .u64 x.hd.s3, .slice B2 x.subs.length c2, .int .i64 x.hd.num, .int .i64 x.hd.min, .int .i64 x.hd.max, .bool x.hd.bare] 27)).alloc (by simp) (.cells #[.int .i64 0, .int .u64 0, .int .u64 0, .int .u64 0, .int .u64 0, .slice none 0 0, .int .i64 0, .int .i64 0, .int .i64 0, .bool false] 27)).alloc (by simp; omega) (.cells #[.int .i64 x.hd.kind, .int .u64 x.hd.s0, .int .u64 x.hd.s1, .int .u64 x.hd.s2, .int .u64 x.hd.s3, .slice B2 x.subs.length c2, .int .i64 x.hd.num, .int .i64 x.hd.min, .int .i64 x.hd.max, .bool x.hd.bare] 27)
  have h1 := (Blk.new w 27 #[.int .i64 x.hd.kind, .int .u64 x.hd.s0, .int .u64 x.hd.s1, .int .u64 x.hd.s2, .int .u64 x.hd.s3, .slice B2 x.subs.length c2, .int .i64 x.hd.num, .int .i64 x.hd.min, .int .i64 x.hd.max, .bool x.hd.bare]).alloc (.cells #[.int .i64 0, .int .u64 0, .int .u64 0, .int .u64 0, .int .u64 0, .slice none 0 0, .int .i64 0, .int .i64 0, .int .i64 0, .bool false] 27)
  have h2 := (Blk.new (w.alloc (.cells #[.int .i64 x.hd.kind, .int .u64 x.hd.s0, .int .u64 x.hd.s1, .int .u64 x.hd.s2, .int .u64 x.hd.s3, .slice B2 x.subs.length c2, .int .i64 x.hd.num, .int .i64 x.hd.min, .int .i64 x.hd.max, .bool x.hd.bare] 27)) 27 #[.int .i64 0, .int .u64 0, .int .u64 0, .int .u64 0, .int .u64 0, .slice none 0 0, .int .i64 0, .int .i64 0, .int .i64 0, .bool false]).alloc (.cells #[.int .i64 x.hd.kind, .int .u64 x.hd.s0, .int .u64 x.hd.s1, .int .u64 x.hd.s2, .int .u64 x.hd.s3, .slice B2 x.subs.length c2, .int .i64 x.hd.num, .int .i64 x.hd.min, .int .i64 x.hd.max, .bool x.hd.bare] 27)
  have h3 := Blk.new ((w.alloc (.cells #[.int .i64 x.hd.kind, .int .u64 x.hd.s0, .int .u64 x.hd.s1, .int .u64 x.hd.s2, .int .u64 x.hd.s3, .slice B2 x.subs.length c2, .int .i64 x.hd.num, .int .i64 x.hd.min, .int .i64 x.hd.max, .bool x.hd.bare] 27)).alloc (.cells #[.int .i64 0, .int .u64 0, .int .u64 0, .int .u64 0, .int .u64 0, .slice none 0 0, .int .i64 0, .int .i64 0, .int .i64 0, .bool false] 27)) 27 #[.int .i64 x.hd.kind, .int .u64 x.hd.s0, .int .u64 x.hd.s1, .int .u64 x.hd.s2, .int .u64 x.hd.s3, .slice B2 x.subs.length c2, .int .i64 x.hd.num, .int .i64 x.hd.min, .int .i64 x.hd.max, .bool x.hd.bare]
  rw [World.size_alloc, World.size_alloc] at h3
  rw [World.size_alloc] at h2
  have hsz : w.heap.size + 2 < (((w.alloc (.cells #[.int .i64 x.hd.kind, .int .u64 x.hd.s0, .int .u64 x.hd.s1, .int .u64 x.hd.s2, .int .u64 x.hd.s3, .slice B2 x.subs.length c2, .int .i64 x.hd.num, .int .i64 x.hd.min, .int .i64 x.hd.max, .bool x.hd.bare] 27)).alloc (.cells #[.int .i64 0, .int .u64 0, .int .u64 0, .int .u64 0, .int .u64 0, .slice none 0 0, .int .i64 0, .int .i64 0, .int .i64 0, .bool false] 27)).alloc (.cells #[.int .i64 x.hd.kind, .int .u64 x.hd.s0, .int .u64 x.hd.s1, .int .u64 x.hd.s2, .int .u64 x.hd.s3, .slice B2 x.subs.length c2, .int .i64 x.hd.num, .int .i64 x.hd.min, .int .i64 x.hd.max, .bool x.hd.bare] 27)).heap.size := by simp
  have H := hide (And.intro hb (And.intro h2 h3))
  have c0 := h1.cell
  clear hb h2 h3 h1
  go_enter Tryd.func116, Tryd.ntmps116
  go_wp2_with (refine wpList_store_row rfl _ _ _ rfl (w.heap.size + 1) 0 _ _ _ rfl rfl H.out.2.1 Tryd.sizeNode (by simp) (by simp [Value.oneCell']) ?_)
  intro w9 hrow2 hg9 hz9
  have hrow := hrow2.out
  rw [splice_full (by rfl)] at hrow
  have HF := hide (And.intro hrow (And.intro (H.out.2.2.grown hg9 (fun e => by have := Option.some.inj e; omega)) (below_grew H.out.1 hg9 (Nat.le_refl _) (fun q hq => by rw [← Option.some.inj hq]; omega))))
  have hz := hg9.size
  clear hrow hrow2 hg9 hz9 c0
  go_wp2_with fail
  refine bodyPost_ret (results_cell_row rfl _ _ (w.heap.size + 1) _ _ (0, 0) _ rfl HF.out.1 Tryd.underlying27 rfl Tryd.sizeNode) rfl ?_
  exact ⟨w.heap.size + 2, by rfl, HF.out.2.1, by omega, by omega, HF.out.2.2⟩

set_option maxRecDepth 100000 in
set_option maxHeartbeats 4000000 in
theorem refNode_any (kind s0 s1 s2 s3 num mn mx : Int) (bare : Bool) (l : List T) (h8 : kind ≠ 8) (hll : l.length ≤ 900000) (ih : ∀ t ∈ l, RefC t) : RefC (.mk ⟨kind, s0, s1, s2, s3, num, mn, mx, bare⟩ l) := by
  intro A c w hin
  have e8 : (kind != 8) = true := bne_iff_ne.2 h8
  have HE := hide (show (T.mk ⟨kind, s0, s1, s2, s3, num, mn, mx, bare⟩ l).exp = .mk ⟨kind, s0, s1, s2, s3, num, mn, mx, bare⟩ (TL.exp l) by simp only [T.exp, if_neg h8])
  have hlI : (l.length : Int) ≤ 1000000 := by omega
  simp only [T.hd, T.subs, Hd.cells]
  go_enter Tryd.func93, Tryd.ntmps93
  go_wp2_with fail
  go_loopw [4] (fun kv wr => ∃ (k : Nat) (v : Value), kv = .int .i64 k ∧ k ≤ l.length ∧ GrowR (w.heap.size + 3) wr v (TL.exp (l.take k)) ∧ Below w.heap.size w wr ∧
      Blk wr w.heap.size 27 #[.int .i64 kind, .int .u64 s0, .int .u64 s1, .int .u64 s2, .int .u64 s3, .slice A l.length c, .int .i64 num, .int .i64 mn, .int .i64 mx, .bool bare] ∧
      Blk wr (w.heap.size + 1) 27 zeroCells ∧ Blk wr (w.heap.size + 2) 27 #[.int .i64 kind, .int .u64 s0, .int .u64 s1, .int .u64 s2, .int .u64 s3, v, .int .i64 num, .int .i64 mn, .int .i64 mx, .bool bare]) (fun kv _ => l.length - (intOf kv).toNat)
  case atStart =>
    refine ⟨0, .slice none 0 0, rfl, Nat.zero_le _, GrowR.nil _ _, (((Below.refl _ _).alloc (Nat.le_refl _) _).alloc (by simp) _).alloc (by simp; omega) _, ((Blk.new _ _ _).alloc _).alloc _, ?_, ?_⟩
    · have := (Blk.new (w.alloc (.cells #[.int .i64 kind, .int .u64 s0, .int .u64 s1, .int .u64 s2, .int .u64 s3, .slice A l.length c, .int .i64 num, .int .i64 mn, .int .i64 mx, .bool bare] 27)) 27 zeroCells)
      rw [World.size_alloc] at this
      exact this.alloc _
    · simpa using Blk.new ((w.alloc _).alloc _) 27 _
  case round =>
    obtain ⟨k, v, rfl, hk, hgrow, hbel, hb0, hb1, hb2⟩ := hrel
    have z0 := hb0.lt
    have z1 := hb1.lt
    have z2 := hb2.lt
    have c0 := hb0.cell
    by_cases hlt : k < l.length
    · have g1 : decide ((k : Int) < (l.length : Int)) = true := decide_eq_true (by omega)
      have hs := List.getElem?_eq_getElem hlt
      obtain ⟨b, o, B, c', rfl, hbk, hcs, hsub⟩ := TL.In.at_ (T.In_iff.1 hin) hs
      have hmem := List.getElem_mem hlt
      generalize l[k] = s at *
      have hcs' := hcs.same (same_of_below hbel) hbk
      have hsub' := fun (x : World) (hx : Below wr.heap.size wr x) => hsub.same (ok' := (· < x.heap.size)) ((same_of_below hbel).trans ((same_of_below hx).mono fun b hb => Nat.lt_of_lt_of_le hb hbel.size)) (fun y hy => Nat.lt_of_lt_of_le hy (Nat.le_trans hbel.size hx.size))
      have HJ := hide hs
      have HK := hide hcs'
      have HU := hide hsub'
      clear hs hcs hcs' hsub' hsub
      go_upto_region 7 with fail
      refine wp_region_mix (fun x => Below wr.heap.size wr x) [9, 10, 11] (by kernel_rfl) (fun hcl => ?_)
      have hS : Below wr.heap.size wr wr.drew := (Below.refl _ _).drew
      clear c0
      refine wpAnyT_free (i := 0) hcl rfl (by kernel_rfl) (v := ?_) (fun _ _ _ h => h) hS (Or.inl ⟨rfl, fun w' _ => ?_⟩) (fun hcl => ?_)
      rotate_left
      · go_simp
        with_reducible rfl
      simp only [List.getElem_toArray, List.getElem_cons_zero, List.getElem_cons_succ, Act.put, List.setIfInBounds_toArray, List.set_cons_zero, List.set_cons_succ]
      refine wpAnyT_take (i := 1) hcl rfl (by kernel_rfl) (v := ?_) (fun _ _ _ h => h) hS (Or.inl ⟨rfl, fun w' hS => ?_⟩) (fun hcl => ?_)
      rotate_left
      · skip
        have c2 := (hb2.below hS z2).cell
        go_simp
        with_reducible rfl
      simp only [List.getElem_toArray, List.getElem_cons_zero, List.getElem_cons_succ, Act.put, List.setIfInBounds_toArray, List.set_cons_zero, List.set_cons_succ]
      refine wpAnyT_free (i := 2) hcl rfl (by kernel_rfl) (v := ?_) (fun _ _ _ h => h) hS (Or.inl ⟨rfl, fun w' _ => ?_⟩) (fun hcl => ?_)
      rotate_left
      · go_simp
        with_reducible rfl
      simp only [List.getElem_toArray, List.getElem_cons_zero, List.getElem_cons_succ, Act.put, List.setIfInBounds_toArray, List.set_cons_zero, List.set_cons_succ]
      refine wpAnyT_take (i := 3) hcl rfl (by kernel_rfl) (v := ?_) (fun _ _ _ h => h) hS (Or.inl ⟨rfl, fun w' hS => ?_⟩) (fun hcl => ?_)
      rotate_left
      · skip
        have c0 := (hb0.below hS z0).cell
        go_simp
        with_reducible rfl
      simp only [List.getElem_toArray, List.getElem_cons_zero, List.getElem_cons_succ, Act.put, List.setIfInBounds_toArray, List.set_cons_zero, List.set_cons_succ]
      refine wpAnyT_free (i := 4) hcl rfl (by kernel_rfl) (v := ?_) (fun _ _ _ h => h) hS (Or.inl ⟨rfl, fun w' _ => ?_⟩) (fun hcl => ?_)
      rotate_left
      · go_simp
        with_reducible rfl
      simp only [List.getElem_toArray, List.getElem_cons_zero, List.getElem_cons_succ, Act.put, List.setIfInBounds_toArray, List.set_cons_zero, List.set_cons_succ]
      refine wpAnyT_free (i := 5) hcl rfl (by kernel_rfl) (v := ?_) (fun _ _ _ h => h) hS (Or.inl ⟨rfl, fun w' _ => ?_⟩) (fun hcl => ?_)
      rotate_left
      · go_simp
        with_reducible rfl
      simp only [List.getElem_toArray, List.getElem_cons_zero, List.getElem_cons_succ, Act.put, List.setIfInBounds_toArray, List.set_cons_zero, List.set_cons_succ]
      refine wpAnyT_take (i := 6) hcl rfl (by kernel_rfl) (fun _ _ _ h => h) hS (Or.inl ⟨rfl, fun w' hS => run_load_cells _ _ rfl ⟨b, o + k * 10, none⟩ rfl (s.hd.cells (.slice B s.subs.length c')) _ Tryd.underlying27 rfl Tryd.sizeNode (HK.out.same (same_of_below hS) (Nat.lt_of_lt_of_le hbk hbel.size))⟩) (fun hcl => ?_)
      simp only [List.getElem_toArray, List.getElem_cons_zero, List.getElem_cons_succ, Act.put, List.setIfInBounds_toArray, List.set_cons_zero, List.set_cons_succ]
      refine wpAnyT_step (i := 7) hcl rfl (by kernel_rfl) (fun hcl => ?_)
      simp only [List.getElem_toArray, List.getElem_cons_zero, List.getElem_cons_succ, Act.put, List.setIfInBounds_toArray, List.set_cons_zero, List.set_cons_succ]
      go_wp2_with fail
      refine (ih s hmem B c' _ (HU.out _ hS)).mono ?_
      rintro e w1 ⟨B', c2, rfl, hin2, hbel2⟩
      have hbelA : Below wr.heap.size wr w1 := hS.trans hbel2
      have hz2 := hbel2.size
      simp only [World.size_drew] at hin2 hz2
      clear hbel2 hS
      simp only [Hd.cells]
      go_wp2_with fail
      refine ⟨hbelA, ?_⟩
      refine wpAnyT_step (i := 8) hcl rfl (by kernel_rfl) (fun hcl => ?_)
      simp only [List.getElem_toArray, List.getElem_cons_zero, List.getElem_cons_succ, Act.put, List.setIfInBounds_toArray, List.set_cons_zero, List.set_cons_succ]
      go_wp2_with fail
      have hbelB := hbelA.alloc hbelA.size (.cells (s.exp.hd.cells (.slice B' s.exp.subs.length c2)).toArray 27)
      simp only [Hd.cells] at hbelB
      refine ⟨hbelB, ?_⟩
      have hlow := hgrow.lt
      have hgA := (hgrow.below hbelA).below ((Below.refl _ _).alloc (Nat.le_refl _) (.cells (s.exp.hd.cells (.slice B' s.exp.subs.length c2)).toArray 27))
      have hal2 := (Below.refl w1.heap.size w1).alloc (Nat.le_refl _) (.cells (s.exp.hd.cells (.slice B' s.exp.subs.length c2)).toArray 27)
      have hin3 := hide (hin2.same (ok' := fun b => w.heap.size + 3 ≤ b ∧ b < (w1.alloc (.cells (s.exp.hd.cells (.slice B' s.exp.subs.length c2)).toArray 27)).heap.size ∧ some b ≠ v.ownBlock) ((same_of_below hal2).mono fun b hb => hb.2) (fun b hb => ⟨by have := hb.1; omega, by have := hb.2; simp; omega, fun e => by have := (hlow b e.symm).2; have := hb.1; omega⟩))
      clear hal2
      refine wpAnyT_last (i := 9) hcl rfl (by kernel_rfl) (by kernel_rfl) (fun hcl => ?_)
      simp only [List.getElem_toArray, List.getElem_cons_zero, List.getElem_cons_succ, Act.put, List.setIfInBounds_toArray, List.set_cons_zero, List.set_cons_succ]
      refine wpList_append_nodeR rfl _ _ rfl (w.heap.size + 3) v (TL.exp (l.take k)) rfl hgA s.exp B' c2 w1.heap.size 1 rfl (Blk.new _ _ _) hin3.out (by rw [TL.exp_len, List.length_take]; omega) (by simp; omega) ?_
      intro v' w2 hgrow2 hg2 _
      refine wpList_nil ?_
      have hz3 := hg2.size
      rw [World.size_alloc] at hz3
      have hownb : ∀ g, v.ownBlock = some g → w.heap.size + 3 ≤ g ∧ g < wr.heap.size := hlow
      have hkeep : ∀ g, g < w.heap.size + 3 → w2.heap[g]? = wr.heap[g]? := fun g hx => by
        rw [hg2.block g (by simp; omega) (fun e => by have := (hownb g e.symm).1; omega), Below.heap_alloc _ _ _ (by omega), hbelA.block g (by omega)]
      have hbelC : Below w.heap.size w w2 := ⟨(hg2.os.trans hbelA.os).trans hbel.os, (hg2.tape.trans hbelA.tape).trans hbel.tape, (hg2.output.trans hbelA.output).trans hbel.output, by have := hbel.size; omega, fun g hx => by rw [hkeep g (by omega), hbel.block g hx]⟩
      have hb0' : Blk w2 w.heap.size _ _ := (hkeep _ (by omega)).trans hb0
      have hb1' : Blk w2 (w.heap.size + 1) _ _ := (hkeep _ (by omega)).trans hb1
      have hb2' : Blk w2 (w.heap.size + 2) _ _ := (hkeep _ (by omega)).trans hb2
      have c2' := hb2'.cell
      have f2' := hb2'.frozen
      have hgrow3 : GrowR (w.heap.size + 3) w2 v' (TL.exp (l.take (k + 1))) := by
        rw [List.take_add_one, HJ.out]
        simpa [TL.exp_snoc] using hgrow2
      obtain ⟨A3, c3, hv3⟩ := hgrow3.form
      rw [show (TL.exp (l.take (k + 1))).length = k + 1 from by rw [TL.exp_len, List.length_take]; omega] at hv3
      have HG := hide hgrow3
      have HB := hide (And.intro hbelC (And.intro hb0' (And.intro hb1' hb2')))
      clear hgrow3 hgrow2 hg2 hkeep hbelC hb0' hb1' hb2' hgA hin3 hlow hownb hbelA hbelB
      subst hv3
      refine wpAnyT_last (i := 10) hcl rfl (by kernel_rfl) (by kernel_rfl) (fun hcl => ?_)
      simp only [List.getElem_toArray, List.getElem_cons_zero, List.getElem_cons_succ, Act.put, List.setIfInBounds_toArray, List.set_cons_zero, List.set_cons_succ]
      go_wp2_with fail
      refine wpAnyT_last (i := 11) hcl rfl (by kernel_rfl) (by kernel_rfl) (fun hcl => ?_)
      simp only [List.getElem_toArray, List.getElem_cons_zero, List.getElem_cons_succ, Act.put, List.setIfInBounds_toArray, List.set_cons_zero, List.set_cons_succ]
      go_wp2_with fail
      refine wpAnyT_done (by kernel_rfl) ?_ _
      go_wp2_with fail
      go_roundw
      case rel =>
        refine ⟨k + 1, _, by go_num, by omega, HG.out.same ((Same.refl _ _).set (p := ⟨w.heap.size + 2, 5, none⟩) (fun h => by have := h.1; simp at this) _) (by simp), HB.out.1.setCell (by simp; omega) _, HB.out.2.1.far (by simp; omega) _, HB.out.2.2.1.far (by simp) _, by simpa using HB.out.2.2.2.set_ 5 (.slice A3 (k + 1) c3)⟩
      case measure => simp [intOf]; omega
    · have g1 : decide ((k : Int) < (l.length : Int)) = false := decide_eq_false (by omega)
      have hke : k = l.length := by omega
      obtain ⟨A3, c3, hv3, ho3⟩ := hgrow.in_
      rw [hke, List.take_length] at hv3 ho3
      have HO := hide ho3
      clear ho3 hgrow hke
      rw [TL.exp_len] at hv3
      subst hv3
      have c2 := hb2.cell
      have H2 := hide (And.intro HO.out (And.intro hbel hb1))
      clear hbel hb1 hb0
      go_wp2_with (refine wpList_store_row rfl _ _ _ rfl (w.heap.size + 1) 0 _ _ _ rfl rfl H2.out.2.2 Tryd.sizeNode (by first | (simp; done) | (show (10 : Nat) ≤ 10; omega)) (by simp [Value.oneCell']) ?_)
      intro w9 hrow2 hg9 hz9
      have hrow := hrow2.out
      rw [splice_full (by rfl)] at hrow
      have hin9 := H2.out.1.same (ok' := fun b => w.heap.size ≤ b ∧ b < w9.heap.size) (fun b hb => hg9.block b (by have := hb.2; omega) (fun e => by have := Option.some.inj e; have := hb.1; omega)) (fun b hb => ⟨by have := hb.1; omega, by have := hb.2; have := hg9.size; omega⟩)
      have hb9 := below_grew H2.out.2.1 hg9 (Nat.le_refl _) (fun q hq => by rw [← Option.some.inj hq]; omega)
      have HF := hide (And.intro hrow (And.intro hin9 hb9))
      clear hrow hrow2 hg9 hz9
      go_wp2_with fail
      refine bodyPost_ret (results_cell_row rfl _ _ (w.heap.size + 1) _ _ (0, 0) _ rfl HF.out.1 Tryd.underlying27 rfl Tryd.sizeNode) rfl ?_
      rw [HE.out]
      exact ⟨A3, c3, by simp only [T.hd, T.subs, Hd.cells, TL.exp_len], by rw [T.In_iff]; exact HF.out.2.1, HF.out.2.2⟩

set_option maxRecDepth 100000 in
set_option maxHeartbeats 4000000 in
theorem refRep_any (mx : Int) (m : Nat) (bare : Bool) (t0 : T) (hm : m ≤ 255) (hmx : mx = -1 ∨ ((m : Int) ≤ mx ∧ mx ≤ 255)) (ih : mx ≠ 0 → RefC t0) : RefC (.mk ⟨8, 0, 0, 0, 0, 0, m, mx, bare⟩ [t0]) := by
  intro A c w hin
  have HIN := hide hin
  have HIH := hide ih
  have HMX := hide hmx
  obtain ⟨R, hR⟩ : ∃ R, R = (T.mk ⟨8, 0, 0, 0, 0, 0, m, mx, bare⟩ [t0]).exp := ⟨_, rfl⟩
  rw [← hR]
  have HR := hide hR
  clear hR hin ih hmx
  simp only [T.hd, T.subs, Hd.cells, List.length_cons, List.length_nil, Nat.zero_add]
  have hb2 := ((Below.refl w.heap.size w).alloc (Nat.le_refl _) (.cells #[.int .i64 8, .int .u64 0, .int .u64 0, .int .u64 0, .int .u64 0, .slice A 1 c, .int .i64 0, .int .i64 (m : Int), .int .i64 mx, .bool bare] 27)).alloc (by simp) (.cells #[.int .i64 0, .int .u64 0, .int .u64 0, .int .u64 0, .int .u64 0, .slice none 0 0, .int .i64 0, .int .i64 0, .int .i64 0, .bool false] 27)
  have hbt := (Blk.new w 27 #[.int .i64 8, .int .u64 0, .int .u64 0, .int .u64 0, .int .u64 0, .slice A 1 c, .int .i64 0, .int .i64 (m : Int), .int .i64 mx, .bool bare]).alloc (.cells #[.int .i64 0, .int .u64 0, .int .u64 0, .int .u64 0, .int .u64 0, .slice none 0 0, .int .i64 0, .int .i64 0, .int .i64 0, .bool false] 27)
  have hbr := Blk.new (w.alloc (.cells #[.int .i64 8, .int .u64 0, .int .u64 0, .int .u64 0, .int .u64 0, .slice A 1 c, .int .i64 0, .int .i64 (m : Int), .int .i64 mx, .bool bare] 27)) 27 #[.int .i64 0, .int .u64 0, .int .u64 0, .int .u64 0, .int .u64 0, .slice none 0 0, .int .i64 0, .int .i64 0, .int .i64 0, .bool false]
  rw [World.size_alloc] at hbr
  have hsz : w.heap.size + 1 < ((w.alloc (.cells #[.int .i64 8, .int .u64 0, .int .u64 0, .int .u64 0, .int .u64 0, .slice A 1 c, .int .i64 0, .int .i64 (m : Int), .int .i64 mx, .bool bare] 27)).alloc (.cells #[.int .i64 0, .int .u64 0, .int .u64 0, .int .u64 0, .int .u64 0, .slice none 0 0, .int .i64 0, .int .i64 0, .int .i64 0, .bool false] 27)).heap.size := by simp
  have H0 := hide (And.intro hb2 (And.intro hbt hbr))
  clear hb2 hbt hbr
  have c0 := H0.out.2.1.cell
  go_enter Tryd.func93, Tryd.ntmps93
  go_upto_region 9 with fail
  generalize ((w.alloc (.cells #[.int .i64 8, .int .u64 0, .int .u64 0, .int .u64 0, .int .u64 0, .slice A 1 c, .int .i64 0, .int .i64 (m : Int), .int .i64 mx, .bool bare] 27)).alloc (.cells #[.int .i64 0, .int .u64 0, .int .u64 0, .int .u64 0, .int .u64 0, .slice none 0 0, .int .i64 0, .int .i64 0, .int .i64 0, .bool false] 27)) = W0 at *
  by_cases hz : mx = 0
  case pos =>
    subst hz
    have H2 := hide (And.intro (show T.In W0 (fun b => w.heap.size + 2 ≤ b ∧ b < W0.heap.size) (T.seq []) none from trivial) (And.intro H0.out.1 H0.out.2.2))
    go_wp2_with (refine wpList_store_row rfl _ _ _ rfl (w.heap.size + 1) 0 _ _ _ rfl rfl H2.out.2.2 Tryd.sizeNode (by first | (simp; done) | (show (10 : Nat) ≤ 10; omega)) (by simp [Value.oneCell']) ?_)
    intro w9 hrow2 hg9 hz9
    have hrow := hrow2.out
    rw [splice_full (by rfl)] at hrow
    have hin9 := H2.out.1.same (ok' := fun b => w.heap.size ≤ b ∧ b < w9.heap.size) (fun b hb => hg9.block b (by have := hb.2; omega) (fun e => by have := Option.some.inj e; have := hb.1; omega)) (fun b hb => ⟨by have := hb.1; omega, by have := hb.2; have := hg9.size; omega⟩)
    have hb9 := below_grew H2.out.2.1 hg9 (Nat.le_refl _) (fun q hq => by rw [← Option.some.inj hq]; omega)
    have HF := hide (And.intro hrow (And.intro hin9 hb9))
    clear hrow hrow2 hg9 hz9
    go_wp2_with fail
    refine bodyPost_ret (results_cell_row rfl _ _ (w.heap.size + 1) _ _ (0, 0) _ rfl HF.out.1 Tryd.underlying27 rfl Tryd.sizeNode) rfl ?_
    have hRe : R = T.seq [] := by rw [HR.out]; simp [T.exp, TL.expRep]
    rw [hRe]
    exact ⟨none, 0, rfl, HF.out.2.1, HF.out.2.2⟩
  have gz : (mx == 0) = false := beq_false_of_ne hz
  obtain ⟨b, o, B, c', rfl, hbk, hcs, hsub⟩ := TL.In.at_ (T.In_iff.1 HIN.out) (show [t0][0]? = some t0 from rfl)
  simp only [Nat.zero_mul, Nat.add_zero] at hcs
  obtain ⟨n0, n1, n2, n3, n4, n5, n6, n7, n8, n9⟩ := (hcs.same (same_of_below H0.out.1) hbk).node
  have hsub1 := hsub.same (ok' := (· < W0.heap.size)) (same_of_below H0.out.1) (fun b hb => by have := H0.out.1.size; omega)
  have HC := hide (HIH.out hz B c' W0 hsub1)
  simp only [Hd.cells] at HC
  clear hcs hsub hsub1
  have hRe : R = if (m : Int) = 0 ∧ (mx = 1 ∨ mx = -1) then .mk ⟨8, 0, 0, 0, 0, 0, m, mx, bare⟩ [t0.exp] else T.seq (repList ⟨8, 0, 0, 0, 0, 0, m, mx, bare⟩ t0.exp) := by rw [HR.out]; simp only [T.exp, TL.expRep, if_true]; rw [if_neg hz]
  have HRE := hide hRe
  clear hRe
  go_wp2_with fail
  refine HC.out.mono ?_
  rintro e w2 ⟨B2, c2, he, hin2, hb2⟩
  simp only [Hd.cells] at he
  subst he
  clear n0 n1 n2 n3 n4 n5 n6 n7 n8 n9 HC c0
  generalize t0.exp = x at *
  have hal := (Below.refl w2.heap.size w2).alloc (Nat.le_refl _) (.cells #[.int .i64 0, .int .u64 0, .int .u64 0, .int .u64 0, .int .u64 0, .slice none 0 0, .int .i64 0, .int .i64 0, .int .i64 0, .bool false] 27)
  have hw2 := hb2.size
  have hbx := Blk.new w2 27 #[.int .i64 0, .int .u64 0, .int .u64 0, .int .u64 0, .int .u64 0, .slice none 0 0, .int .i64 0, .int .i64 0, .int .i64 0, .bool false]
  have c0 := ((H0.out.2.1.nxt hb2).nxt hal).cell
  have H1 := hide (And.intro ((H0.out.1.trans (hb2.mono (by omega))).trans (hal.mono (by omega))) (And.intro ((H0.out.2.1.nxt hb2).nxt hal) (And.intro ((H0.out.2.2.nxt hb2).nxt hal) (And.intro hbx (hin2.same (ok' := fun b => w.heap.size + 2 ≤ b ∧ b < w2.heap.size) ((same_of_below hal).mono fun b hb => hb.2) (fun b hb => ⟨by have := hb.1; omega, hb.2⟩))))))
  have hw3 : w2.heap.size < (w2.alloc (.cells #[.int .i64 0, .int .u64 0, .int .u64 0, .int .u64 0, .int .u64 0, .slice none 0 0, .int .i64 0, .int .i64 0, .int .i64 0, .bool false] 27)).heap.size := by simp
  clear hal hin2 hb2 H0 hbx
  go_wp2_with (refine wpList_store_row rfl _ _ _ rfl w2.heap.size 0 _ _ _ rfl rfl H1.out.2.2.2.1 Tryd.sizeNode (by simp) (by simp [Value.oneCell']) ?_)
  intro W2 hrow2 hg9 hz9
  have hrow := hrow2.out
  rw [splice_full (by rfl)] at hrow
  have hzW := hg9.size
  have hX : RepAt w W2.heap.size w2.heap.size #[.int .i64 8, .int .u64 0, .int .u64 0, .int .u64 0, .int .u64 0, .slice (some ⟨b, o, none⟩) 1 c, .int .i64 0, .int .i64 (m : Int), .int .i64 mx, .bool bare] x B2 c2 (.slice none 0 0) [] W2 :=
    ⟨GrowR.nil _ _, (fun g hg => by cases hg), below_grew H1.out.1 hg9 (Nat.le_refl _) (fun q hq => by rw [← Option.some.inj hq]; omega), H1.out.2.1.grown hg9 (fun e => by have := Option.some.inj e; omega), H1.out.2.2.1.grown hg9 (fun e => by have := Option.some.inj e; omega), hrow, H1.out.2.2.2.2.same (fun b hb => hg9.block b (by have := hb.2; omega) (fun e => by have := Option.some.inj e; have := hb.2; omega)) (fun b hb => ⟨hb.1, by have := hb.2; omega⟩), by omega, by omega, Nat.le_refl _⟩
  have HX := hide hX
  clear hX hrow hrow2 hg9 hz9 H1 c0 hzW hw3
  generalize w2.heap.size = gx at *
  have c0 := HX.out.bt.cell
  go_upto_region 12 with fail
  go_cut [50] (fun z wx => z = .bool (decide ((m : Int) = 1 ∧ mx = 1)) ∧ wx = W2)
  case first =>
    by_cases a1 : (m : Int) = 1
    case neg =>
      have e1 : ((m : Int) == 1) = false := beq_false_of_ne a1
      have HA := hide a1
      clear a1
      go_wp2_with fail
      go_meet
      case rel => exact ⟨by rw [decide_eq_false (fun h => HA.out h.1)], rfl⟩
    have e1 : ((m : Int) == 1) = true := beq_iff_eq.2 a1
    by_cases a2 : mx = 1
    case pos =>
      have e2 : (mx == 1) = true := beq_iff_eq.2 a2
      have HA := hide (And.intro a1 a2)
      clear a1 a2
      go_wp2_with fail
      go_meet
      case rel => exact ⟨by rw [decide_eq_true HA.out], rfl⟩
    have e2 : (mx == 1) = false := beq_false_of_ne a2
    have HA := hide a2
    clear a1 a2
    go_wp2_with fail
    go_meet
    case rel => exact ⟨by rw [decide_eq_false (fun h => HA.out h.2)], rfl⟩
  case rest =>
  obtain ⟨rfl, hwc⟩ := hcut
  replace hwc := hwc.symm
  subst hwc
  by_cases hq1 : (m : Int) = 1 ∧ mx = 1
  case pos =>
    have gq : decide ((m : Int) = 1 ∧ mx = 1) = true := decide_eq_true hq1
    have HQ := hide hq1
    clear hq1
    rw [gq]
    clear gq
    have cx := HX.out.bx.cell
    simp only [Hd.cells] at cx
    have hgx := HX.out.gxX
    have hgx2 := HX.out.gx2
    have H2 := hide (And.intro HX.out.xin (And.intro HX.out.below HX.out.br))
    clear HX c0
    go_wp2_with (refine wpList_store_row rfl _ _ _ rfl (w.heap.size + 1) 0 _ _ _ rfl rfl H2.out.2.2 Tryd.sizeNode (by first | (simp; done) | (show (10 : Nat) ≤ 10; omega)) (by simp [Value.oneCell']) ?_)
    intro w9 hrow2 hg9 hz9
    have hrow := hrow2.out
    rw [splice_full (by rfl)] at hrow
    have hin9 := H2.out.1.same (ok' := fun b => w.heap.size ≤ b ∧ b < w9.heap.size) (fun b hb => hg9.block b (by have := hb.2; omega) (fun e => by have := Option.some.inj e; have := hb.1; omega)) (fun b hb => ⟨by have := hb.1; omega, by have := hb.2; have := hg9.size; omega⟩)
    have hb9 := below_grew H2.out.2.1 hg9 (Nat.le_refl _) (fun q hq => by rw [← Option.some.inj hq]; omega)
    have HF := hide (And.intro hrow (And.intro hin9 hb9))
    clear hrow hrow2 hg9 hz9
    go_wp2_with fail
    refine bodyPost_ret (results_cell_row rfl _ _ (w.heap.size + 1) _ _ (0, 0) _ rfl HF.out.1 Tryd.underlying27 rfl Tryd.sizeNode) rfl ?_
    have hRe := HRE.out
    rw [if_neg (fun h => by have := h.1; have := HQ.out.1; omega)] at hRe
    have hL : repList ⟨8, 0, 0, 0, 0, 0, m, mx, bare⟩ x = [x] := by
      obtain ⟨h1, h2⟩ := HQ.out
      have : m = 1 := by omega
      subst this
      subst h2
      rfl
    rw [hL] at hRe
    rw [hRe]
    exact ⟨B2, c2, rfl, HF.out.2.1, HF.out.2.2⟩
  have gq : decide ((m : Int) = 1 ∧ mx = 1) = false := decide_eq_false hq1
  have HQ1 := hide hq1
  clear hq1
  rw [gq]
  clear gq
  go_upto_region 14 with fail
  go_cut [69] (fun z wx => z = .bool (decide ((m : Int) = 0 ∧ (mx = 1 ∨ mx = -1))) ∧ wx = W2)
  case first =>
    by_cases a1 : (m : Int) = 0
    case neg =>
      have e1 : ((m : Int) == 0) = false := beq_false_of_ne a1
      have HA := hide a1
      clear a1
      go_wp2_with fail
      go_meet
      case rel => exact ⟨by rw [decide_eq_false (fun h => HA.out h.1)], rfl⟩
    have e1 : ((m : Int) == 0) = true := beq_iff_eq.2 a1
    by_cases a2 : mx = 1
    case pos =>
      have e2 : (mx == 1) = true := beq_iff_eq.2 a2
      have HA := hide (And.intro a1 a2)
      clear a1 a2
      go_wp2_with fail
      go_meet
      case rel => exact ⟨by rw [decide_eq_true ⟨HA.out.1, .inl HA.out.2⟩], rfl⟩
    have e2 : (mx == 1) = false := beq_false_of_ne a2
    by_cases a3 : mx = -1
    case pos =>
      have e3 : (mx == -1) = true := beq_iff_eq.2 a3
      have HA := hide (And.intro a1 a3)
      clear a1 a2 a3
      go_wp2_with fail
      go_meet
      case rel => exact ⟨by rw [decide_eq_true ⟨HA.out.1, .inr HA.out.2⟩], rfl⟩
    have e3 : (mx == -1) = false := beq_false_of_ne a3
    have HA := hide (And.intro a1 (And.intro a2 a3))
    clear a1 a2 a3
    go_wp2_with fail
    go_meet
    case rel => exact ⟨by rw [decide_eq_false (fun h => h.2.elim HA.out.2.1 HA.out.2.2)], rfl⟩
  case rest =>
  obtain ⟨rfl, hwc⟩ := hcut
  replace hwc := hwc.symm
  subst hwc
  have HOP := hide (fun (q : Int) (b9 : Bool) (y : World) => optional_any q b9 x B2 c2 y)
  by_cases hq : (m : Int) = 0 ∧ (mx = 1 ∨ mx = -1)
  case pos =>
    have gq : decide ((m : Int) = 0 ∧ (mx = 1 ∨ mx = -1)) = true := decide_eq_true hq
    have HQ := hide hq
    clear hq
    rw [gq]
    clear gq
    have cx := HX.out.bx.cell
    simp only [Hd.cells] at cx
    have hgx := HX.out.gxX
    have hgx2 := HX.out.gx2
    have hXs := HX.out.sz
    go_wp2_with fail
    refine (HOP.out mx bare W2).mono ?_
    rintro e w5 ⟨g, rfl, hbg, hg1, hg2, hb5⟩
    have hX5 := HX.out.next hb5
    have H2 := hide (And.intro (rep_in (ok := fun b => w.heap.size + 2 ≤ b ∧ b < w5.heap.size) (hd := ⟨8, 0, 0, 0, 0, 0, 0, mx, bare⟩) ⟨by omega, hg2⟩ (show Blk w5 g 27 (x.hd.cells (.slice B2 x.subs.length c2)).toArray from hbg) (hX5.xin.same (Same.refl _ _) (fun b hb => ⟨hb.1, by have := hb.2; omega⟩))) (And.intro hX5.below hX5.br))
    clear hX5 hbg hb5 HX c0 cx
    go_wp2_with (refine wpList_store_row rfl _ _ _ rfl (w.heap.size + 1) 0 _ _ _ rfl rfl H2.out.2.2 Tryd.sizeNode (by first | (simp; done) | (show (10 : Nat) ≤ 10; omega)) (by simp [Value.oneCell']) ?_)
    intro w9 hrow2 hg9 hz9
    have hrow := hrow2.out
    rw [splice_full (by rfl)] at hrow
    have hin9 := H2.out.1.same (ok' := fun b => w.heap.size ≤ b ∧ b < w9.heap.size) (fun b hb => hg9.block b (by have := hb.2; omega) (fun e => by have := Option.some.inj e; have := hb.1; omega)) (fun b hb => ⟨by have := hb.1; omega, by have := hb.2; have := hg9.size; omega⟩)
    have hb9 := below_grew H2.out.2.1 hg9 (Nat.le_refl _) (fun q hq => by rw [← Option.some.inj hq]; omega)
    have HF := hide (And.intro hrow (And.intro hin9 hb9))
    clear hrow hrow2 hg9 hz9
    go_wp2_with fail
    refine bodyPost_ret (results_cell_row rfl _ _ (w.heap.size + 1) _ _ (0, 0) _ rfl HF.out.1 Tryd.underlying27 rfl Tryd.sizeNode) rfl ?_
    have hRe := HRE.out
    rw [if_pos HQ.out] at hRe
    rw [hRe, HQ.out.1]
    exact ⟨some ⟨g, 0, none⟩, 1, rfl, HF.out.2.1, HF.out.2.2⟩
  have gq : decide ((m : Int) = 0 ∧ (mx = 1 ∨ mx = -1)) = false := decide_eq_false hq
  have hRe := HRE.out
  rw [if_neg hq] at hRe
  have hRL : R = .mk ⟨5, 0, 0, 0, 0, 0, 0, 0, false⟩ (repList ⟨8, 0, 0, 0, 0, 0, m, mx, bare⟩ x) := by
    have hl : 1 < (repList ⟨8, 0, 0, 0, 0, 0, m, mx, bare⟩ x).length := by
      have h1 := HQ1.out
      have h2 := HMX.out
      unfold repList
      simp only [List.length_append, List.length_replicate, optList_len, Int.toNat_natCast]
      split
      · rename_i h3
        have : (m : Int) ≠ 0 := fun h => hq ⟨h, .inr h3⟩
        simp only [List.length_cons, List.length_nil]
        omega
      · simp only [List.length_nil]
        have : ¬ ((m : Int) = 0 ∧ mx = 1) := fun h => hq ⟨h.1, .inl h.2⟩
        omega
    rw [hRe]
    match h : repList ⟨8, 0, 0, 0, 0, 0, m, mx, bare⟩ x, hl with
    | a :: b :: r, _ => rfl
    | [a], hl => simp at hl
    | [], hl => simp at hl
  have HRF := hide hRL
  clear hq hRe hRL
  rw [gq]
  clear gq HRE HQ1
  have hgx := HX.out.gxX
  have hgx2 := HX.out.gx2
  have hXs := HX.out.sz
  obtain ⟨X, hX9⟩ : ∃ X, X = W2.heap.size := ⟨_, rfl⟩
  rw [← hX9] at HX hgx
  clear hXs hX9
  go_wp2_with fail
  clear c0
  go_loopw [6, 7] (fun v iv wr => ∃ k : Nat, iv = .int .i64 k ∧ k ≤ m ∧ RepAt w X gx #[.int .i64 8, .int .u64 0, .int .u64 0, .int .u64 0, .int .u64 0, .slice (some ⟨b, o, none⟩) 1 c, .int .i64 0, .int .i64 (m : Int), .int .i64 mx, .bool bare] x B2 c2 v (List.replicate k x) wr) (fun _ iv _ => m - (intOf iv).toNat)
  case atStart => exact ⟨0, rfl, by omega, HX.out⟩
  case round =>
    clear HX
    obtain ⟨k, rfl, hk, hX⟩ := hrel
    have HX := hide hX
    have hXs := hX.sz
    clear hX
    by_cases hlt : k < m
    case neg =>
      have g1 : decide ((k : Int) < (m : Int)) = false := decide_eq_false (by omega)
      obtain rfl : k = m := by omega
      have c0 := HX.out.bt.cell
      go_upto_if 88 with fail
      rename World => W3
      go_cut [6] (fun v wx => RepAt w X gx #[.int .i64 8, .int .u64 0, .int .u64 0, .int .u64 0, .int .u64 0, .slice (some ⟨b, o, none⟩) 1 c, .int .i64 0, .int .i64 (k : Int), .int .i64 mx, .bool bare] x B2 c2 v (List.replicate k x ++ if mx = -1 then [starOf x] else []) wx)
      case first =>
        by_cases h1 : mx = -1
        case neg =>
          have g3 : (mx == -1) = false := beq_false_of_ne h1
          have HH1 := hide h1
          clear h1
          go_wp2_with fail
          go_meet
          case rel => rw [if_neg HH1.out, List.append_nil]; exact HX.out
        have g3 : (mx == -1) = true := beq_iff_eq.2 h1
        have HH1 := hide h1
        clear h1
        have cx := HX.out.bx.cell
        simp only [Hd.cells] at cx
        go_wp2_with fail
        refine (HOP.out (-1) true W3).mono ?_
        rintro e w4 ⟨g, rfl, hbg, hg1, hg2, hb4⟩
        have hX4 := HX.out.next hb4
        have hal := (Below.refl w4.heap.size w4).alloc (Nat.le_refl _) (.cells #[.int .i64 8, .int .u64 0, .int .u64 0, .int .u64 0, .int .u64 0, .slice (some ⟨g, 0, none⟩) 1 1, .int .i64 0, .int .i64 0, .int .i64 (-1), .bool true] 27)
        have HX2 := hide (hX4.next hal)
        have hw4 : w4.heap.size < (w4.alloc (.cells #[.int .i64 8, .int .u64 0, .int .u64 0, .int .u64 0, .int .u64 0, .slice (some ⟨g, 0, none⟩) 1 1, .int .i64 0, .int .i64 0, .int .i64 (-1), .bool true] 27)).heap.size := by simp
        have hw5 := hb4.size
        have hin3 := hide (rep_in (hd := ⟨8, 0, 0, 0, 0, 0, 0, -1, true⟩) (ok := fun q => w.heap.size + 2 ≤ q ∧ q < (w4.alloc (.cells #[.int .i64 8, .int .u64 0, .int .u64 0, .int .u64 0, .int .u64 0, .slice (some ⟨g, 0, none⟩) 1 1, .int .i64 0, .int .i64 0, .int .i64 (-1), .bool true] 27)).heap.size ∧ some q ≠ u6.ownBlock) ⟨by omega, by omega, fun e => by have := (HX.out.grow.lt g e.symm).2; omega⟩ ((show Blk w4 g 27 (x.hd.cells (.slice B2 x.subs.length c2)).toArray from hbg).nxt hal) (HX2.out.xin.same (Same.refl _ _) (fun q hq => ⟨hq.1, by have := hq.2; omega, fun e => by have := HX2.out.own q e.symm; have := hq.2; omega⟩)))
        have hbn2 := hide (Blk.new w4 27 #[.int .i64 8, .int .u64 0, .int .u64 0, .int .u64 0, .int .u64 0, .slice (some ⟨g, 0, none⟩) 1 1, .int .i64 0, .int .i64 0, .int .i64 (-1), .bool true])
        have hln : (List.replicate k x).length < 1000000 := by (try rw [List.length_append]); (try rw [List.length_replicate]); (try rw [optList_len]); omega
        clear hal hbg hX4
        go_wp2_with (at_builtin; refine wpList_append_nodeR rfl _ _ rfl (w.heap.size + 2) _ (List.replicate k x) rfl HX2.out.grow (.mk ⟨8, 0, 0, 0, 0, 0, 0, -1, true⟩ [x]) (some ⟨g, 0, none⟩) 1 w4.heap.size 1 rfl hbn2.out hin3.out hln (by simp; omega) ?_)
        intro v' w5 hgr5 hg5 hat5
        have HX7 := hide (HX2.out.push (by first | exact hgr5 | (rw [List.append_assoc]; exact hgr5)) hg5 (by rcases hat5 with e | e; exact .inl e; exact .inr fun g hg => by rw [e] at hg; have := Option.some.inj hg; omega))
        clear hgr5 hg5 hat5 hin3 cx HX2 hbn2 HX c0
        go_wp2_with fail
        go_meet
        case rel => rw [if_pos HH1.out]; exact HX7.out
      case rest =>
      rename World => W4
      rename Value => v6
      clear c0 HX hXs
      have HX := hide hcut
      clear hcut
      have hXs := HX.out.sz
      have c0 := HX.out.bt.cell
      generalize hLk : (List.replicate k x ++ if mx = -1 then [starOf x] else []) = L0 at *
      have HLK := hide hLk
      have hL0 : L0.length ≤ 256 := by
        rw [← hLk, List.length_append, List.length_replicate]
        split <;> simp <;> omega
      clear hLk
      go_wp2_with fail
      clear c0 g1
      obtain ⟨b0, hb0⟩ : ∃ b0, b0 = (bare || decide (0 < (k : Int))) := ⟨_, rfl⟩
      have HB0 := hide hb0
      clear hb0
      go_loopw [6, 8] (fun v nv wr => ∃ d : Nat, nv = .int .i64 ((k : Int) + (d : Int)) ∧ ((k : Int) + (d : Int) ≤ mx ∨ d = 0) ∧ RepAt w X gx #[.int .i64 8, .int .u64 0, .int .u64 0, .int .u64 0, .int .u64 0, .slice (some ⟨b, o, none⟩) 1 c, .int .i64 0, .int .i64 (k : Int), .int .i64 mx, .bool bare] x B2 c2 v (L0 ++ optList x d b0) wr) (fun _ nv _ => (mx - intOf nv).toNat)
      case atStart => exact ⟨0, by simp, .inr rfl, by simpa [optList] using HX.out⟩
      case round =>
        clear HX hXs
        obtain ⟨d, rfl, hd, hX⟩ := hrel
        have HX := hide hX
        have hXs := hX.sz
        clear hX
        have hmx := HMX.out
        have c0 := HX.out.bt.cell
        by_cases hlt2 : (k : Int) + (d : Int) < mx
        case neg =>
          have g2 : decide ((k : Int) + (d : Int) < mx) = false := decide_eq_false hlt2
          have hL : L0 ++ optList x d b0 = repList ⟨8, 0, 0, 0, 0, 0, k, mx, bare⟩ x := by
            rw [← HLK.out]
            unfold repList
            simp only [Int.toNat_natCast]
            rw [← HB0.out]
            by_cases h1 : mx = -1
            · obtain rfl : d = 0 := by omega
              rw [show (mx - (k : Int)).toNat = 0 by omega, if_pos h1]
              simp [optList]
            · rw [if_neg h1, show (mx - (k : Int)).toNat = d by omega, List.append_nil, List.append_nil]
          rw [hL] at HX
          clear hL hd hmx
          obtain ⟨A9, c9, hv9, hin9⟩ := HX.out.grow.in_
          subst hv9
          have H2 := hide (And.intro hin9 (And.intro HX.out.below HX.out.br))
          have hln9 : (repList ⟨8, 0, 0, 0, 0, 0, k, mx, bare⟩ x).length = (repList ⟨8, 0, 0, 0, 0, 0, k, mx, bare⟩ x).length := rfl
          clear hin9 HX
          go_wp2_with (refine wpList_store_row rfl _ _ _ rfl (w.heap.size + 1) 0 _ _ _ rfl rfl H2.out.2.2 Tryd.sizeNode (by first | (simp; done) | (show (10 : Nat) ≤ 10; omega)) (by simp [Value.oneCell']) ?_)
          intro w9 hrow2 hg9 hz9
          have hrow := hrow2.out
          rw [splice_full (by rfl)] at hrow
          have hin9 := H2.out.1.same (ok' := fun b => w.heap.size ≤ b ∧ b < w9.heap.size) (fun b hb => hg9.block b (by have := hb.2; omega) (fun e => by have := Option.some.inj e; have := hb.1; omega)) (fun b hb => ⟨by have := hb.1; omega, by have := hb.2; have := hg9.size; omega⟩)
          have hb9 := below_grew H2.out.2.1 hg9 (Nat.le_refl _) (fun q hq => by rw [← Option.some.inj hq]; omega)
          have HF := hide (And.intro hrow (And.intro hin9 hb9))
          clear hrow hrow2 hg9 hz9
          go_wp2_with fail
          refine bodyPost_ret (results_cell_row rfl _ _ (w.heap.size + 1) _ _ (0, 0) _ rfl HF.out.1 Tryd.underlying27 rfl Tryd.sizeNode) rfl ?_
          rw [HRF.out]
          exact ⟨A9, c9, rfl, by rw [T.In_iff]; exact HF.out.2.1, HF.out.2.2⟩
        have g2 : decide ((k : Int) + (d : Int) < mx) = true := decide_eq_true hlt2
        have hd255 : d ≤ 255 := by omega
        have HLT2 := hide hlt2
        clear hd hmx
        obtain ⟨b9, hb9⟩ : ∃ b9, b9 = (if d = 0 then b0 else true) := ⟨_, rfl⟩
        have HB9 := hide hb9
        clear hb9
        have cx := HX.out.bx.cell
        simp only [Hd.cells] at cx
        go_upto_region 26 with fail
        rename World => W5
        go_cut [9] (fun z wx => z = .bool (!b9) ∧ wx = W5)
        case first =>
          by_cases a1 : (k : Int) + (d : Int) = 0
          case neg =>
            have e1 : ((k : Int) + (d : Int) == 0) = false := beq_false_of_ne a1
            have HA := hide a1
            clear a1
            go_wp2_with fail
            go_meet
            case rel =>
              refine ⟨?_, rfl⟩
              rw [HB9.out, HB0.out]
              have := HA.out
              by_cases h0 : d = 0
              · rw [if_pos h0, decide_eq_true (by omega)]; simp
              · rw [if_neg h0]; rfl
          have e1 : ((k : Int) + (d : Int) == 0) = true := beq_iff_eq.2 a1
          have HA := hide a1
          clear a1
          go_wp2_with fail
          go_meet
          case rel =>
            refine ⟨?_, rfl⟩
            rw [HB9.out, HB0.out]
            have := HA.out
            rw [if_pos (by omega), decide_eq_false (by omega)]; simp
        case rest =>
        obtain ⟨rfl, hwc⟩ := hcut
        replace hwc := hwc.symm
        subst hwc
        go_wp2_with fail
        refine (HOP.out 1 b9 W5).mono ?_
        rintro e w4 ⟨g, rfl, hbg, hg1, hg2, hb4⟩
        have hX4 := HX.out.next hb4
        have hal := (Below.refl w4.heap.size w4).alloc (Nat.le_refl _) (.cells #[.int .i64 8, .int .u64 0, .int .u64 0, .int .u64 0, .int .u64 0, .slice (some ⟨g, 0, none⟩) 1 1, .int .i64 0, .int .i64 0, .int .i64 1, .bool b9] 27)
        have HX2 := hide (hX4.next hal)
        have hw4 : w4.heap.size < (w4.alloc (.cells #[.int .i64 8, .int .u64 0, .int .u64 0, .int .u64 0, .int .u64 0, .slice (some ⟨g, 0, none⟩) 1 1, .int .i64 0, .int .i64 0, .int .i64 1, .bool b9] 27)).heap.size := by simp
        have hw5 := hb4.size
        have hin3 := hide (rep_in (hd := ⟨8, 0, 0, 0, 0, 0, 0, 1, b9⟩) (ok := fun q => w.heap.size + 2 ≤ q ∧ q < (w4.alloc (.cells #[.int .i64 8, .int .u64 0, .int .u64 0, .int .u64 0, .int .u64 0, .slice (some ⟨g, 0, none⟩) 1 1, .int .i64 0, .int .i64 0, .int .i64 1, .bool b9] 27)).heap.size ∧ some q ≠ u6.ownBlock) ⟨by omega, by omega, fun e => by have := (HX.out.grow.lt g e.symm).2; omega⟩ ((show Blk w4 g 27 (x.hd.cells (.slice B2 x.subs.length c2)).toArray from hbg).nxt hal) (HX2.out.xin.same (Same.refl _ _) (fun q hq => ⟨hq.1, by have := hq.2; omega, fun e => by have := HX2.out.own q e.symm; have := hq.2; omega⟩)))
        have hbn2 := hide (Blk.new w4 27 #[.int .i64 8, .int .u64 0, .int .u64 0, .int .u64 0, .int .u64 0, .slice (some ⟨g, 0, none⟩) 1 1, .int .i64 0, .int .i64 0, .int .i64 1, .bool b9])
        have hln : (L0 ++ optList x d b0).length < 1000000 := by (try rw [List.length_append]); (try rw [List.length_replicate]); (try rw [optList_len]); omega
        clear hal hbg hX4
        go_wp2_with (at_builtin; refine wpList_append_nodeR rfl _ _ rfl (w.heap.size + 2) _ (L0 ++ optList x d b0) rfl HX2.out.grow (.mk ⟨8, 0, 0, 0, 0, 0, 0, 1, b9⟩ [x]) (some ⟨g, 0, none⟩) 1 w4.heap.size 1 rfl hbn2.out hin3.out hln (by simp; omega) ?_)
        intro v' w5 hgr5 hg5 hat5
        have HX7 := hide (HX2.out.push (by first | exact hgr5 | (rw [List.append_assoc]; exact hgr5)) hg5 (by rcases hat5 with e | e; exact .inl e; exact .inr fun g hg => by rw [e] at hg; have := Option.some.inj hg; omega))
        clear hgr5 hg5 hat5 hin3 cx HX2 hbn2 HX c0
        have HX8 := hide (show RepAt w X gx _ x B2 c2 v' (L0 ++ optList x (d + 1) b0) w5 from by rw [optList_snoc, ← HB9.out, ← List.append_assoc]; exact HX7.out)
        clear HX7
        go_wp2_with fail
        go_roundw
        case rel => exact ⟨d + 1, by go_num, .inl (by have := HLT2.out; omega), HX8.out⟩
        case measure => have := HLT2.out; simp [intOf]; omega
    have g1 : decide ((k : Int) < (m : Int)) = true := decide_eq_true (by omega)
    have c0 := HX.out.bt.cell
    have cx := HX.out.bx.cell
    simp only [Hd.cells] at cx
    have hal := (Below.refl wr.heap.size wr).alloc (Nat.le_refl _) (.cells #[.int .i64 x.hd.kind, .int .u64 x.hd.s0, .int .u64 x.hd.s1, .int .u64 x.hd.s2, .int .u64 x.hd.s3, .slice B2 x.subs.length c2, .int .i64 x.hd.num, .int .i64 x.hd.min, .int .i64 x.hd.max, .bool x.hd.bare] 27)
    have HX1 := hide (HX.out.next hal)
    have hw1 : wr.heap.size < (wr.alloc (.cells #[.int .i64 x.hd.kind, .int .u64 x.hd.s0, .int .u64 x.hd.s1, .int .u64 x.hd.s2, .int .u64 x.hd.s3, .slice B2 x.subs.length c2, .int .i64 x.hd.num, .int .i64 x.hd.min, .int .i64 x.hd.max, .bool x.hd.bare] 27)).heap.size := by simp
    have hin3 := hide (HX1.out.xin.same (ok' := fun b => w.heap.size + 2 ≤ b ∧ b < (wr.alloc (.cells #[.int .i64 x.hd.kind, .int .u64 x.hd.s0, .int .u64 x.hd.s1, .int .u64 x.hd.s2, .int .u64 x.hd.s3, .slice B2 x.subs.length c2, .int .i64 x.hd.num, .int .i64 x.hd.min, .int .i64 x.hd.max, .bool x.hd.bare] 27)).heap.size ∧ some b ≠ u6.ownBlock) (Same.refl _ _) (fun b hb => ⟨hb.1, by have := hb.2; omega, fun e => by have := HX1.out.own b e.symm; have := hb.2; omega⟩))
    have hln : (List.replicate k x).length < 1000000 := by rw [List.length_replicate]; omega
    clear hal
    go_wp2_with (at_builtin; refine wpList_append_nodeR rfl _ _ rfl (w.heap.size + 2) _ (List.replicate k x) rfl HX1.out.grow x B2 c2 wr.heap.size 1 rfl (Blk.new _ _ _) hin3.out hln (by simp; omega) ?_)
    intro v' w5 hgr5 hg5 hat5
    have HX5 := hide (HX1.out.push hgr5 hg5 (by rcases hat5 with e | e; exact .inl e; exact .inr fun g hg => by rw [e] at hg; have := Option.some.inj hg; omega))
    clear hgr5 hg5 hat5 hin3 cx HX1 c0
    go_wp2_with fail
    go_roundw
    case rel => exact ⟨k + 1, by go_num, hlt, by rw [List.replicate_succ']; exact HX5.out⟩
    case measure => simp [intOf]; omega

theorem refExp_any (M : Nat) : ∀ t : T, t.nodes ≤ M → M ≤ 900000 → t.form = true → t.size ≤ 2000 → RefC t := by
  induction M with
  | zero => intro t h; have := t.nodes_pos; omega
  | succ M ih =>
    intro t hM hM2 hf hs
    obtain ⟨⟨kind, s0, s1, s2, s3, num, mn, mx, bare⟩, l⟩ := t
    have hlen := TL.length_le l
    simp only [T.nodes] at hM
    by_cases h8 : kind = 8
    · subst h8
      obtain ⟨t, rfl, hft⟩ := rep_sub hf rfl
      have hfm : Hd.formed ⟨8, s0, s1, s2, s3, num, mn, mx, bare⟩ 1 = true := by
        rw [T.form_eq, Bool.and_eq_true] at hf
        exact hf.1
      obtain ⟨b1, b2, b3⟩ := Hd.rep_bd hfm rfl
      simp only at b1 b2 b3
      have hz0 : s0 = 0 ∧ s1 = 0 ∧ s2 = 0 ∧ s3 = 0 ∧ num = 0 := by
        simp [Hd.formed, Hd.noSet] at hfm
        omega
      obtain ⟨rfl, rfl, rfl, rfl, rfl⟩ := hz0
      obtain ⟨m, rfl⟩ : ∃ m : Nat, mn = m := ⟨mn.toNat, by omega⟩
      refine refRep_any mx m bare t (by omega) b3 (fun hz => ?_)
      exact ih t (by simp only [TL.nodes] at hM; omega) (by omega) hft (rep_sub_size hf hs rfl hz).1
    · have hsub := node_sub_size hf hs h8
      rw [T.form_eq, Bool.and_eq_true] at hf
      exact refNode_any kind s0 s1 s2 s3 num mn mx bare l h8 (by omega) fun t ht => ih t (by have := TL.nodes_mem ht; omega) (by omega) (TL.form_mem hf.2 ht) (hsub t ht)
end Go.Proofs.YtbbhobojghmkpaaDoor
