/- trawllaw16.TurnMakes: it returns true, and what was there stays. -/
import Derived.Test.YtbiamlinoldnlaaLives
import Derived.Test.YtbiamlinoldnlaaRefTurn
import Derived.Test.YtbiamlinoldnlaaCopyNode
import Derived.Test.YtbiamlinoldnlaaFew
import Derived.Test.YtbiamlinoldnlaaSame
import Derived.Test.YtbiamlinoldnlaaSpoil
import Derived.Test.YtbiamlinoldnlaaPick
import Derived.Deep.DeepCutAuto
set_option linter.unusedSimpArgs false
set_option linter.unusedVariables false
set_option linter.unnecessarySimpa false
namespace Go.Proofs.Ytbiamlinoldnlaa
open Go.RowKit

theorem TL.nodes_append : ∀ a b : List T, TL.nodes (a ++ b) = TL.nodes a + TL.nodes b
  | [], b => by simp [TL.nodes]
  | t :: a, b => by simp only [List.cons_append, TL.nodes, TL.nodes_append a b]; omega
theorem TL.nodes_reverse : ∀ a : List T, TL.nodes a.reverse = TL.nodes a
  | [] => rfl
  | t :: a => by simp only [List.reverse_cons, TL.nodes_append, TL.nodes_reverse a, TL.nodes]; omega
mutual
theorem T.turn_nodes : ∀ t : T, t.turn.nodes = t.nodes
  | .mk h l => by
    simp only [T.turn]
    split <;> simp only [T.nodes, TL.nodes_reverse, TL.turn_nodes l]
theorem TL.turn_nodes : ∀ l : List T, TL.nodes (TL.turn l) = TL.nodes l
  | [] => rfl
  | t :: l => by simp only [TL.turn, TL.nodes, T.turn_nodes t, TL.turn_nodes l]
end

theorem Hd.same_refl (h : Hd) : h.same h = true := Hd.same_iff.2 rfl
mutual
theorem T.same_refl : ∀ t : T, t.same t = true
  | .mk h l => by simp [T.same, Hd.same_refl, TL.same_refl l]
theorem TL.same_refl : ∀ l : List T, TL.same l l = true
  | [] => rfl
  | t :: l => by simp [TL.same, T.same_refl t, TL.same_refl l]
end

/-- Two turned trees of one call's own, each in memory of its own, and what was there stays. -/
def Two (w4 : World) (tt : T) (v4 v5 : Value) (x : World) : Prop :=
  ∃ ga gb B c bs B' c' bs', v4 = .pointer (some ⟨ga, 0, none⟩) ∧ v5 = .pointer (some ⟨gb, 0, none⟩) ∧ Blk x ga 27 (tt.hd.cells (.slice B tt.subs.length c)).toArray ∧ Blk x gb 27 (tt.hd.cells (.slice B' tt.subs.length c')).toArray ∧
    T.Own x tt B bs ∧ T.Own x tt B' bs' ∧ bs.Nodup ∧ bs'.Nodup ∧ (∀ b ∈ bs, w4.heap.size ≤ b ∧ b < x.heap.size ∧ b ≠ ga ∧ b ≠ gb ∧ b ∉ bs') ∧ (∀ b ∈ bs', w4.heap.size ≤ b ∧ b < x.heap.size ∧ b ≠ ga ∧ b ≠ gb) ∧
    w4.heap.size ≤ ga ∧ w4.heap.size ≤ gb ∧ ga ≠ gb ∧ Below w4.heap.size w4 x

theorem Two.of {w4 : World} {tt : T} {ga gb lo : Nat} {B B' : Option Addr} {c c' : Nat} {bs bs' : List Nat} {x y v : World} (hS : Below w4.heap.size w4 x)
    (hrow : Hid (Blk y ga 27 (splice (#[.int .i64 0, .int .u64 0, .int .u64 0, .int .u64 0, .int .u64 0, .slice none 0 0, .int .i64 0, .int .i64 0, .int .i64 0, .bool false] : Array Value).toList 0 (tt.hd.cells (.slice B tt.subs.length c)).toArray.toList).toArray))
    (hrow2 : Hid (Blk v gb 27 (splice (#[.int .i64 0, .int .u64 0, .int .u64 0, .int .u64 0, .int .u64 0, .slice none 0 0, .int .i64 0, .int .i64 0, .int .i64 0, .bool false] : Array Value).toList 0 (tt.hd.cells (.slice B' tt.subs.length c')).toArray.toList).toArray))
    (hg : x.grownBy y (some ga)) (hg2 : y.grownBy v (some gb)) (hz : y.heap.size = x.heap.size) (hz2 : v.heap.size = y.heap.size)
    (ho : T.Own x tt B bs) (ho' : T.Own x tt B' bs') (hn : bs.Nodup) (hn' : bs'.Nodup) (hr : ∀ b ∈ bs, w4.heap.size ≤ b ∧ b < x.heap.size ∧ b ≠ ga ∧ b ≠ gb) (hr' : ∀ b ∈ bs', w4.heap.size ≤ b ∧ b < x.heap.size ∧ b ≠ ga ∧ b ≠ gb)
    (hd : ∀ b ∈ bs, b ∈ bs' → False) (h1 : w4.heap.size ≤ ga) (h2 : w4.heap.size ≤ gb) (h3 : ga ≠ gb) (hlt : gb < x.heap.size) (hlt' : ga < x.heap.size) : Two w4 tt (.pointer (some ⟨ga, 0, none⟩)) (.pointer (some ⟨gb, 0, none⟩)) v := by
  have r1 := hrow.out
  have r2 := hrow2.out
  rw [splice_all (by simp [Hd.cells_length])] at r1 r2
  have keep : ∀ b, b < x.heap.size → b ≠ ga → b ≠ gb → v.heap[b]? = x.heap[b]? := fun b hb n1 n2 => by
    rw [hg2.block b (by omega) (by simpa using n2), hg.block b hb (by simpa using n1)]
  refine ⟨ga, gb, B, c, bs, B', c', bs', rfl, rfl, r1.grown hg2 (by simpa using h3), r2, ho.same fun b hb => keep b (hr b hb).2.1 (hr b hb).2.2.1 (hr b hb).2.2.2, ho'.same fun b hb => keep b (hr' b hb).2.1 (hr' b hb).2.2.1 (hr' b hb).2.2.2, hn, hn',
    fun b hb => ⟨(hr b hb).1, by have := (hr b hb).2.1; omega, (hr b hb).2.2.1, (hr b hb).2.2.2, fun h => hd b hb h⟩, fun b hb => ⟨(hr' b hb).1, by have := (hr' b hb).2.1; omega, (hr' b hb).2.2.1, (hr' b hb).2.2.2⟩, h1, h2, h3, ?_⟩
  exact ⟨(hg2.os.trans hg.os).trans hS.os, (hg2.tape.trans hg.tape).trans hS.tape, (hg2.output.trans hg.output).trans hS.output, by have := hS.size; omega, fun b hb => by rw [keep b (by have := hS.size; omega) (by omega) (by omega), hS.block b hb]⟩

set_option maxRecDepth 100000 in
set_option maxHeartbeats 4000000 in
theorem makes_true (t : T) (A : Option Addr) (c : Nat) (w : World) (hwf : t.wf) (hin : T.In w (· < w.heap.size) t A) :
    Calls Try.prog 3 #[.agg (t.hd.cells (.slice A t.subs.length c)).toArray] w fun e w' => e = .returned (.bool true) ∧ Below w.heap.size w w' := by
  have HF := hide (fun x hi => few_any t A c 3000 x hwf (by decide) (by decide) hi)
  have hnod := hide (fun h => few_nodes (t := t) (m := 3000) (by decide) h)
  have HC := hide (fun x h => copyNode_any 1000000 t A c x h (by decide))
  have HR := hide (fun x h => refTurn_any 1000000 t A c x h (by decide))
  have HT := hide (fun B d x h => Turn_any t B d x h)
  have HIN := hide hin
  obtain ⟨h, l⟩ := t
  obtain ⟨kind, s0, s1, s2, s3, num, mn, mx, bare⟩ := h
  simp only [T.hd, T.subs, Hd.cells] at HF HC HR HT ⊢
  clear hwf hin
  go_enter Try.func3, Try.ntmps3
  go_wp2_with fail
  refine (lives_true _).mono ?_
  rintro e w1 ⟨rfl, hbel⟩
  have z1 := hbel.size
  rw [World.size_alloc] at z1
  have hb0 := (Blk.new w 27 _).below hbel (by simp)
  have hbel0 : Below w.heap.size w w1 := ((Below.refl _ _).alloc (Nat.le_refl _) _).trans (hbel.mono (by simp))
  have c0 := hb0.cell
  clear hbel
  go_wp2_with fail
  refine (HF.out w1 (HIN.out.same (same_of_below hbel0) (fun x hx => by omega))).mono ?_
  rintro e w2 ⟨rfl, hbel⟩
  have z2 := hbel.size
  have hb2 := hb0.below hbel (by omega)
  have hbel2 : Below w.heap.size w w2 := hbel0.trans (hbel.mono (by omega))
  have c2 := hb2.cell
  clear hbel c0 hb0 hbel0 HF
  generalize hfew : decide (0 ≤ (T.mk ⟨kind, s0, s1, s2, s3, num, mn, mx, bare⟩ l).left 3000) = few at *
  cases few with
  | false =>
    clear hfew hnod
    have hb := hide hbel2
    clear hbel2
    go_wp2_with fail
    go_ret
    exact ⟨rfl, hb.out⟩
  | true =>
    have hN := hnod.out rfl
    clear hnod hfew
    go_wp2_with fail
    refine (HC.out w2 (by omega) (HIN.out.same (same_of_below hbel2) (fun x hx => by omega))).mono ?_
    rintro e w3 ⟨B3, c3, bs3, rfl, hown3, hnd3, hfr3, hbel⟩
    have z3 := hbel.size
    have hb3 := hb2.below hbel (by omega)
    have hbel3 : Below w.heap.size w w3 := hbel2.trans (hbel.mono (by omega))
    have c3' := hb3.cell
    clear hbel c2 hb2 hbel2 HC
    have hO3 := hide hown3
    have hR3 := hide hfr3
    clear hown3
    obtain ⟨tt, htt⟩ : ∃ tt, tt = (T.mk ⟨kind, s0, s1, s2, s3, num, mn, mx, bare⟩ l).turn := ⟨_, rfl⟩
    have hnn := (T.turn_nodes (T.mk ⟨kind, s0, s1, s2, s3, num, mn, mx, bare⟩ l))
    rw [← htt] at HT HR hnn
    generalize htm : T.mk ⟨kind, s0, s1, s2, s3, num, mn, mx, bare⟩ l = tm at *
    clear htt
    go_upto_region 6 with fail
    have hb4 := (Blk.new w3 27 #[.int .i64 kind, .int .u64 s0, .int .u64 s1, .int .u64 s2, .int .u64 s3, .slice B3 l.length c3, .int .i64 num, .int .i64 mn, .int .i64 mx, .bool bare])
    have hbel4 : Below w3.heap.size w3 (w3.alloc (.cells #[.int .i64 kind, .int .u64 s0, .int .u64 s1, .int .u64 s2, .int .u64 s3, .slice B3 l.length c3, .int .i64 num, .int .i64 mn, .int .i64 mx, .bool bare] 27)) := (Below.refl _ _).alloc (Nat.le_refl _) _
    have z4 := World.size_alloc w3 (.cells #[.int .i64 kind, .int .u64 s0, .int .u64 s1, .int .u64 s2, .int .u64 s3, .slice B3 l.length c3, .int .i64 num, .int .i64 mn, .int .i64 mx, .bool bare] 27)
    generalize w3.alloc (.cells #[.int .i64 kind, .int .u64 s0, .int .u64 s1, .int .u64 s2, .int .u64 s3, .slice B3 l.length c3, .int .i64 num, .int .i64 mn, .int .i64 mx, .bool bare] 27) = w4 at *
    have HO := hide (And.intro ((hO3.out.in_ (ok := (· < w3.heap.size)) (fun b hb => (hR3.out b hb).2)).same (ok' := (· < w4.heap.size)) (same_of_below hbel4) (fun b hb => by omega)) (And.intro hbel4 hbel3))
    go_cut [4, 5] (fun v4 v5 x => Two w4 tt v4 v5 x)
    case first =>
      refine wp_region_mix (fun x => Below w4.heap.size w4 x) [6, 7] (by kernel_rfl) (fun hcl => ?_)
      have hS : Below w4.heap.size w4 w4.drew := (Below.refl _ _).drew
      refine wpAnyT_take (i := 0) hcl rfl (by kernel_rfl) (v := ?_) (fun _ _ _ h => h) hS (Or.inl ⟨rfl, fun w' hS => ?_⟩) (fun hcl => ?_)
      rotate_left
      · skip
        have c4 := (hb4.below hS (by omega)).cell
        go_simp
        with_reducible rfl
      simp only [List.getElem_toArray, List.getElem_cons_zero, List.getElem_cons_succ, Act.put, List.setIfInBounds_toArray, List.set_cons_zero, List.set_cons_succ]
      refine wpAnyT_take (i := 2) hcl rfl (by kernel_rfl) (v := ?_) (fun _ _ _ h => h) hS (Or.inl ⟨rfl, fun w' hS => ?_⟩) (fun hcl => ?_)
      rotate_left
      · skip
        have c4 := (hb4.below hS (by omega)).cell
        go_simp
        with_reducible rfl
      simp only [List.getElem_toArray, List.getElem_cons_zero, List.getElem_cons_succ, Act.put, List.setIfInBounds_toArray, List.set_cons_zero, List.set_cons_succ]
      obtain ⟨x0, hx0⟩ : ∃ x, x = w4.drew := ⟨_, rfl⟩
      rw [← hx0] at hS ⊢
      have zx0 : w4.heap.size ≤ x0.heap.size := hS.size
      clear hx0
      refine wpAnyT_pick3 (i := 1) (j := 4) (l := 5) hcl rfl rfl rfl (by kernel_rfl) (fun hcl => ?_) (fun hcl => ?_) (fun hcl => ?_)
      · skip
        simp only [List.getElem_toArray, List.getElem_cons_zero, List.getElem_cons_succ, Act.put, List.setIfInBounds_toArray, List.set_cons_zero, List.set_cons_succ]
        go_wp2_with fail
        refine (HT.out B3 c3 x0 (by omega) (HO.out.1.same (same_of_below hS) (fun y hy => by omega))).mono ?_
        rintro e x1 ⟨B1, d1, bs1, rfl, ho1, hn1, hr1, hbel1⟩
        have zx1 : x0.heap.size ≤ x1.heap.size := hbel1.size
        have hS1 : Below w4.heap.size w4 x1 := hS.trans (hbel1.mono (by omega))
        go_wp2_with fail
        refine ⟨hS1, ?_⟩
        refine wpAnyT_pick3 (i := 3) (j := 4) (l := 5) hcl rfl rfl rfl (by kernel_rfl) (fun hcl => ?_) (fun hcl => ?_) (fun hcl => ?_)
        · skip
          simp only [List.getElem_toArray, List.getElem_cons_zero, List.getElem_cons_succ, Act.put, List.setIfInBounds_toArray, List.set_cons_zero, List.set_cons_succ]
          go_wp2_with fail
          refine (HT.out B3 c3 x1 (by omega) (HO.out.1.same (same_of_below hS1) (fun y hy => by omega))).mono ?_
          rintro e x2 ⟨B2, d2, bs2, rfl, ho2, hn2, hr2, hbel2⟩
          have zx2 : x1.heap.size ≤ x2.heap.size := hbel2.size
          have hS2 : Below w4.heap.size w4 x2 := hS1.trans (hbel2.mono (by omega))
          have ho1_2 := ho1.same ((same_of_below hbel2).mono fun b hb => by have := hr1 b hb; omega)
          go_wp2_with fail
          refine ⟨hS2, ?_⟩
          refine wpAnyT_pick2 (i := 4) (j := 5) hcl rfl rfl (by kernel_rfl) (fun hcl => ?_) (fun hcl => ?_)
          · skip
            simp only [List.getElem_toArray, List.getElem_cons_zero, List.getElem_cons_succ, Act.put, List.setIfInBounds_toArray, List.set_cons_zero, List.set_cons_succ]
            go_wp2_with fail
            generalize hx3 : x2.alloc (.cells #[.int .i64 0, .int .u64 0, .int .u64 0, .int .u64 0, .int .u64 0, .slice none 0 0, .int .i64 0, .int .i64 0, .int .i64 0, .bool false] 27) = x3
            have hg3 : Blk x3 x2.heap.size 27 #[.int .i64 0, .int .u64 0, .int .u64 0, .int .u64 0, .int .u64 0, .slice none 0 0, .int .i64 0, .int .i64 0, .int .i64 0, .bool false] := hx3 ▸ Blk.new x2 27 #[.int .i64 0, .int .u64 0, .int .u64 0, .int .u64 0, .int .u64 0, .slice none 0 0, .int .i64 0, .int .i64 0, .int .i64 0, .bool false]
            have zx3 : x2.heap.size < x3.heap.size := by rw [← hx3]; simp
            have hS3 : Below w4.heap.size w4 x3 := hx3 ▸ hS2.alloc (by omega) _
            have hbel3 : Below x2.heap.size x2 x3 := hx3 ▸ (Below.refl _ _).alloc (Nat.le_refl _) _
            clear hx3
            have ho1_3 := ho1_2.same ((same_of_below hbel3).mono fun b hb => by have := hr1 b hb; omega)
            have ho2_3 := ho2.same ((same_of_below hbel3).mono fun b hb => by have := hr2 b hb; omega)
            refine ⟨hS3, ?_⟩
            refine wpAnyT_step (i := 5) hcl rfl (by kernel_rfl) (fun hcl => ?_)
            simp only [List.getElem_toArray, List.getElem_cons_zero, List.getElem_cons_succ, Act.put, List.setIfInBounds_toArray, List.set_cons_zero, List.set_cons_succ]
            go_wp2_with fail
            generalize hx4 : x3.alloc (.cells #[.int .i64 0, .int .u64 0, .int .u64 0, .int .u64 0, .int .u64 0, .slice none 0 0, .int .i64 0, .int .i64 0, .int .i64 0, .bool false] 27) = x4
            have hg4 : Blk x4 x3.heap.size 27 #[.int .i64 0, .int .u64 0, .int .u64 0, .int .u64 0, .int .u64 0, .slice none 0 0, .int .i64 0, .int .i64 0, .int .i64 0, .bool false] := hx4 ▸ Blk.new x3 27 #[.int .i64 0, .int .u64 0, .int .u64 0, .int .u64 0, .int .u64 0, .slice none 0 0, .int .i64 0, .int .i64 0, .int .i64 0, .bool false]
            have zx4 : x3.heap.size < x4.heap.size := by rw [← hx4]; simp
            have hS4 : Below w4.heap.size w4 x4 := hx4 ▸ hS3.alloc (by omega) _
            have hbel4 : Below x3.heap.size x3 x4 := hx4 ▸ (Below.refl _ _).alloc (Nat.le_refl _) _
            clear hx4
            have ho1_4 := ho1_3.same ((same_of_below hbel4).mono fun b hb => by have := hr1 b hb; omega)
            have ho2_4 := ho2_3.same ((same_of_below hbel4).mono fun b hb => by have := hr2 b hb; omega)
            have hg3_4 := hg3.below hbel4 (by omega)
            refine ⟨hS4, ?_⟩
            refine wpAnyT_last (i := 6) hcl rfl (by kernel_rfl) (by kernel_rfl) (fun hcl => ?_)
            simp only [List.getElem_toArray, List.getElem_cons_zero, List.getElem_cons_succ, Act.put, List.setIfInBounds_toArray, List.set_cons_zero, List.set_cons_succ]
            refine wpList_store_row rfl _ _ _ rfl x2.heap.size 0 _ _ _ rfl rfl hg3_4 Try.sizeNode (by simp [Hd.cells_length]) (fun u hu => cells_one tt.hd B1 tt.subs.length d1 u (by simpa using hu)) ?_
            intro y5 hrow5 hgr5 hz5
            refine wpList_nil ?_
            have hgb5 := hg4.grown hgr5 (by simp; omega)
            refine wpAnyT_last (i := 7) hcl rfl (by kernel_rfl) (by kernel_rfl) (fun hcl => ?_)
            simp only [List.getElem_toArray, List.getElem_cons_zero, List.getElem_cons_succ, Act.put, List.setIfInBounds_toArray, List.set_cons_zero, List.set_cons_succ]
            refine wpList_store_row rfl _ _ _ rfl x3.heap.size 0 _ _ _ rfl rfl hgb5 Try.sizeNode (by simp [Hd.cells_length]) (fun u hu => cells_one tt.hd B2 tt.subs.length d2 u (by simpa using hu)) ?_
            intro v5 hrow25 hgr25 hz25
            refine wpList_nil ?_
            refine wpAnyT_done (by kernel_rfl) ?_ _
            go_wp2_with fail
            go_meet
            case rel => exact Two.of (lo := x4.heap.size) hS4 hrow5 hrow25 hgr5 hgr25 hz5 hz25 ho1_4 ho2_4 hn1 hn2 (fun b hb => by have := hr1 b hb; omega) (fun b hb => by have := hr2 b hb; omega) (fun b hb hb' => by have := hr1 b hb; have := hr2 b hb'; omega) (by omega) (by omega) (by omega) (by omega) (by omega)
          · skip
            simp only [List.getElem_toArray, List.getElem_cons_zero, List.getElem_cons_succ, Act.put, List.setIfInBounds_toArray, List.set_cons_zero, List.set_cons_succ]
            go_wp2_with fail
            generalize hx6 : x2.alloc (.cells #[.int .i64 0, .int .u64 0, .int .u64 0, .int .u64 0, .int .u64 0, .slice none 0 0, .int .i64 0, .int .i64 0, .int .i64 0, .bool false] 27) = x6
            have hg6 : Blk x6 x2.heap.size 27 #[.int .i64 0, .int .u64 0, .int .u64 0, .int .u64 0, .int .u64 0, .slice none 0 0, .int .i64 0, .int .i64 0, .int .i64 0, .bool false] := hx6 ▸ Blk.new x2 27 #[.int .i64 0, .int .u64 0, .int .u64 0, .int .u64 0, .int .u64 0, .slice none 0 0, .int .i64 0, .int .i64 0, .int .i64 0, .bool false]
            have zx6 : x2.heap.size < x6.heap.size := by rw [← hx6]; simp
            have hS6 : Below w4.heap.size w4 x6 := hx6 ▸ hS2.alloc (by omega) _
            have hbel6 : Below x2.heap.size x2 x6 := hx6 ▸ (Below.refl _ _).alloc (Nat.le_refl _) _
            clear hx6
            have ho1_6 := ho1_2.same ((same_of_below hbel6).mono fun b hb => by have := hr1 b hb; omega)
            have ho2_6 := ho2.same ((same_of_below hbel6).mono fun b hb => by have := hr2 b hb; omega)
            refine ⟨hS6, ?_⟩
            refine wpAnyT_step (i := 4) hcl rfl (by kernel_rfl) (fun hcl => ?_)
            simp only [List.getElem_toArray, List.getElem_cons_zero, List.getElem_cons_succ, Act.put, List.setIfInBounds_toArray, List.set_cons_zero, List.set_cons_succ]
            go_wp2_with fail
            generalize hx7 : x6.alloc (.cells #[.int .i64 0, .int .u64 0, .int .u64 0, .int .u64 0, .int .u64 0, .slice none 0 0, .int .i64 0, .int .i64 0, .int .i64 0, .bool false] 27) = x7
            have hg7 : Blk x7 x6.heap.size 27 #[.int .i64 0, .int .u64 0, .int .u64 0, .int .u64 0, .int .u64 0, .slice none 0 0, .int .i64 0, .int .i64 0, .int .i64 0, .bool false] := hx7 ▸ Blk.new x6 27 #[.int .i64 0, .int .u64 0, .int .u64 0, .int .u64 0, .int .u64 0, .slice none 0 0, .int .i64 0, .int .i64 0, .int .i64 0, .bool false]
            have zx7 : x6.heap.size < x7.heap.size := by rw [← hx7]; simp
            have hS7 : Below w4.heap.size w4 x7 := hx7 ▸ hS6.alloc (by omega) _
            have hbel7 : Below x6.heap.size x6 x7 := hx7 ▸ (Below.refl _ _).alloc (Nat.le_refl _) _
            clear hx7
            have ho1_7 := ho1_6.same ((same_of_below hbel7).mono fun b hb => by have := hr1 b hb; omega)
            have ho2_7 := ho2_6.same ((same_of_below hbel7).mono fun b hb => by have := hr2 b hb; omega)
            have hg6_7 := hg6.below hbel7 (by omega)
            refine ⟨hS7, ?_⟩
            refine wpAnyT_last (i := 6) hcl rfl (by kernel_rfl) (by kernel_rfl) (fun hcl => ?_)
            simp only [List.getElem_toArray, List.getElem_cons_zero, List.getElem_cons_succ, Act.put, List.setIfInBounds_toArray, List.set_cons_zero, List.set_cons_succ]
            refine wpList_store_row rfl _ _ _ rfl x6.heap.size 0 _ _ _ rfl rfl hg7 Try.sizeNode (by simp [Hd.cells_length]) (fun u hu => cells_one tt.hd B1 tt.subs.length d1 u (by simpa using hu)) ?_
            intro y8 hrow8 hgr8 hz8
            refine wpList_nil ?_
            have hgb8 := hg6_7.grown hgr8 (by simp; omega)
            refine wpAnyT_last (i := 7) hcl rfl (by kernel_rfl) (by kernel_rfl) (fun hcl => ?_)
            simp only [List.getElem_toArray, List.getElem_cons_zero, List.getElem_cons_succ, Act.put, List.setIfInBounds_toArray, List.set_cons_zero, List.set_cons_succ]
            refine wpList_store_row rfl _ _ _ rfl x2.heap.size 0 _ _ _ rfl rfl hgb8 Try.sizeNode (by simp [Hd.cells_length]) (fun u hu => cells_one tt.hd B2 tt.subs.length d2 u (by simpa using hu)) ?_
            intro v8 hrow28 hgr28 hz28
            refine wpList_nil ?_
            refine wpAnyT_done (by kernel_rfl) ?_ _
            go_wp2_with fail
            go_meet
            case rel => exact Two.of (lo := x7.heap.size) hS7 hrow8 hrow28 hgr8 hgr28 hz8 hz28 ho1_7 ho2_7 hn1 hn2 (fun b hb => by have := hr1 b hb; omega) (fun b hb => by have := hr2 b hb; omega) (fun b hb hb' => by have := hr1 b hb; have := hr2 b hb'; omega) (by omega) (by omega) (by omega) (by omega) (by omega)
        · skip
          simp only [List.getElem_toArray, List.getElem_cons_zero, List.getElem_cons_succ, Act.put, List.setIfInBounds_toArray, List.set_cons_zero, List.set_cons_succ]
          go_wp2_with fail
          generalize hx9 : x1.alloc (.cells #[.int .i64 0, .int .u64 0, .int .u64 0, .int .u64 0, .int .u64 0, .slice none 0 0, .int .i64 0, .int .i64 0, .int .i64 0, .bool false] 27) = x9
          have hg9 : Blk x9 x1.heap.size 27 #[.int .i64 0, .int .u64 0, .int .u64 0, .int .u64 0, .int .u64 0, .slice none 0 0, .int .i64 0, .int .i64 0, .int .i64 0, .bool false] := hx9 ▸ Blk.new x1 27 #[.int .i64 0, .int .u64 0, .int .u64 0, .int .u64 0, .int .u64 0, .slice none 0 0, .int .i64 0, .int .i64 0, .int .i64 0, .bool false]
          have zx9 : x1.heap.size < x9.heap.size := by rw [← hx9]; simp
          have hS9 : Below w4.heap.size w4 x9 := hx9 ▸ hS1.alloc (by omega) _
          have hbel9 : Below x1.heap.size x1 x9 := hx9 ▸ (Below.refl _ _).alloc (Nat.le_refl _) _
          clear hx9
          have ho1_9 := ho1.same ((same_of_below hbel9).mono fun b hb => by have := hr1 b hb; omega)
          refine ⟨hS9, ?_⟩
          refine wpAnyT_pick2 (i := 3) (j := 5) hcl rfl rfl (by kernel_rfl) (fun hcl => ?_) (fun hcl => ?_)
          · skip
            simp only [List.getElem_toArray, List.getElem_cons_zero, List.getElem_cons_succ, Act.put, List.setIfInBounds_toArray, List.set_cons_zero, List.set_cons_succ]
            go_wp2_with fail
            refine (HT.out B3 c3 x9 (by omega) (HO.out.1.same (same_of_below hS9) (fun y hy => by omega))).mono ?_
            rintro e x10 ⟨B10, d10, bs10, rfl, ho10, hn10, hr10, hbel10⟩
            have zx10 : x9.heap.size ≤ x10.heap.size := hbel10.size
            have hS10 : Below w4.heap.size w4 x10 := hS9.trans (hbel10.mono (by omega))
            have ho1_10 := ho1_9.same ((same_of_below hbel10).mono fun b hb => by have := hr1 b hb; omega)
            have hg9_10 := hg9.below hbel10 (by omega)
            go_wp2_with fail
            refine ⟨hS10, ?_⟩
            refine wpAnyT_step (i := 5) hcl rfl (by kernel_rfl) (fun hcl => ?_)
            simp only [List.getElem_toArray, List.getElem_cons_zero, List.getElem_cons_succ, Act.put, List.setIfInBounds_toArray, List.set_cons_zero, List.set_cons_succ]
            go_wp2_with fail
            generalize hx11 : x10.alloc (.cells #[.int .i64 0, .int .u64 0, .int .u64 0, .int .u64 0, .int .u64 0, .slice none 0 0, .int .i64 0, .int .i64 0, .int .i64 0, .bool false] 27) = x11
            have hg11 : Blk x11 x10.heap.size 27 #[.int .i64 0, .int .u64 0, .int .u64 0, .int .u64 0, .int .u64 0, .slice none 0 0, .int .i64 0, .int .i64 0, .int .i64 0, .bool false] := hx11 ▸ Blk.new x10 27 #[.int .i64 0, .int .u64 0, .int .u64 0, .int .u64 0, .int .u64 0, .slice none 0 0, .int .i64 0, .int .i64 0, .int .i64 0, .bool false]
            have zx11 : x10.heap.size < x11.heap.size := by rw [← hx11]; simp
            have hS11 : Below w4.heap.size w4 x11 := hx11 ▸ hS10.alloc (by omega) _
            have hbel11 : Below x10.heap.size x10 x11 := hx11 ▸ (Below.refl _ _).alloc (Nat.le_refl _) _
            clear hx11
            have ho1_11 := ho1_10.same ((same_of_below hbel11).mono fun b hb => by have := hr1 b hb; omega)
            have ho10_11 := ho10.same ((same_of_below hbel11).mono fun b hb => by have := hr10 b hb; omega)
            have hg9_11 := hg9_10.below hbel11 (by omega)
            refine ⟨hS11, ?_⟩
            refine wpAnyT_last (i := 6) hcl rfl (by kernel_rfl) (by kernel_rfl) (fun hcl => ?_)
            simp only [List.getElem_toArray, List.getElem_cons_zero, List.getElem_cons_succ, Act.put, List.setIfInBounds_toArray, List.set_cons_zero, List.set_cons_succ]
            refine wpList_store_row rfl _ _ _ rfl x1.heap.size 0 _ _ _ rfl rfl hg9_11 Try.sizeNode (by simp [Hd.cells_length]) (fun u hu => cells_one tt.hd B1 tt.subs.length d1 u (by simpa using hu)) ?_
            intro y12 hrow12 hgr12 hz12
            refine wpList_nil ?_
            have hgb12 := hg11.grown hgr12 (by simp; omega)
            refine wpAnyT_last (i := 7) hcl rfl (by kernel_rfl) (by kernel_rfl) (fun hcl => ?_)
            simp only [List.getElem_toArray, List.getElem_cons_zero, List.getElem_cons_succ, Act.put, List.setIfInBounds_toArray, List.set_cons_zero, List.set_cons_succ]
            refine wpList_store_row rfl _ _ _ rfl x10.heap.size 0 _ _ _ rfl rfl hgb12 Try.sizeNode (by simp [Hd.cells_length]) (fun u hu => cells_one tt.hd B10 tt.subs.length d10 u (by simpa using hu)) ?_
            intro v12 hrow212 hgr212 hz212
            refine wpList_nil ?_
            refine wpAnyT_done (by kernel_rfl) ?_ _
            go_wp2_with fail
            go_meet
            case rel => exact Two.of (lo := x11.heap.size) hS11 hrow12 hrow212 hgr12 hgr212 hz12 hz212 ho1_11 ho10_11 hn1 hn10 (fun b hb => by have := hr1 b hb; omega) (fun b hb => by have := hr10 b hb; omega) (fun b hb hb' => by have := hr1 b hb; have := hr10 b hb'; omega) (by omega) (by omega) (by omega) (by omega) (by omega)
          · skip
            simp only [List.getElem_toArray, List.getElem_cons_zero, List.getElem_cons_succ, Act.put, List.setIfInBounds_toArray, List.set_cons_zero, List.set_cons_succ]
            go_wp2_with fail
            generalize hx13 : x9.alloc (.cells #[.int .i64 0, .int .u64 0, .int .u64 0, .int .u64 0, .int .u64 0, .slice none 0 0, .int .i64 0, .int .i64 0, .int .i64 0, .bool false] 27) = x13
            have hg13 : Blk x13 x9.heap.size 27 #[.int .i64 0, .int .u64 0, .int .u64 0, .int .u64 0, .int .u64 0, .slice none 0 0, .int .i64 0, .int .i64 0, .int .i64 0, .bool false] := hx13 ▸ Blk.new x9 27 #[.int .i64 0, .int .u64 0, .int .u64 0, .int .u64 0, .int .u64 0, .slice none 0 0, .int .i64 0, .int .i64 0, .int .i64 0, .bool false]
            have zx13 : x9.heap.size < x13.heap.size := by rw [← hx13]; simp
            have hS13 : Below w4.heap.size w4 x13 := hx13 ▸ hS9.alloc (by omega) _
            have hbel13 : Below x9.heap.size x9 x13 := hx13 ▸ (Below.refl _ _).alloc (Nat.le_refl _) _
            clear hx13
            have ho1_13 := ho1_9.same ((same_of_below hbel13).mono fun b hb => by have := hr1 b hb; omega)
            have hg9_13 := hg9.below hbel13 (by omega)
            refine ⟨hS13, ?_⟩
            refine wpAnyT_step (i := 3) hcl rfl (by kernel_rfl) (fun hcl => ?_)
            simp only [List.getElem_toArray, List.getElem_cons_zero, List.getElem_cons_succ, Act.put, List.setIfInBounds_toArray, List.set_cons_zero, List.set_cons_succ]
            go_wp2_with fail
            refine (HT.out B3 c3 x13 (by omega) (HO.out.1.same (same_of_below hS13) (fun y hy => by omega))).mono ?_
            rintro e x14 ⟨B14, d14, bs14, rfl, ho14, hn14, hr14, hbel14⟩
            have zx14 : x13.heap.size ≤ x14.heap.size := hbel14.size
            have hS14 : Below w4.heap.size w4 x14 := hS13.trans (hbel14.mono (by omega))
            have ho1_14 := ho1_13.same ((same_of_below hbel14).mono fun b hb => by have := hr1 b hb; omega)
            have hg9_14 := hg9_13.below hbel14 (by omega)
            have hg13_14 := hg13.below hbel14 (by omega)
            go_wp2_with fail
            refine ⟨hS14, ?_⟩
            refine wpAnyT_last (i := 6) hcl rfl (by kernel_rfl) (by kernel_rfl) (fun hcl => ?_)
            simp only [List.getElem_toArray, List.getElem_cons_zero, List.getElem_cons_succ, Act.put, List.setIfInBounds_toArray, List.set_cons_zero, List.set_cons_succ]
            refine wpList_store_row rfl _ _ _ rfl x1.heap.size 0 _ _ _ rfl rfl hg9_14 Try.sizeNode (by simp [Hd.cells_length]) (fun u hu => cells_one tt.hd B1 tt.subs.length d1 u (by simpa using hu)) ?_
            intro y15 hrow15 hgr15 hz15
            refine wpList_nil ?_
            have hgb15 := hg13_14.grown hgr15 (by simp; omega)
            refine wpAnyT_last (i := 7) hcl rfl (by kernel_rfl) (by kernel_rfl) (fun hcl => ?_)
            simp only [List.getElem_toArray, List.getElem_cons_zero, List.getElem_cons_succ, Act.put, List.setIfInBounds_toArray, List.set_cons_zero, List.set_cons_succ]
            refine wpList_store_row rfl _ _ _ rfl x9.heap.size 0 _ _ _ rfl rfl hgb15 Try.sizeNode (by simp [Hd.cells_length]) (fun u hu => cells_one tt.hd B14 tt.subs.length d14 u (by simpa using hu)) ?_
            intro v15 hrow215 hgr215 hz215
            refine wpList_nil ?_
            refine wpAnyT_done (by kernel_rfl) ?_ _
            go_wp2_with fail
            go_meet
            case rel => exact Two.of (lo := x14.heap.size) hS14 hrow15 hrow215 hgr15 hgr215 hz15 hz215 ho1_14 ho14 hn1 hn14 (fun b hb => by have := hr1 b hb; omega) (fun b hb => by have := hr14 b hb; omega) (fun b hb hb' => by have := hr1 b hb; have := hr14 b hb'; omega) (by omega) (by omega) (by omega) (by omega) (by omega)
        · skip
          simp only [List.getElem_toArray, List.getElem_cons_zero, List.getElem_cons_succ, Act.put, List.setIfInBounds_toArray, List.set_cons_zero, List.set_cons_succ]
          go_wp2_with fail
          generalize hx16 : x1.alloc (.cells #[.int .i64 0, .int .u64 0, .int .u64 0, .int .u64 0, .int .u64 0, .slice none 0 0, .int .i64 0, .int .i64 0, .int .i64 0, .bool false] 27) = x16
          have hg16 : Blk x16 x1.heap.size 27 #[.int .i64 0, .int .u64 0, .int .u64 0, .int .u64 0, .int .u64 0, .slice none 0 0, .int .i64 0, .int .i64 0, .int .i64 0, .bool false] := hx16 ▸ Blk.new x1 27 #[.int .i64 0, .int .u64 0, .int .u64 0, .int .u64 0, .int .u64 0, .slice none 0 0, .int .i64 0, .int .i64 0, .int .i64 0, .bool false]
          have zx16 : x1.heap.size < x16.heap.size := by rw [← hx16]; simp
          have hS16 : Below w4.heap.size w4 x16 := hx16 ▸ hS1.alloc (by omega) _
          have hbel16 : Below x1.heap.size x1 x16 := hx16 ▸ (Below.refl _ _).alloc (Nat.le_refl _) _
          clear hx16
          have ho1_16 := ho1.same ((same_of_below hbel16).mono fun b hb => by have := hr1 b hb; omega)
          refine ⟨hS16, ?_⟩
          refine wpAnyT_pick2 (i := 3) (j := 4) hcl rfl rfl (by kernel_rfl) (fun hcl => ?_) (fun hcl => ?_)
          · skip
            simp only [List.getElem_toArray, List.getElem_cons_zero, List.getElem_cons_succ, Act.put, List.setIfInBounds_toArray, List.set_cons_zero, List.set_cons_succ]
            go_wp2_with fail
            refine (HT.out B3 c3 x16 (by omega) (HO.out.1.same (same_of_below hS16) (fun y hy => by omega))).mono ?_
            rintro e x17 ⟨B17, d17, bs17, rfl, ho17, hn17, hr17, hbel17⟩
            have zx17 : x16.heap.size ≤ x17.heap.size := hbel17.size
            have hS17 : Below w4.heap.size w4 x17 := hS16.trans (hbel17.mono (by omega))
            have ho1_17 := ho1_16.same ((same_of_below hbel17).mono fun b hb => by have := hr1 b hb; omega)
            have hg16_17 := hg16.below hbel17 (by omega)
            go_wp2_with fail
            refine ⟨hS17, ?_⟩
            refine wpAnyT_step (i := 4) hcl rfl (by kernel_rfl) (fun hcl => ?_)
            simp only [List.getElem_toArray, List.getElem_cons_zero, List.getElem_cons_succ, Act.put, List.setIfInBounds_toArray, List.set_cons_zero, List.set_cons_succ]
            go_wp2_with fail
            generalize hx18 : x17.alloc (.cells #[.int .i64 0, .int .u64 0, .int .u64 0, .int .u64 0, .int .u64 0, .slice none 0 0, .int .i64 0, .int .i64 0, .int .i64 0, .bool false] 27) = x18
            have hg18 : Blk x18 x17.heap.size 27 #[.int .i64 0, .int .u64 0, .int .u64 0, .int .u64 0, .int .u64 0, .slice none 0 0, .int .i64 0, .int .i64 0, .int .i64 0, .bool false] := hx18 ▸ Blk.new x17 27 #[.int .i64 0, .int .u64 0, .int .u64 0, .int .u64 0, .int .u64 0, .slice none 0 0, .int .i64 0, .int .i64 0, .int .i64 0, .bool false]
            have zx18 : x17.heap.size < x18.heap.size := by rw [← hx18]; simp
            have hS18 : Below w4.heap.size w4 x18 := hx18 ▸ hS17.alloc (by omega) _
            have hbel18 : Below x17.heap.size x17 x18 := hx18 ▸ (Below.refl _ _).alloc (Nat.le_refl _) _
            clear hx18
            have ho1_18 := ho1_17.same ((same_of_below hbel18).mono fun b hb => by have := hr1 b hb; omega)
            have ho17_18 := ho17.same ((same_of_below hbel18).mono fun b hb => by have := hr17 b hb; omega)
            have hg16_18 := hg16_17.below hbel18 (by omega)
            refine ⟨hS18, ?_⟩
            refine wpAnyT_last (i := 6) hcl rfl (by kernel_rfl) (by kernel_rfl) (fun hcl => ?_)
            simp only [List.getElem_toArray, List.getElem_cons_zero, List.getElem_cons_succ, Act.put, List.setIfInBounds_toArray, List.set_cons_zero, List.set_cons_succ]
            refine wpList_store_row rfl _ _ _ rfl x17.heap.size 0 _ _ _ rfl rfl hg18 Try.sizeNode (by simp [Hd.cells_length]) (fun u hu => cells_one tt.hd B1 tt.subs.length d1 u (by simpa using hu)) ?_
            intro y19 hrow19 hgr19 hz19
            refine wpList_nil ?_
            have hgb19 := hg16_18.grown hgr19 (by simp; omega)
            refine wpAnyT_last (i := 7) hcl rfl (by kernel_rfl) (by kernel_rfl) (fun hcl => ?_)
            simp only [List.getElem_toArray, List.getElem_cons_zero, List.getElem_cons_succ, Act.put, List.setIfInBounds_toArray, List.set_cons_zero, List.set_cons_succ]
            refine wpList_store_row rfl _ _ _ rfl x1.heap.size 0 _ _ _ rfl rfl hgb19 Try.sizeNode (by simp [Hd.cells_length]) (fun u hu => cells_one tt.hd B17 tt.subs.length d17 u (by simpa using hu)) ?_
            intro v19 hrow219 hgr219 hz219
            refine wpList_nil ?_
            refine wpAnyT_done (by kernel_rfl) ?_ _
            go_wp2_with fail
            go_meet
            case rel => exact Two.of (lo := x18.heap.size) hS18 hrow19 hrow219 hgr19 hgr219 hz19 hz219 ho1_18 ho17_18 hn1 hn17 (fun b hb => by have := hr1 b hb; omega) (fun b hb => by have := hr17 b hb; omega) (fun b hb hb' => by have := hr1 b hb; have := hr17 b hb'; omega) (by omega) (by omega) (by omega) (by omega) (by omega)
          · skip
            simp only [List.getElem_toArray, List.getElem_cons_zero, List.getElem_cons_succ, Act.put, List.setIfInBounds_toArray, List.set_cons_zero, List.set_cons_succ]
            go_wp2_with fail
            generalize hx20 : x16.alloc (.cells #[.int .i64 0, .int .u64 0, .int .u64 0, .int .u64 0, .int .u64 0, .slice none 0 0, .int .i64 0, .int .i64 0, .int .i64 0, .bool false] 27) = x20
            have hg20 : Blk x20 x16.heap.size 27 #[.int .i64 0, .int .u64 0, .int .u64 0, .int .u64 0, .int .u64 0, .slice none 0 0, .int .i64 0, .int .i64 0, .int .i64 0, .bool false] := hx20 ▸ Blk.new x16 27 #[.int .i64 0, .int .u64 0, .int .u64 0, .int .u64 0, .int .u64 0, .slice none 0 0, .int .i64 0, .int .i64 0, .int .i64 0, .bool false]
            have zx20 : x16.heap.size < x20.heap.size := by rw [← hx20]; simp
            have hS20 : Below w4.heap.size w4 x20 := hx20 ▸ hS16.alloc (by omega) _
            have hbel20 : Below x16.heap.size x16 x20 := hx20 ▸ (Below.refl _ _).alloc (Nat.le_refl _) _
            clear hx20
            have ho1_20 := ho1_16.same ((same_of_below hbel20).mono fun b hb => by have := hr1 b hb; omega)
            have hg16_20 := hg16.below hbel20 (by omega)
            refine ⟨hS20, ?_⟩
            refine wpAnyT_step (i := 3) hcl rfl (by kernel_rfl) (fun hcl => ?_)
            simp only [List.getElem_toArray, List.getElem_cons_zero, List.getElem_cons_succ, Act.put, List.setIfInBounds_toArray, List.set_cons_zero, List.set_cons_succ]
            go_wp2_with fail
            refine (HT.out B3 c3 x20 (by omega) (HO.out.1.same (same_of_below hS20) (fun y hy => by omega))).mono ?_
            rintro e x21 ⟨B21, d21, bs21, rfl, ho21, hn21, hr21, hbel21⟩
            have zx21 : x20.heap.size ≤ x21.heap.size := hbel21.size
            have hS21 : Below w4.heap.size w4 x21 := hS20.trans (hbel21.mono (by omega))
            have ho1_21 := ho1_20.same ((same_of_below hbel21).mono fun b hb => by have := hr1 b hb; omega)
            have hg20_21 := hg20.below hbel21 (by omega)
            have hg16_21 := hg16_20.below hbel21 (by omega)
            go_wp2_with fail
            refine ⟨hS21, ?_⟩
            refine wpAnyT_last (i := 6) hcl rfl (by kernel_rfl) (by kernel_rfl) (fun hcl => ?_)
            simp only [List.getElem_toArray, List.getElem_cons_zero, List.getElem_cons_succ, Act.put, List.setIfInBounds_toArray, List.set_cons_zero, List.set_cons_succ]
            refine wpList_store_row rfl _ _ _ rfl x16.heap.size 0 _ _ _ rfl rfl hg20_21 Try.sizeNode (by simp [Hd.cells_length]) (fun u hu => cells_one tt.hd B1 tt.subs.length d1 u (by simpa using hu)) ?_
            intro y22 hrow22 hgr22 hz22
            refine wpList_nil ?_
            have hgb22 := hg16_21.grown hgr22 (by simp; omega)
            refine wpAnyT_last (i := 7) hcl rfl (by kernel_rfl) (by kernel_rfl) (fun hcl => ?_)
            simp only [List.getElem_toArray, List.getElem_cons_zero, List.getElem_cons_succ, Act.put, List.setIfInBounds_toArray, List.set_cons_zero, List.set_cons_succ]
            refine wpList_store_row rfl _ _ _ rfl x1.heap.size 0 _ _ _ rfl rfl hgb22 Try.sizeNode (by simp [Hd.cells_length]) (fun u hu => cells_one tt.hd B21 tt.subs.length d21 u (by simpa using hu)) ?_
            intro v22 hrow222 hgr222 hz222
            refine wpList_nil ?_
            refine wpAnyT_done (by kernel_rfl) ?_ _
            go_wp2_with fail
            go_meet
            case rel => exact Two.of (lo := x21.heap.size) hS21 hrow22 hrow222 hgr22 hgr222 hz22 hz222 ho1_21 ho21 hn1 hn21 (fun b hb => by have := hr1 b hb; omega) (fun b hb => by have := hr21 b hb; omega) (fun b hb hb' => by have := hr1 b hb; have := hr21 b hb'; omega) (by omega) (by omega) (by omega) (by omega) (by omega)
      · skip
        simp only [List.getElem_toArray, List.getElem_cons_zero, List.getElem_cons_succ, Act.put, List.setIfInBounds_toArray, List.set_cons_zero, List.set_cons_succ]
        go_wp2_with fail
        generalize hx23 : x0.alloc (.cells #[.int .i64 0, .int .u64 0, .int .u64 0, .int .u64 0, .int .u64 0, .slice none 0 0, .int .i64 0, .int .i64 0, .int .i64 0, .bool false] 27) = x23
        have hg23 : Blk x23 x0.heap.size 27 #[.int .i64 0, .int .u64 0, .int .u64 0, .int .u64 0, .int .u64 0, .slice none 0 0, .int .i64 0, .int .i64 0, .int .i64 0, .bool false] := hx23 ▸ Blk.new x0 27 #[.int .i64 0, .int .u64 0, .int .u64 0, .int .u64 0, .int .u64 0, .slice none 0 0, .int .i64 0, .int .i64 0, .int .i64 0, .bool false]
        have zx23 : x0.heap.size < x23.heap.size := by rw [← hx23]; simp
        have hS23 : Below w4.heap.size w4 x23 := hx23 ▸ hS.alloc (by omega) _
        have hbel23 : Below x0.heap.size x0 x23 := hx23 ▸ (Below.refl _ _).alloc (Nat.le_refl _) _
        clear hx23
        refine ⟨hS23, ?_⟩
        refine wpAnyT_pick2 (i := 1) (j := 5) hcl rfl rfl (by kernel_rfl) (fun hcl => ?_) (fun hcl => ?_)
        · skip
          simp only [List.getElem_toArray, List.getElem_cons_zero, List.getElem_cons_succ, Act.put, List.setIfInBounds_toArray, List.set_cons_zero, List.set_cons_succ]
          go_wp2_with fail
          refine (HT.out B3 c3 x23 (by omega) (HO.out.1.same (same_of_below hS23) (fun y hy => by omega))).mono ?_
          rintro e x24 ⟨B24, d24, bs24, rfl, ho24, hn24, hr24, hbel24⟩
          have zx24 : x23.heap.size ≤ x24.heap.size := hbel24.size
          have hS24 : Below w4.heap.size w4 x24 := hS23.trans (hbel24.mono (by omega))
          have hg23_24 := hg23.below hbel24 (by omega)
          go_wp2_with fail
          refine ⟨hS24, ?_⟩
          refine wpAnyT_pick2 (i := 3) (j := 5) hcl rfl rfl (by kernel_rfl) (fun hcl => ?_) (fun hcl => ?_)
          · skip
            simp only [List.getElem_toArray, List.getElem_cons_zero, List.getElem_cons_succ, Act.put, List.setIfInBounds_toArray, List.set_cons_zero, List.set_cons_succ]
            go_wp2_with fail
            refine (HT.out B3 c3 x24 (by omega) (HO.out.1.same (same_of_below hS24) (fun y hy => by omega))).mono ?_
            rintro e x25 ⟨B25, d25, bs25, rfl, ho25, hn25, hr25, hbel25⟩
            have zx25 : x24.heap.size ≤ x25.heap.size := hbel25.size
            have hS25 : Below w4.heap.size w4 x25 := hS24.trans (hbel25.mono (by omega))
            have ho24_25 := ho24.same ((same_of_below hbel25).mono fun b hb => by have := hr24 b hb; omega)
            have hg23_25 := hg23_24.below hbel25 (by omega)
            go_wp2_with fail
            refine ⟨hS25, ?_⟩
            refine wpAnyT_step (i := 5) hcl rfl (by kernel_rfl) (fun hcl => ?_)
            simp only [List.getElem_toArray, List.getElem_cons_zero, List.getElem_cons_succ, Act.put, List.setIfInBounds_toArray, List.set_cons_zero, List.set_cons_succ]
            go_wp2_with fail
            generalize hx26 : x25.alloc (.cells #[.int .i64 0, .int .u64 0, .int .u64 0, .int .u64 0, .int .u64 0, .slice none 0 0, .int .i64 0, .int .i64 0, .int .i64 0, .bool false] 27) = x26
            have hg26 : Blk x26 x25.heap.size 27 #[.int .i64 0, .int .u64 0, .int .u64 0, .int .u64 0, .int .u64 0, .slice none 0 0, .int .i64 0, .int .i64 0, .int .i64 0, .bool false] := hx26 ▸ Blk.new x25 27 #[.int .i64 0, .int .u64 0, .int .u64 0, .int .u64 0, .int .u64 0, .slice none 0 0, .int .i64 0, .int .i64 0, .int .i64 0, .bool false]
            have zx26 : x25.heap.size < x26.heap.size := by rw [← hx26]; simp
            have hS26 : Below w4.heap.size w4 x26 := hx26 ▸ hS25.alloc (by omega) _
            have hbel26 : Below x25.heap.size x25 x26 := hx26 ▸ (Below.refl _ _).alloc (Nat.le_refl _) _
            clear hx26
            have ho24_26 := ho24_25.same ((same_of_below hbel26).mono fun b hb => by have := hr24 b hb; omega)
            have ho25_26 := ho25.same ((same_of_below hbel26).mono fun b hb => by have := hr25 b hb; omega)
            have hg23_26 := hg23_25.below hbel26 (by omega)
            refine ⟨hS26, ?_⟩
            refine wpAnyT_last (i := 6) hcl rfl (by kernel_rfl) (by kernel_rfl) (fun hcl => ?_)
            simp only [List.getElem_toArray, List.getElem_cons_zero, List.getElem_cons_succ, Act.put, List.setIfInBounds_toArray, List.set_cons_zero, List.set_cons_succ]
            refine wpList_store_row rfl _ _ _ rfl x0.heap.size 0 _ _ _ rfl rfl hg23_26 Try.sizeNode (by simp [Hd.cells_length]) (fun u hu => cells_one tt.hd B24 tt.subs.length d24 u (by simpa using hu)) ?_
            intro y27 hrow27 hgr27 hz27
            refine wpList_nil ?_
            have hgb27 := hg26.grown hgr27 (by simp; omega)
            refine wpAnyT_last (i := 7) hcl rfl (by kernel_rfl) (by kernel_rfl) (fun hcl => ?_)
            simp only [List.getElem_toArray, List.getElem_cons_zero, List.getElem_cons_succ, Act.put, List.setIfInBounds_toArray, List.set_cons_zero, List.set_cons_succ]
            refine wpList_store_row rfl _ _ _ rfl x25.heap.size 0 _ _ _ rfl rfl hgb27 Try.sizeNode (by simp [Hd.cells_length]) (fun u hu => cells_one tt.hd B25 tt.subs.length d25 u (by simpa using hu)) ?_
            intro v27 hrow227 hgr227 hz227
            refine wpList_nil ?_
            refine wpAnyT_done (by kernel_rfl) ?_ _
            go_wp2_with fail
            go_meet
            case rel => exact Two.of (lo := x26.heap.size) hS26 hrow27 hrow227 hgr27 hgr227 hz27 hz227 ho24_26 ho25_26 hn24 hn25 (fun b hb => by have := hr24 b hb; omega) (fun b hb => by have := hr25 b hb; omega) (fun b hb hb' => by have := hr24 b hb; have := hr25 b hb'; omega) (by omega) (by omega) (by omega) (by omega) (by omega)
          · skip
            simp only [List.getElem_toArray, List.getElem_cons_zero, List.getElem_cons_succ, Act.put, List.setIfInBounds_toArray, List.set_cons_zero, List.set_cons_succ]
            go_wp2_with fail
            generalize hx28 : x24.alloc (.cells #[.int .i64 0, .int .u64 0, .int .u64 0, .int .u64 0, .int .u64 0, .slice none 0 0, .int .i64 0, .int .i64 0, .int .i64 0, .bool false] 27) = x28
            have hg28 : Blk x28 x24.heap.size 27 #[.int .i64 0, .int .u64 0, .int .u64 0, .int .u64 0, .int .u64 0, .slice none 0 0, .int .i64 0, .int .i64 0, .int .i64 0, .bool false] := hx28 ▸ Blk.new x24 27 #[.int .i64 0, .int .u64 0, .int .u64 0, .int .u64 0, .int .u64 0, .slice none 0 0, .int .i64 0, .int .i64 0, .int .i64 0, .bool false]
            have zx28 : x24.heap.size < x28.heap.size := by rw [← hx28]; simp
            have hS28 : Below w4.heap.size w4 x28 := hx28 ▸ hS24.alloc (by omega) _
            have hbel28 : Below x24.heap.size x24 x28 := hx28 ▸ (Below.refl _ _).alloc (Nat.le_refl _) _
            clear hx28
            have ho24_28 := ho24.same ((same_of_below hbel28).mono fun b hb => by have := hr24 b hb; omega)
            have hg23_28 := hg23_24.below hbel28 (by omega)
            refine ⟨hS28, ?_⟩
            refine wpAnyT_step (i := 3) hcl rfl (by kernel_rfl) (fun hcl => ?_)
            simp only [List.getElem_toArray, List.getElem_cons_zero, List.getElem_cons_succ, Act.put, List.setIfInBounds_toArray, List.set_cons_zero, List.set_cons_succ]
            go_wp2_with fail
            refine (HT.out B3 c3 x28 (by omega) (HO.out.1.same (same_of_below hS28) (fun y hy => by omega))).mono ?_
            rintro e x29 ⟨B29, d29, bs29, rfl, ho29, hn29, hr29, hbel29⟩
            have zx29 : x28.heap.size ≤ x29.heap.size := hbel29.size
            have hS29 : Below w4.heap.size w4 x29 := hS28.trans (hbel29.mono (by omega))
            have ho24_29 := ho24_28.same ((same_of_below hbel29).mono fun b hb => by have := hr24 b hb; omega)
            have hg23_29 := hg23_28.below hbel29 (by omega)
            have hg28_29 := hg28.below hbel29 (by omega)
            go_wp2_with fail
            refine ⟨hS29, ?_⟩
            refine wpAnyT_last (i := 6) hcl rfl (by kernel_rfl) (by kernel_rfl) (fun hcl => ?_)
            simp only [List.getElem_toArray, List.getElem_cons_zero, List.getElem_cons_succ, Act.put, List.setIfInBounds_toArray, List.set_cons_zero, List.set_cons_succ]
            refine wpList_store_row rfl _ _ _ rfl x0.heap.size 0 _ _ _ rfl rfl hg23_29 Try.sizeNode (by simp [Hd.cells_length]) (fun u hu => cells_one tt.hd B24 tt.subs.length d24 u (by simpa using hu)) ?_
            intro y30 hrow30 hgr30 hz30
            refine wpList_nil ?_
            have hgb30 := hg28_29.grown hgr30 (by simp; omega)
            refine wpAnyT_last (i := 7) hcl rfl (by kernel_rfl) (by kernel_rfl) (fun hcl => ?_)
            simp only [List.getElem_toArray, List.getElem_cons_zero, List.getElem_cons_succ, Act.put, List.setIfInBounds_toArray, List.set_cons_zero, List.set_cons_succ]
            refine wpList_store_row rfl _ _ _ rfl x24.heap.size 0 _ _ _ rfl rfl hgb30 Try.sizeNode (by simp [Hd.cells_length]) (fun u hu => cells_one tt.hd B29 tt.subs.length d29 u (by simpa using hu)) ?_
            intro v30 hrow230 hgr230 hz230
            refine wpList_nil ?_
            refine wpAnyT_done (by kernel_rfl) ?_ _
            go_wp2_with fail
            go_meet
            case rel => exact Two.of (lo := x29.heap.size) hS29 hrow30 hrow230 hgr30 hgr230 hz30 hz230 ho24_29 ho29 hn24 hn29 (fun b hb => by have := hr24 b hb; omega) (fun b hb => by have := hr29 b hb; omega) (fun b hb hb' => by have := hr24 b hb; have := hr29 b hb'; omega) (by omega) (by omega) (by omega) (by omega) (by omega)
        · skip
          simp only [List.getElem_toArray, List.getElem_cons_zero, List.getElem_cons_succ, Act.put, List.setIfInBounds_toArray, List.set_cons_zero, List.set_cons_succ]
          go_wp2_with fail
          generalize hx31 : x23.alloc (.cells #[.int .i64 0, .int .u64 0, .int .u64 0, .int .u64 0, .int .u64 0, .slice none 0 0, .int .i64 0, .int .i64 0, .int .i64 0, .bool false] 27) = x31
          have hg31 : Blk x31 x23.heap.size 27 #[.int .i64 0, .int .u64 0, .int .u64 0, .int .u64 0, .int .u64 0, .slice none 0 0, .int .i64 0, .int .i64 0, .int .i64 0, .bool false] := hx31 ▸ Blk.new x23 27 #[.int .i64 0, .int .u64 0, .int .u64 0, .int .u64 0, .int .u64 0, .slice none 0 0, .int .i64 0, .int .i64 0, .int .i64 0, .bool false]
          have zx31 : x23.heap.size < x31.heap.size := by rw [← hx31]; simp
          have hS31 : Below w4.heap.size w4 x31 := hx31 ▸ hS23.alloc (by omega) _
          have hbel31 : Below x23.heap.size x23 x31 := hx31 ▸ (Below.refl _ _).alloc (Nat.le_refl _) _
          clear hx31
          have hg23_31 := hg23.below hbel31 (by omega)
          refine ⟨hS31, ?_⟩
          refine wpAnyT_step (i := 1) hcl rfl (by kernel_rfl) (fun hcl => ?_)
          simp only [List.getElem_toArray, List.getElem_cons_zero, List.getElem_cons_succ, Act.put, List.setIfInBounds_toArray, List.set_cons_zero, List.set_cons_succ]
          go_wp2_with fail
          refine (HT.out B3 c3 x31 (by omega) (HO.out.1.same (same_of_below hS31) (fun y hy => by omega))).mono ?_
          rintro e x32 ⟨B32, d32, bs32, rfl, ho32, hn32, hr32, hbel32⟩
          have zx32 : x31.heap.size ≤ x32.heap.size := hbel32.size
          have hS32 : Below w4.heap.size w4 x32 := hS31.trans (hbel32.mono (by omega))
          have hg23_32 := hg23_31.below hbel32 (by omega)
          have hg31_32 := hg31.below hbel32 (by omega)
          go_wp2_with fail
          refine ⟨hS32, ?_⟩
          refine wpAnyT_step (i := 3) hcl rfl (by kernel_rfl) (fun hcl => ?_)
          simp only [List.getElem_toArray, List.getElem_cons_zero, List.getElem_cons_succ, Act.put, List.setIfInBounds_toArray, List.set_cons_zero, List.set_cons_succ]
          go_wp2_with fail
          refine (HT.out B3 c3 x32 (by omega) (HO.out.1.same (same_of_below hS32) (fun y hy => by omega))).mono ?_
          rintro e x33 ⟨B33, d33, bs33, rfl, ho33, hn33, hr33, hbel33⟩
          have zx33 : x32.heap.size ≤ x33.heap.size := hbel33.size
          have hS33 : Below w4.heap.size w4 x33 := hS32.trans (hbel33.mono (by omega))
          have ho32_33 := ho32.same ((same_of_below hbel33).mono fun b hb => by have := hr32 b hb; omega)
          have hg23_33 := hg23_32.below hbel33 (by omega)
          have hg31_33 := hg31_32.below hbel33 (by omega)
          go_wp2_with fail
          refine ⟨hS33, ?_⟩
          refine wpAnyT_last (i := 6) hcl rfl (by kernel_rfl) (by kernel_rfl) (fun hcl => ?_)
          simp only [List.getElem_toArray, List.getElem_cons_zero, List.getElem_cons_succ, Act.put, List.setIfInBounds_toArray, List.set_cons_zero, List.set_cons_succ]
          refine wpList_store_row rfl _ _ _ rfl x0.heap.size 0 _ _ _ rfl rfl hg23_33 Try.sizeNode (by simp [Hd.cells_length]) (fun u hu => cells_one tt.hd B32 tt.subs.length d32 u (by simpa using hu)) ?_
          intro y34 hrow34 hgr34 hz34
          refine wpList_nil ?_
          have hgb34 := hg31_33.grown hgr34 (by simp; omega)
          refine wpAnyT_last (i := 7) hcl rfl (by kernel_rfl) (by kernel_rfl) (fun hcl => ?_)
          simp only [List.getElem_toArray, List.getElem_cons_zero, List.getElem_cons_succ, Act.put, List.setIfInBounds_toArray, List.set_cons_zero, List.set_cons_succ]
          refine wpList_store_row rfl _ _ _ rfl x23.heap.size 0 _ _ _ rfl rfl hgb34 Try.sizeNode (by simp [Hd.cells_length]) (fun u hu => cells_one tt.hd B33 tt.subs.length d33 u (by simpa using hu)) ?_
          intro v34 hrow234 hgr234 hz234
          refine wpList_nil ?_
          refine wpAnyT_done (by kernel_rfl) ?_ _
          go_wp2_with fail
          go_meet
          case rel => exact Two.of (lo := x33.heap.size) hS33 hrow34 hrow234 hgr34 hgr234 hz34 hz234 ho32_33 ho33 hn32 hn33 (fun b hb => by have := hr32 b hb; omega) (fun b hb => by have := hr33 b hb; omega) (fun b hb hb' => by have := hr32 b hb; have := hr33 b hb'; omega) (by omega) (by omega) (by omega) (by omega) (by omega)
      · skip
        simp only [List.getElem_toArray, List.getElem_cons_zero, List.getElem_cons_succ, Act.put, List.setIfInBounds_toArray, List.set_cons_zero, List.set_cons_succ]
        go_wp2_with fail
        generalize hx35 : x0.alloc (.cells #[.int .i64 0, .int .u64 0, .int .u64 0, .int .u64 0, .int .u64 0, .slice none 0 0, .int .i64 0, .int .i64 0, .int .i64 0, .bool false] 27) = x35
        have hg35 : Blk x35 x0.heap.size 27 #[.int .i64 0, .int .u64 0, .int .u64 0, .int .u64 0, .int .u64 0, .slice none 0 0, .int .i64 0, .int .i64 0, .int .i64 0, .bool false] := hx35 ▸ Blk.new x0 27 #[.int .i64 0, .int .u64 0, .int .u64 0, .int .u64 0, .int .u64 0, .slice none 0 0, .int .i64 0, .int .i64 0, .int .i64 0, .bool false]
        have zx35 : x0.heap.size < x35.heap.size := by rw [← hx35]; simp
        have hS35 : Below w4.heap.size w4 x35 := hx35 ▸ hS.alloc (by omega) _
        have hbel35 : Below x0.heap.size x0 x35 := hx35 ▸ (Below.refl _ _).alloc (Nat.le_refl _) _
        clear hx35
        refine ⟨hS35, ?_⟩
        refine wpAnyT_pick2 (i := 1) (j := 4) hcl rfl rfl (by kernel_rfl) (fun hcl => ?_) (fun hcl => ?_)
        · skip
          simp only [List.getElem_toArray, List.getElem_cons_zero, List.getElem_cons_succ, Act.put, List.setIfInBounds_toArray, List.set_cons_zero, List.set_cons_succ]
          go_wp2_with fail
          refine (HT.out B3 c3 x35 (by omega) (HO.out.1.same (same_of_below hS35) (fun y hy => by omega))).mono ?_
          rintro e x36 ⟨B36, d36, bs36, rfl, ho36, hn36, hr36, hbel36⟩
          have zx36 : x35.heap.size ≤ x36.heap.size := hbel36.size
          have hS36 : Below w4.heap.size w4 x36 := hS35.trans (hbel36.mono (by omega))
          have hg35_36 := hg35.below hbel36 (by omega)
          go_wp2_with fail
          refine ⟨hS36, ?_⟩
          refine wpAnyT_pick2 (i := 3) (j := 4) hcl rfl rfl (by kernel_rfl) (fun hcl => ?_) (fun hcl => ?_)
          · skip
            simp only [List.getElem_toArray, List.getElem_cons_zero, List.getElem_cons_succ, Act.put, List.setIfInBounds_toArray, List.set_cons_zero, List.set_cons_succ]
            go_wp2_with fail
            refine (HT.out B3 c3 x36 (by omega) (HO.out.1.same (same_of_below hS36) (fun y hy => by omega))).mono ?_
            rintro e x37 ⟨B37, d37, bs37, rfl, ho37, hn37, hr37, hbel37⟩
            have zx37 : x36.heap.size ≤ x37.heap.size := hbel37.size
            have hS37 : Below w4.heap.size w4 x37 := hS36.trans (hbel37.mono (by omega))
            have ho36_37 := ho36.same ((same_of_below hbel37).mono fun b hb => by have := hr36 b hb; omega)
            have hg35_37 := hg35_36.below hbel37 (by omega)
            go_wp2_with fail
            refine ⟨hS37, ?_⟩
            refine wpAnyT_step (i := 4) hcl rfl (by kernel_rfl) (fun hcl => ?_)
            simp only [List.getElem_toArray, List.getElem_cons_zero, List.getElem_cons_succ, Act.put, List.setIfInBounds_toArray, List.set_cons_zero, List.set_cons_succ]
            go_wp2_with fail
            generalize hx38 : x37.alloc (.cells #[.int .i64 0, .int .u64 0, .int .u64 0, .int .u64 0, .int .u64 0, .slice none 0 0, .int .i64 0, .int .i64 0, .int .i64 0, .bool false] 27) = x38
            have hg38 : Blk x38 x37.heap.size 27 #[.int .i64 0, .int .u64 0, .int .u64 0, .int .u64 0, .int .u64 0, .slice none 0 0, .int .i64 0, .int .i64 0, .int .i64 0, .bool false] := hx38 ▸ Blk.new x37 27 #[.int .i64 0, .int .u64 0, .int .u64 0, .int .u64 0, .int .u64 0, .slice none 0 0, .int .i64 0, .int .i64 0, .int .i64 0, .bool false]
            have zx38 : x37.heap.size < x38.heap.size := by rw [← hx38]; simp
            have hS38 : Below w4.heap.size w4 x38 := hx38 ▸ hS37.alloc (by omega) _
            have hbel38 : Below x37.heap.size x37 x38 := hx38 ▸ (Below.refl _ _).alloc (Nat.le_refl _) _
            clear hx38
            have ho36_38 := ho36_37.same ((same_of_below hbel38).mono fun b hb => by have := hr36 b hb; omega)
            have ho37_38 := ho37.same ((same_of_below hbel38).mono fun b hb => by have := hr37 b hb; omega)
            have hg35_38 := hg35_37.below hbel38 (by omega)
            refine ⟨hS38, ?_⟩
            refine wpAnyT_last (i := 6) hcl rfl (by kernel_rfl) (by kernel_rfl) (fun hcl => ?_)
            simp only [List.getElem_toArray, List.getElem_cons_zero, List.getElem_cons_succ, Act.put, List.setIfInBounds_toArray, List.set_cons_zero, List.set_cons_succ]
            refine wpList_store_row rfl _ _ _ rfl x37.heap.size 0 _ _ _ rfl rfl hg38 Try.sizeNode (by simp [Hd.cells_length]) (fun u hu => cells_one tt.hd B36 tt.subs.length d36 u (by simpa using hu)) ?_
            intro y39 hrow39 hgr39 hz39
            refine wpList_nil ?_
            have hgb39 := hg35_38.grown hgr39 (by simp; omega)
            refine wpAnyT_last (i := 7) hcl rfl (by kernel_rfl) (by kernel_rfl) (fun hcl => ?_)
            simp only [List.getElem_toArray, List.getElem_cons_zero, List.getElem_cons_succ, Act.put, List.setIfInBounds_toArray, List.set_cons_zero, List.set_cons_succ]
            refine wpList_store_row rfl _ _ _ rfl x0.heap.size 0 _ _ _ rfl rfl hgb39 Try.sizeNode (by simp [Hd.cells_length]) (fun u hu => cells_one tt.hd B37 tt.subs.length d37 u (by simpa using hu)) ?_
            intro v39 hrow239 hgr239 hz239
            refine wpList_nil ?_
            refine wpAnyT_done (by kernel_rfl) ?_ _
            go_wp2_with fail
            go_meet
            case rel => exact Two.of (lo := x38.heap.size) hS38 hrow39 hrow239 hgr39 hgr239 hz39 hz239 ho36_38 ho37_38 hn36 hn37 (fun b hb => by have := hr36 b hb; omega) (fun b hb => by have := hr37 b hb; omega) (fun b hb hb' => by have := hr36 b hb; have := hr37 b hb'; omega) (by omega) (by omega) (by omega) (by omega) (by omega)
          · skip
            simp only [List.getElem_toArray, List.getElem_cons_zero, List.getElem_cons_succ, Act.put, List.setIfInBounds_toArray, List.set_cons_zero, List.set_cons_succ]
            go_wp2_with fail
            generalize hx40 : x36.alloc (.cells #[.int .i64 0, .int .u64 0, .int .u64 0, .int .u64 0, .int .u64 0, .slice none 0 0, .int .i64 0, .int .i64 0, .int .i64 0, .bool false] 27) = x40
            have hg40 : Blk x40 x36.heap.size 27 #[.int .i64 0, .int .u64 0, .int .u64 0, .int .u64 0, .int .u64 0, .slice none 0 0, .int .i64 0, .int .i64 0, .int .i64 0, .bool false] := hx40 ▸ Blk.new x36 27 #[.int .i64 0, .int .u64 0, .int .u64 0, .int .u64 0, .int .u64 0, .slice none 0 0, .int .i64 0, .int .i64 0, .int .i64 0, .bool false]
            have zx40 : x36.heap.size < x40.heap.size := by rw [← hx40]; simp
            have hS40 : Below w4.heap.size w4 x40 := hx40 ▸ hS36.alloc (by omega) _
            have hbel40 : Below x36.heap.size x36 x40 := hx40 ▸ (Below.refl _ _).alloc (Nat.le_refl _) _
            clear hx40
            have ho36_40 := ho36.same ((same_of_below hbel40).mono fun b hb => by have := hr36 b hb; omega)
            have hg35_40 := hg35_36.below hbel40 (by omega)
            refine ⟨hS40, ?_⟩
            refine wpAnyT_step (i := 3) hcl rfl (by kernel_rfl) (fun hcl => ?_)
            simp only [List.getElem_toArray, List.getElem_cons_zero, List.getElem_cons_succ, Act.put, List.setIfInBounds_toArray, List.set_cons_zero, List.set_cons_succ]
            go_wp2_with fail
            refine (HT.out B3 c3 x40 (by omega) (HO.out.1.same (same_of_below hS40) (fun y hy => by omega))).mono ?_
            rintro e x41 ⟨B41, d41, bs41, rfl, ho41, hn41, hr41, hbel41⟩
            have zx41 : x40.heap.size ≤ x41.heap.size := hbel41.size
            have hS41 : Below w4.heap.size w4 x41 := hS40.trans (hbel41.mono (by omega))
            have ho36_41 := ho36_40.same ((same_of_below hbel41).mono fun b hb => by have := hr36 b hb; omega)
            have hg40_41 := hg40.below hbel41 (by omega)
            have hg35_41 := hg35_40.below hbel41 (by omega)
            go_wp2_with fail
            refine ⟨hS41, ?_⟩
            refine wpAnyT_last (i := 6) hcl rfl (by kernel_rfl) (by kernel_rfl) (fun hcl => ?_)
            simp only [List.getElem_toArray, List.getElem_cons_zero, List.getElem_cons_succ, Act.put, List.setIfInBounds_toArray, List.set_cons_zero, List.set_cons_succ]
            refine wpList_store_row rfl _ _ _ rfl x36.heap.size 0 _ _ _ rfl rfl hg40_41 Try.sizeNode (by simp [Hd.cells_length]) (fun u hu => cells_one tt.hd B36 tt.subs.length d36 u (by simpa using hu)) ?_
            intro y42 hrow42 hgr42 hz42
            refine wpList_nil ?_
            have hgb42 := hg35_41.grown hgr42 (by simp; omega)
            refine wpAnyT_last (i := 7) hcl rfl (by kernel_rfl) (by kernel_rfl) (fun hcl => ?_)
            simp only [List.getElem_toArray, List.getElem_cons_zero, List.getElem_cons_succ, Act.put, List.setIfInBounds_toArray, List.set_cons_zero, List.set_cons_succ]
            refine wpList_store_row rfl _ _ _ rfl x0.heap.size 0 _ _ _ rfl rfl hgb42 Try.sizeNode (by simp [Hd.cells_length]) (fun u hu => cells_one tt.hd B41 tt.subs.length d41 u (by simpa using hu)) ?_
            intro v42 hrow242 hgr242 hz242
            refine wpList_nil ?_
            refine wpAnyT_done (by kernel_rfl) ?_ _
            go_wp2_with fail
            go_meet
            case rel => exact Two.of (lo := x41.heap.size) hS41 hrow42 hrow242 hgr42 hgr242 hz42 hz242 ho36_41 ho41 hn36 hn41 (fun b hb => by have := hr36 b hb; omega) (fun b hb => by have := hr41 b hb; omega) (fun b hb hb' => by have := hr36 b hb; have := hr41 b hb'; omega) (by omega) (by omega) (by omega) (by omega) (by omega)
        · skip
          simp only [List.getElem_toArray, List.getElem_cons_zero, List.getElem_cons_succ, Act.put, List.setIfInBounds_toArray, List.set_cons_zero, List.set_cons_succ]
          go_wp2_with fail
          generalize hx43 : x35.alloc (.cells #[.int .i64 0, .int .u64 0, .int .u64 0, .int .u64 0, .int .u64 0, .slice none 0 0, .int .i64 0, .int .i64 0, .int .i64 0, .bool false] 27) = x43
          have hg43 : Blk x43 x35.heap.size 27 #[.int .i64 0, .int .u64 0, .int .u64 0, .int .u64 0, .int .u64 0, .slice none 0 0, .int .i64 0, .int .i64 0, .int .i64 0, .bool false] := hx43 ▸ Blk.new x35 27 #[.int .i64 0, .int .u64 0, .int .u64 0, .int .u64 0, .int .u64 0, .slice none 0 0, .int .i64 0, .int .i64 0, .int .i64 0, .bool false]
          have zx43 : x35.heap.size < x43.heap.size := by rw [← hx43]; simp
          have hS43 : Below w4.heap.size w4 x43 := hx43 ▸ hS35.alloc (by omega) _
          have hbel43 : Below x35.heap.size x35 x43 := hx43 ▸ (Below.refl _ _).alloc (Nat.le_refl _) _
          clear hx43
          have hg35_43 := hg35.below hbel43 (by omega)
          refine ⟨hS43, ?_⟩
          refine wpAnyT_step (i := 1) hcl rfl (by kernel_rfl) (fun hcl => ?_)
          simp only [List.getElem_toArray, List.getElem_cons_zero, List.getElem_cons_succ, Act.put, List.setIfInBounds_toArray, List.set_cons_zero, List.set_cons_succ]
          go_wp2_with fail
          refine (HT.out B3 c3 x43 (by omega) (HO.out.1.same (same_of_below hS43) (fun y hy => by omega))).mono ?_
          rintro e x44 ⟨B44, d44, bs44, rfl, ho44, hn44, hr44, hbel44⟩
          have zx44 : x43.heap.size ≤ x44.heap.size := hbel44.size
          have hS44 : Below w4.heap.size w4 x44 := hS43.trans (hbel44.mono (by omega))
          have hg43_44 := hg43.below hbel44 (by omega)
          have hg35_44 := hg35_43.below hbel44 (by omega)
          go_wp2_with fail
          refine ⟨hS44, ?_⟩
          refine wpAnyT_step (i := 3) hcl rfl (by kernel_rfl) (fun hcl => ?_)
          simp only [List.getElem_toArray, List.getElem_cons_zero, List.getElem_cons_succ, Act.put, List.setIfInBounds_toArray, List.set_cons_zero, List.set_cons_succ]
          go_wp2_with fail
          refine (HT.out B3 c3 x44 (by omega) (HO.out.1.same (same_of_below hS44) (fun y hy => by omega))).mono ?_
          rintro e x45 ⟨B45, d45, bs45, rfl, ho45, hn45, hr45, hbel45⟩
          have zx45 : x44.heap.size ≤ x45.heap.size := hbel45.size
          have hS45 : Below w4.heap.size w4 x45 := hS44.trans (hbel45.mono (by omega))
          have ho44_45 := ho44.same ((same_of_below hbel45).mono fun b hb => by have := hr44 b hb; omega)
          have hg43_45 := hg43_44.below hbel45 (by omega)
          have hg35_45 := hg35_44.below hbel45 (by omega)
          go_wp2_with fail
          refine ⟨hS45, ?_⟩
          refine wpAnyT_last (i := 6) hcl rfl (by kernel_rfl) (by kernel_rfl) (fun hcl => ?_)
          simp only [List.getElem_toArray, List.getElem_cons_zero, List.getElem_cons_succ, Act.put, List.setIfInBounds_toArray, List.set_cons_zero, List.set_cons_succ]
          refine wpList_store_row rfl _ _ _ rfl x35.heap.size 0 _ _ _ rfl rfl hg43_45 Try.sizeNode (by simp [Hd.cells_length]) (fun u hu => cells_one tt.hd B44 tt.subs.length d44 u (by simpa using hu)) ?_
          intro y46 hrow46 hgr46 hz46
          refine wpList_nil ?_
          have hgb46 := hg35_45.grown hgr46 (by simp; omega)
          refine wpAnyT_last (i := 7) hcl rfl (by kernel_rfl) (by kernel_rfl) (fun hcl => ?_)
          simp only [List.getElem_toArray, List.getElem_cons_zero, List.getElem_cons_succ, Act.put, List.setIfInBounds_toArray, List.set_cons_zero, List.set_cons_succ]
          refine wpList_store_row rfl _ _ _ rfl x0.heap.size 0 _ _ _ rfl rfl hgb46 Try.sizeNode (by simp [Hd.cells_length]) (fun u hu => cells_one tt.hd B45 tt.subs.length d45 u (by simpa using hu)) ?_
          intro v46 hrow246 hgr246 hz246
          refine wpList_nil ?_
          refine wpAnyT_done (by kernel_rfl) ?_ _
          go_wp2_with fail
          go_meet
          case rel => exact Two.of (lo := x45.heap.size) hS45 hrow46 hrow246 hgr46 hgr246 hz46 hz246 ho44_45 ho45 hn44 hn45 (fun b hb => by have := hr44 b hb; omega) (fun b hb => by have := hr45 b hb; omega) (fun b hb hb' => by have := hr44 b hb; have := hr45 b hb'; omega) (by omega) (by omega) (by omega) (by omega) (by omega)
    case rest =>
      obtain ⟨ga, gb, B, ca, bs, B', cb, bs', rfl, rfl, hga, hgb, hoa, hob, hna, hnb, hra, hrb, g1, g2, g3, hbel5⟩ := hcut
      have z5 := hbel5.size
      have hlta := hga.lt
      have hltb := hgb.lt
      have HS := hide (fun u v A B c d x h => same_any 1000000 u v A B c d x h (by decide))
      have HP := hide (fun u A c bs x h => spoil_any 1000000 u A c bs x h (by decide))
      obtain ⟨⟨kk, q0, q1, q2, q3, nn, mi, ma, ba⟩, ll⟩ := tt
      simp only [T.hd, T.subs, Hd.cells] at hga hgb HR
      have HSt := hide (fun A B c d x h => HS.out (T.mk ⟨kk, q0, q1, q2, q3, nn, mi, ma, ba⟩ ll) (T.mk ⟨kk, q0, q1, q2, q3, nn, mi, ma, ba⟩ ll) A B c d x h)
      have HSm := hide (fun A B c d x h => HS.out (T.mk ⟨kind, s0, s1, s2, s3, num, mn, mx, bare⟩ l) (T.mk ⟨kind, s0, s1, s2, s3, num, mn, mx, bare⟩ l) A B c d x h)
      have HPt := hide (fun A c bs x h => HP.out (T.mk ⟨kk, q0, q1, q2, q3, nn, mi, ma, ba⟩ ll) A c bs x h)
      have HPm := hide (fun A c bs x h => HP.out (T.mk ⟨kind, s0, s1, s2, s3, num, mn, mx, bare⟩ l) A c bs x h)
      clear HS HP
      simp only [T.same_refl] at HSt HSm
      simp only [T.hd, T.subs, Hd.cells] at HSt HSm HPt HPm
      rw [htm] at HSm HPm
      generalize hta : T.mk ⟨kk, q0, q1, q2, q3, nn, mi, ma, ba⟩ ll = ta at *
      have hbt := (hb3.below hbel4 (by omega)).below hbel5 (by omega)
      have hbm := hb4.below hbel5 (by omega)
      have ct := hbt.cell
      have hom := (hO3.out.same ((same_of_below hbel4).mono fun b hb => (hR3.out b hb).2)).same ((same_of_below hbel5).mono fun b hb => by have := hR3.out b hb; omega)
      have hbw5 : Below w.heap.size w wc := (HO.out.2.2.trans (hbel4.mono (by omega))).trans (hbel5.mono (by omega))
      have HK := hide (HR.out wc (by omega) (HIN.out.same (same_of_below hbw5) (fun x hx => by omega)))
      clear HT HR hb3 hb4 c3' hbel4 hbel5 HO
      go_wp2_with fail
      refine HK.out.mono ?_
      rintro e w6 ⟨Bw, cw, bsw, rfl, how, hnw, hfw, hbel6⟩
      clear HK
      have z6 := hbel6.size
      rw [← hta]
      simp only [T.hd, T.subs, Hd.cells]
      go_upto_region 8 with fail
      have hbw := Blk.new w6 27 #[.int .i64 kk, .int .u64 q0, .int .u64 q1, .int .u64 q2, .int .u64 q3, .slice Bw ll.length cw, .int .i64 nn, .int .i64 mi, .int .i64 ma, .bool ba]
      have hbel7 : Below w6.heap.size w6 (w6.alloc (.cells #[.int .i64 kk, .int .u64 q0, .int .u64 q1, .int .u64 q2, .int .u64 q3, .slice Bw ll.length cw, .int .i64 nn, .int .i64 mi, .int .i64 ma, .bool ba] 27)) := (Below.refl _ _).alloc (Nat.le_refl _) _
      have z7 := World.size_alloc w6 (.cells #[.int .i64 kk, .int .u64 q0, .int .u64 q1, .int .u64 q2, .int .u64 q3, .slice Bw ll.length cw, .int .i64 nn, .int .i64 mi, .int .i64 ma, .bool ba] 27)
      generalize w6.alloc (.cells #[.int .i64 kk, .int .u64 q0, .int .u64 q1, .int .u64 q2, .int .u64 q3, .slice Bw ll.length cw, .int .i64 nn, .int .i64 mi, .int .i64 ma, .bool ba] 27) = w7 at *
      have hbel57 : Below wc.heap.size wc w7 := hbel6.trans (hbel7.mono (by omega))
      have s57 := same_of_below hbel57
      have hga7 := hga.below hbel57 hlta
      have hgb7 := hgb.below hbel57 hltb
      have hbm7 := hbm.below hbel57 (by omega)
      have hbt7 := hbt.below hbel57 (by omega)
      have hoa7 := hoa.same (s57.mono fun b hb => (hra b hb).2.1)
      have hob7 := hob.same (s57.mono fun b hb => (hrb b hb).2.1)
      have hom7 := hom.same (s57.mono fun b hb => by have := hR3.out b hb; omega)
      have how7 := how.same ((same_of_below hbel7).mono fun b hb => (hfw b hb).2)
      have hbw7 : Below w.heap.size w w7 := hbw5.trans (hbel57.mono (by omega))
      have c1 := hga7.cell
      have c2 := hbw.cell
      have k3 := hbm7.cell
      have c4 := hbt7.cell
      have HK := hide (HSt.out B Bw ca cw w7 (by omega) (hoa7.in_ fun b hb => by have := hra b hb; omega) (how7.in_ fun b hb => by have := hfw b hb; omega))
      clear hga hgb hbm hbt hoa hob hom how hbw5 hbel6 hbel7 hbel57 s57 ct
      go_wp2_with fail
      refine HK.out.mono ?_
      rintro e w8 ⟨rfl, hbel8⟩
      clear HK
      have z8 := hbel8.size
      have s8 := same_of_below hbel8
      have hga8 := hga7.below hbel8 (by omega)
      have hgb8 := hgb7.below hbel8 (by omega)
      have hbm8 := hbm7.below hbel8 (by omega)
      have hbt8 := hbt7.below hbel8 (by omega)
      have hbw8 := hbw.below hbel8 (by omega)
      have hoa8 := hoa7.same (s8.mono fun b hb => by have := hra b hb; omega)
      have hob8 := hob7.same (s8.mono fun b hb => by have := hrb b hb; omega)
      have hom8 := hom7.same (s8.mono fun b hb => by have := hR3.out b hb; omega)
      have how8 := how7.same (s8.mono fun b hb => by have := hfw b hb; omega)
      have hw8 : Below w.heap.size w w8 := hbw7.trans (hbel8.mono (by omega))
      clear c1 c2 k3 c4 hga7 hgb7 hbm7 hbt7 hbw hoa7 hob7 hom7 how7 hbw7 hbel8 s8
      have k3 := hbm8.cell
      have c4 := hbt8.cell
      have HK := hide (HSm.out B3 A c3 c w8 (by omega) (hom8.in_ fun b hb => by have := hR3.out b hb; omega) (HIN.out.same (same_of_below hw8) (fun x hx => by omega)))
      go_wp2_with fail
      refine HK.out.mono ?_
      rintro e w9 ⟨rfl, hbel9⟩
      clear HK
      have z9 := hbel9.size
      have s9 := same_of_below hbel9
      have hga9 := hga8.below hbel9 (by omega)
      have hgb9 := hgb8.below hbel9 (by omega)
      have hbm9 := hbm8.below hbel9 (by omega)
      have hbw9 := hbw8.below hbel9 (by omega)
      have hoa9 := hoa8.same (s9.mono fun b hb => by have := hra b hb; omega)
      have hob9 := hob8.same (s9.mono fun b hb => by have := hrb b hb; omega)
      have hom9 := hom8.same (s9.mono fun b hb => by have := hR3.out b hb; omega)
      have how9 := how8.same (s9.mono fun b hb => by have := hfw b hb; omega)
      have hw9 : Below w.heap.size w w9 := hw8.trans (hbel9.mono (by omega))
      clear k3 c4 hga8 hgb8 hbm8 hbt8 hbw8 hoa8 hob8 hom8 how8 hw8 hbel9 s9
      have c1 := hga9.cell
      have HK := hide (HPt.out B ca bs w9 (by omega) hoa9 hna (fun b hb => by have := hra b hb; omega))
      go_wp2_with fail
      refine HK.out.mono ?_
      rintro e w10 ⟨rfl, hon⟩
      clear HK c1
      have z10 := hon.size
      have keep : ∀ b, b < w9.heap.size → b ∉ bs → w10.heap[b]? = w9.heap[b]? := fun b h1 h2 => hon.block b h1 h2
      have hgb10 : Blk w10 gb _ _ := (keep gb (by omega) (fun h => by have := hra _ h; omega)).trans hgb9
      have hbm10 : Blk w10 w3.heap.size _ _ := (keep _ (by omega) (fun h => by have := hra _ h; omega)).trans hbm9
      have hbw10 : Blk w10 w6.heap.size _ _ := (keep _ (by omega) (fun h => by have := hra _ h; omega)).trans hbw9
      have hob10 := hob9.same (w' := w10) fun b hb => keep b (by have := hrb b hb; omega) (fun h => (hra b h).2.2.2.2 hb)
      have hom10 := hom9.same (w' := w10) fun b hb => keep b (by have := hR3.out b hb; omega) (fun h => by have := hra b h; have := hR3.out b hb; omega)
      have how10 := how9.same (w' := w10) fun b hb => keep b (by have := hfw b hb; omega) (fun h => by have := hra b h; have := hfw b hb; omega)
      have hw10 : Below w.heap.size w w10 := hw9.trans (hon.below (by omega) (fun b hb => by have := hra b hb; omega))
      clear hga9 hgb9 hbm9 hbw9 hoa9 hob9 hom9 how9 hw9 hon keep
      have c1 := hbm10.cell
      have HK := hide (HPm.out B3 c3 bs3 w10 (by omega) hom10 hnd3 (fun b hb => by have := hR3.out b hb; omega))
      go_wp2_with fail
      refine HK.out.mono ?_
      rintro e w11 ⟨rfl, hon⟩
      clear HK c1
      have z11 := hon.size
      have keep : ∀ b, b < w10.heap.size → b ∉ bs3 → w11.heap[b]? = w10.heap[b]? := fun b h1 h2 => hon.block b h1 h2
      have hgb11 : Blk w11 gb _ _ := (keep gb (by omega) (fun h => by have := hR3.out _ h; omega)).trans hgb10
      have hbw11 : Blk w11 w6.heap.size _ _ := (keep _ (by omega) (fun h => by have := hR3.out _ h; omega)).trans hbw10
      have hob11 := hob10.same (w' := w11) fun b hb => keep b (by have := hrb b hb; omega) (fun h => by have := hrb b hb; have := hR3.out b h; omega)
      have how11 := how10.same (w' := w11) fun b hb => keep b (by have := hfw b hb; omega) (fun h => by have := hR3.out b h; have := hfw b hb; omega)
      have hw11 : Below w.heap.size w w11 := hw10.trans (hon.below (by omega) (fun b hb => by have := hR3.out b hb; omega))
      clear hgb10 hbm10 hbw10 hob10 hom10 how10 hw10 hon keep
      have c1 := hgb11.cell
      have c2 := hbw11.cell
      have HK := hide (HSt.out B' Bw cb cw w11 (by omega) (hob11.in_ fun b hb => by have := hrb b hb; omega) (how11.in_ fun b hb => by have := hfw b hb; omega))
      go_wp2_with fail
      refine HK.out.mono ?_
      rintro e w12 ⟨rfl, hbel12⟩
      clear HK c1 c2
      have hw12 := hide (hw11.trans (hbel12.mono (by omega)))
      go_wp2_with fail
      go_ret
      exact ⟨rfl, hw12.out⟩
end Go.Proofs.Ytbiamlinoldnlaa
