/- trawlref17.Same of positions that read alike. -/
import Derived.Test.YthkddbfgihgfaaaDoorPo
import Derived.Test.YthkddbfgihgfaaaDoorPoCheck
import Derived.Test.YthkddbfgihgfaaaDoorCheck
import Derived.BigQuiet
import Derived.Test.YthkddbfgihgfaaaDoorPick
import Derived.Laws.StructEq
import Derived.Deep.DeepCutAuto
set_option linter.unusedSimpArgs false
set_option linter.unusedVariables false
namespace Go.Proofs.YthkddbfgihgfaaaDoor
open Go.RowKit

set_option maxRecDepth 100000 in
set_option maxHeartbeats 2000000 in
theorem same17_true (l : List Ed) (A B : Option Addr) (c d : Nat) (w : World) (hl : l.length ≤ 9223372036854775807) (hA : EdIn (· < w.heap.size) w l A) (hB : EdIn (· < w.heap.size) w l B) :
    Calls Tryd.prog 43 #[.slice A l.length c, .slice B l.length d] w fun e w' => e = .returned (.bool true) ∧ Below w.heap.size w w' := by
  have HK := hide (And.intro hA hB)
  clear hA hB
  go_enter Tryd.func43, Tryd.ntmps43
  go_wp2_with fail
  go_loopw [5] (fun kv wr => ∃ k : Nat, kv = .int .i64 k ∧ k ≤ l.length ∧ Below w.heap.size w wr) (fun kv _ => l.length - (intOf kv).toNat)
  case atStart => exact ⟨0, rfl, Nat.zero_le _, Below.refl _ _⟩
  case round =>
    obtain ⟨k, rfl, hk, hbel⟩ := hrel
    by_cases hlt : k < l.length
    · have g1 : decide ((k : Int) < (l.length : Int)) = true := decide_eq_true (by omega)
      have hs := List.getElem?_eq_getElem hlt
      generalize l[k] = ed at *
      obtain ⟨e1, e2⟩ := ed
      obtain ⟨ba, oa, rfl, za, a1, a2⟩ := HK.out.1.cell hs
      obtain ⟨bb, ob, rfl, zb, b1, b2⟩ := HK.out.2.cell hs
      have a1' := (hbel.cell (p := ⟨ba, oa + k * 2, none⟩) za).trans a1
      have a2' := (hbel.cell (p := ⟨ba, oa + k * 2 + 1, none⟩) za).trans a2
      have b1' := (hbel.cell (p := ⟨bb, ob + k * 2, none⟩) zb).trans b1
      have b2' := (hbel.cell (p := ⟨bb, ob + k * 2 + 1, none⟩) zb).trans b2
      simp only at a1' a2' b1' b2'
      have HT := hide hbel
      clear hbel a1 a2 b1 b2 hs
      go_wp2_with fail
      go_quiet (fail)
      go_wp2_with fail
      go_roundw
      case rel => exact ⟨k + 1, by go_num, hlt, below_drewN HT.out _⟩
      case measure => simp [intOf]; omega
    · have g1 : decide ((k : Int) < (l.length : Int)) = false := decide_eq_false (by omega)
      have HT := hide hbel
      clear hbel
      go_wp2_with fail
      go_ret
      exact ⟨rfl, HT.out⟩

theorem SeIn.cellS {ok : Nat → Prop} {w : World} {l : List Se} {A : Option Addr} (h : SeIn ok w l A) {k : Nat} {s : Se} (hk : l[k]? = some s) :
    ∃ b o, A = some ⟨b, o, none⟩ ∧ ok b ∧ w.cell? ⟨b, o + k * 4, none⟩ = some (.int .u64 s.1) ∧ w.cell? ⟨b, o + k * 4 + 1, none⟩ = some (.int .u64 s.2.1) ∧ w.cell? ⟨b, o + k * 4 + 2, none⟩ = some (.int .u64 s.2.2.1) ∧ w.cell? ⟨b, o + k * 4 + 3, none⟩ = some (.int .u64 s.2.2.2) := by
  obtain ⟨b, o, e1, hb, hc⟩ := LIn.at_ h hk
  exact ⟨b, o, e1, hb, by simpa [Addr.add_lit] using hc 0 _ rfl, by simpa [Addr.add_lit] using hc 1 _ rfl, by simpa [Addr.add_lit] using hc 2 _ rfl, by simpa [Addr.add_lit] using hc 3 _ rfl⟩


set_option maxRecDepth 100000 in
set_option maxHeartbeats 4000000 in
theorem posSame_true (p : Po) (pa pb : PoA) (w : World) (hwf : p.wf) (hA : PoIn (· < w.heap.size) w p pa) (hB : PoIn (· < w.heap.size) w p pb) :
    Calls Tryd.prog 15 #[.agg (p.cells pa).toArray, .agg (p.cells pb).toArray] w fun e w' => e = .returned (.bool true) ∧ Below w.heap.size w w' := by
  have hns := fun w s0 s1 s2 s3 => run_neq_set w s0 s1 s2 s3 s0 s1 s2 s3
  simp only [beq_self_eq_true, Bool.and_self, Bool.not_true] at hns
  have hb := ((Below.refl w.heap.size w).alloc (Nat.le_refl _) (.cells (p.cells pa).toArray 36)).alloc (by simp) (.cells (p.cells pb).toArray 36)
  have hx := (Blk.new w 36 (p.cells pa).toArray).alloc (.cells (p.cells pb).toArray 36)
  have hy := Blk.new (w.alloc (.cells (p.cells pa).toArray 36)) 36 (p.cells pb).toArray
  rw [World.size_alloc] at hy
  have hz : w.heap.size + 1 < ((w.alloc (.cells (p.cells pa).toArray 36)).alloc (.cells (p.cells pb).toArray 36)).heap.size := by simp
  have HX := hide (And.intro (hA.next hb) (And.intro (hB.next hb) (And.intro hx (And.intro hy hb))))
  have HWF := hide hwf
  have hn1 := hwf.ns
  have hn2 := hwf.nf
  have hn3 := hwf.nl
  have hn4 := hwf.nw
  clear hA hB hx hy hb hwf
  simp only [Po.cells] at HX hz ⊢
  have cx := HX.out.2.2.1.cell
  have cy := HX.out.2.2.2.1.cell
  go_enter Tryd.func15, Tryd.ntmps15
  go_upto_region 3 with fail
  clear cx cy
  generalize ((w.alloc (.cells #[.slice pa.s p.sets.length pa.cs, .int .i64 p.null, .slice pa.f p.first.length pa.cf, .slice pa.l p.last.length pa.cl, .slice pa.w p.follow.length pa.cw] 36)).alloc (.cells #[.slice pb.s p.sets.length pb.cs, .int .i64 p.null, .slice pb.f p.first.length pb.cf, .slice pb.l p.last.length pb.cl, .slice pb.w p.follow.length pb.cw] 36)) = W at *
  go_wp2_with fail
  go_loopw [5] (fun kv wr => ∃ k : Nat, kv = .int .i64 (k : Int) ∧ k ≤ p.sets.length ∧ Below W.heap.size W wr) (fun kv _ => p.sets.length - (intOf kv).toNat)
  case atStart => exact ⟨0, rfl, Nat.zero_le _, Below.refl _ _⟩
  case round =>
    obtain ⟨k, rfl, hk, hbel⟩ := hrel
    have cx := (HX.out.2.2.1.nxt hbel).cell
    have cy := (HX.out.2.2.2.1.nxt hbel).cell
    by_cases hlt : k < p.sets.length
    · have g1 : decide ((k : Int) < (p.sets.length : Int)) = true := decide_eq_true (by omega)
      have hs := List.getElem?_eq_getElem hlt
      generalize p.sets[k] = se at *
      obtain ⟨s0, s1, s2, s3⟩ := se
      obtain ⟨ba, oa, hpa, za, a0, a1, a2, a3⟩ := (HX.out.1.next hbel).sets.cellS hs
      obtain ⟨bb, ob, hpb, zb, b0, b1, b2, b3⟩ := (HX.out.2.1.next hbel).sets.cellS hs
      rw [hpa] at cx
      rw [hpb] at cy
      have HT := hide hbel
      have HPA := hide (And.intro hpa hpb)
      clear hbel hs hpa hpb
      go_wp2_with fail
      go_quiet (fail)
      go_wp2_with fail
      go_roundw
      case rel => exact ⟨k + 1, by go_num, hlt, below_drewN HT.out _⟩
      case measure => simp [intOf]; omega
    · have g1 : decide ((k : Int) < (p.sets.length : Int)) = false := decide_eq_false (by omega)
      have HT := hide hbel
      clear hbel
      have h1 := hide (same17_true p.first pa.f pb.f pa.cf pb.cf wr hn2 (HX.out.1.next HT.out).first (HX.out.2.1.next HT.out).first)
      go_wp2_with fail
      refine h1.out.mono ?_
      rintro e w2 ⟨rfl, hb2⟩
      have hb2' := HT.out.trans (hb2.mono HT.out.size)
      have HT2 := hide hb2'
      have h2 := hide (same17_true p.last pa.l pb.l pa.cl pb.cl w2 hn3 (HX.out.1.next hb2').last (HX.out.2.1.next hb2').last)
      clear cx cy hb2 hb2' h1
      have cx := (HX.out.2.2.1.nxt HT2.out).cell
      have cy := (HX.out.2.2.2.1.nxt HT2.out).cell
      go_wp2_with fail
      refine h2.out.mono ?_
      rintro e w3 ⟨rfl, hb3⟩
      have HT3 := hide (HT2.out.trans (hb3.mono HT2.out.size))
      clear cx cy hb3 h2 HT HT2 g1
      go_wp2_with fail
      go_loopw [6, 7] (fun bv kv wr => ∃ k : Nat, kv = .int .i64 (k : Int) ∧ k ≤ p.follow.length ∧ bv = .bool true ∧ Below W.heap.size W wr) (fun _ kv _ => p.follow.length - (intOf kv).toNat)
      case atStart => exact ⟨0, rfl, Nat.zero_le _, rfl, HT3.out⟩
      case round =>
        clear HT3
        obtain ⟨j, rfl, hj, rfl, hbel⟩ := hrel
        by_cases hlt2 : j < p.follow.length
        · have g1 : decide ((j : Int) < (p.follow.length : Int)) = true := decide_eq_true (by omega)
          have hs := List.getElem?_eq_getElem hlt2
          have hmem := List.getElem_mem hlt2
          generalize p.follow[j] = r at *
          obtain ⟨bf, of, Bf, cf, hAf, hbf, cfol, hefo⟩ := HX.out.1.follow.cell hs
          obtain ⟨bg, og, Bg, cg, hAg, hbg, cgol, hego⟩ := HX.out.2.1.follow.cell hs
          have hrl := (HWF.out.follow r hmem).1
          have HT := hide hbel
          have HPA := hide (And.intro hAf hAg)
          have HE := hide (And.intro hefo hego)
          have HC := hide (And.intro cfol cgol)
          clear hbel hs hAf hAg hefo hego cfol cgol hmem
          have cx0 := (HX.out.2.2.1.nxt HT.out).cell
          have cy0 := (HX.out.2.2.2.1.nxt HT.out).cell
          go_upto_region 12 with fail
          clear cx0 cy0
          refine wp_region_mix (fun z => Below wr.heap.size wr z) [11] (by kernel_rfl) (fun hcl => ?_)
          have hS : Below wr.heap.size wr wr.drew := (Below.refl _ _).drew
          refine wpAnyT_free (i := 0) hcl rfl (by kernel_rfl) (v := ?_) (fun _ _ _ h => h) hS (Or.inl ⟨rfl, fun w' _ => ?_⟩) (fun hcl => ?_)
          rotate_left
          · go_simp
            with_reducible rfl
          simp only [List.getElem_toArray, List.getElem_cons_zero, List.getElem_cons_succ, Act.put, List.setIfInBounds_toArray, List.set_cons_zero, List.set_cons_succ]
          refine wpAnyT_take (i := 1) hcl rfl (by kernel_rfl) (v := ?_) (fun _ _ _ h => h) hS (Or.inl ⟨rfl, fun w' hS => ?_⟩) (fun hcl => ?_)
          rotate_left
          · skip
            have cx := ((HX.out.2.2.1.nxt HT.out).nxt hS).cell
            rw [HPA.out.1] at cx
            go_simp
            with_reducible rfl
          simp only [List.getElem_toArray, List.getElem_cons_zero, List.getElem_cons_succ, Act.put, List.setIfInBounds_toArray, List.set_cons_zero, List.set_cons_succ]
          refine wpAnyT_free (i := 2) hcl rfl (by kernel_rfl) (v := ?_) (fun _ _ _ h => h) hS (Or.inl ⟨rfl, fun w' _ => ?_⟩) (fun hcl => ?_)
          rotate_left
          · go_simp
            with_reducible rfl
          simp only [List.getElem_toArray, List.getElem_cons_zero, List.getElem_cons_succ, Act.put, List.setIfInBounds_toArray, List.set_cons_zero, List.set_cons_succ]
          refine wpAnyT_free (i := 3) hcl rfl (by kernel_rfl) (v := ?_) (fun _ _ _ h => h) hS (Or.inl ⟨rfl, fun w' _ => ?_⟩) (fun hcl => ?_)
          rotate_left
          · go_simp
            with_reducible rfl
          simp only [List.getElem_toArray, List.getElem_cons_zero, List.getElem_cons_succ, Act.put, List.setIfInBounds_toArray, List.set_cons_zero, List.set_cons_succ]
          refine wpAnyT_take (i := 4) hcl rfl (by kernel_rfl) (v := ?_) (fun _ _ _ h => h) hS (Or.inl ⟨rfl, fun w' hS => ?_⟩) (fun hcl => ?_)
          rotate_left
          · skip
            have cq := (hS.cell (p := ⟨bf, of + j, none⟩) (by show bf < wr.heap.size; have := HT.out.size; omega)).trans ((HT.out.cell (p := ⟨bf, of + j, none⟩) (by show bf < W.heap.size; omega)).trans HC.out.1)
            go_simp
            with_reducible rfl
          simp only [List.getElem_toArray, List.getElem_cons_zero, List.getElem_cons_succ, Act.put, List.setIfInBounds_toArray, List.set_cons_zero, List.set_cons_succ]
          refine wpAnyT_free (i := 5) hcl rfl (by kernel_rfl) (v := ?_) (fun _ _ _ h => h) hS (Or.inl ⟨rfl, fun w' _ => ?_⟩) (fun hcl => ?_)
          rotate_left
          · go_simp
            with_reducible rfl
          simp only [List.getElem_toArray, List.getElem_cons_zero, List.getElem_cons_succ, Act.put, List.setIfInBounds_toArray, List.set_cons_zero, List.set_cons_succ]
          refine wpAnyT_take (i := 6) hcl rfl (by kernel_rfl) (v := ?_) (fun _ _ _ h => h) hS (Or.inl ⟨rfl, fun w' hS => ?_⟩) (fun hcl => ?_)
          rotate_left
          · skip
            have cy := ((HX.out.2.2.2.1.nxt HT.out).nxt hS).cell
            rw [HPA.out.2] at cy
            go_simp
            with_reducible rfl
          simp only [List.getElem_toArray, List.getElem_cons_zero, List.getElem_cons_succ, Act.put, List.setIfInBounds_toArray, List.set_cons_zero, List.set_cons_succ]
          refine wpAnyT_free (i := 7) hcl rfl (by kernel_rfl) (v := ?_) (fun _ _ _ h => h) hS (Or.inl ⟨rfl, fun w' _ => ?_⟩) (fun hcl => ?_)
          rotate_left
          · go_simp
            with_reducible rfl
          simp only [List.getElem_toArray, List.getElem_cons_zero, List.getElem_cons_succ, Act.put, List.setIfInBounds_toArray, List.set_cons_zero, List.set_cons_succ]
          refine wpAnyT_free (i := 8) hcl rfl (by kernel_rfl) (v := ?_) (fun _ _ _ h => h) hS (Or.inl ⟨rfl, fun w' _ => ?_⟩) (fun hcl => ?_)
          rotate_left
          · go_simp
            with_reducible rfl
          simp only [List.getElem_toArray, List.getElem_cons_zero, List.getElem_cons_succ, Act.put, List.setIfInBounds_toArray, List.set_cons_zero, List.set_cons_succ]
          refine wpAnyT_take (i := 9) hcl rfl (by kernel_rfl) (v := ?_) (fun _ _ _ h => h) hS (Or.inl ⟨rfl, fun w' hS => ?_⟩) (fun hcl => ?_)
          rotate_left
          · skip
            have cq := (hS.cell (p := ⟨bg, og + j, none⟩) (by show bg < wr.heap.size; have := HT.out.size; omega)).trans ((HT.out.cell (p := ⟨bg, og + j, none⟩) (by show bg < W.heap.size; omega)).trans HC.out.2)
            go_simp
            with_reducible rfl
          simp only [List.getElem_toArray, List.getElem_cons_zero, List.getElem_cons_succ, Act.put, List.setIfInBounds_toArray, List.set_cons_zero, List.set_cons_succ]
          refine wpAnyT_step (i := 10) hcl rfl (by kernel_rfl) (fun hcl => ?_)
          simp only [List.getElem_toArray, List.getElem_cons_zero, List.getElem_cons_succ, Act.put, List.setIfInBounds_toArray, List.set_cons_zero, List.set_cons_succ]
          have hbS := HT.out.trans (hS.mono HT.out.size)
          have HT5 := hide (And.intro hbS hS)
          have h5 := hide (same17_true r Bf Bg cf cg wr.drew hrl (HE.out.1.same (same_of_below hbS) (fun b hb => Nat.lt_of_lt_of_le hb hbS.size)) (HE.out.2.same (same_of_below hbS) (fun b hb => Nat.lt_of_lt_of_le hb hbS.size)))
          clear hS hbS
          go_wp2_with fail
          refine h5.out.mono ?_
          rintro e w5 ⟨rfl, hb5⟩
          have HT6 := hide (HT5.out.1.trans (hb5.mono HT5.out.1.size))
          have hS : Below wr.heap.size wr w5 := HT5.out.2.trans (hb5.mono HT5.out.2.size)
          clear hb5 h5 HT5
          go_wp2_with fail
          refine ⟨hS, ?_⟩
          refine wpAnyT_last (i := 11) hcl rfl (by kernel_rfl) (by kernel_rfl) (fun hcl => ?_)
          simp only [List.getElem_toArray, List.getElem_cons_zero, List.getElem_cons_succ, Act.put, List.setIfInBounds_toArray, List.set_cons_zero, List.set_cons_succ]
          go_wp2_with fail
          refine wpAnyT_done (by kernel_rfl) ?_ _
          go_wp2_with fail
          go_roundw
          case rel => exact ⟨j + 1, by go_num, hlt2, rfl, HT6.out⟩
          case measure => simp [intOf]; omega
        · have g1 : decide ((j : Int) < (p.follow.length : Int)) = false := decide_eq_false (by omega)
          have HT := hide hbel
          clear hbel
          have cx := (HX.out.2.2.1.nxt HT.out).cell
          go_wp2_with fail
          go_ret
          exact ⟨rfl, HX.out.2.2.2.2.trans (HT.out.mono (by have := HX.out.2.2.2.2.size; omega))⟩
end Go.Proofs.YthkddbfgihgfaaaDoor
