/- slices.Reverse at []api.Node. -/
import Derived.Test.YtbiamlinoldnlaaDoorChunks
import Derived.Test.YtbiamlinoldnlaaDoorMix
import Derived.Outline
set_option linter.unusedSimpArgs false
set_option linter.unusedVariables false
namespace Go.Proofs.YtbiamlinoldnlaaDoor
open Go.RowKit

def OneCells (X : List (List Value)) : Prop := ∀ c ∈ X, ∀ u ∈ c, u.oneCell' = true

set_option maxRecDepth 100000 in
set_option maxHeartbeats 400000 in
theorem reverse_any (X : List (List Value)) (hX : Tens X) (h1 : OneCells X) (tail : List Value) (g c : Nat) (cur0 : Array Value) (w : World) (hn : X.length ≤ 1000000) (hrow : Blk w g 27 cur0) (hcur : cur0.toList = X.flatten ++ tail) :
    Calls Tryd.prog 96 #[.slice (some ⟨g, 0, none⟩) X.length c] w fun e w' => e = .returned (.tuple #[]) ∧ Only (· = g) w w' ∧ ∃ cur, Blk w' g 27 cur ∧ cur.toList = X.reverse.flatten ++ tail := by
  have hlen : (X.length : Int) ≤ 1000000 := by omega
  go_enter Tryd.func96, Tryd.ntmps96
  go_wp2_with fail
  go_loopw [2, 3] (fun iv jv wr => ∃ (k : Nat) (Y : List (List Value)) (cur : Array Value), iv = .int .i64 k ∧ jv = .int .i64 ((X.length : Int) - 1 - k) ∧ 2 * k ≤ X.length + 1 ∧ Hid (Turned X Y k) ∧ Tens Y ∧ OneCells Y ∧ Only (· = g) w wr ∧
      Blk wr g 27 cur ∧ Hid (cur.toList = Y.flatten ++ tail)) (fun iv _ _ => X.length - (intOf iv).toNat)
  case atStart => exact ⟨0, X, cur0, rfl, by simp, by omega, Turned.zero X, hX, h1, Only.refl _ _, hrow, hcur⟩
  case round =>
    obtain ⟨k, Y, cur, rfl, rfl, hk, hT, hY, h1Y, hon, hrowr, hc⟩ := hrel
    by_cases hlt : 2 * k + 1 < X.length
    · obtain ⟨j, hj⟩ : ∃ j : Nat, j = X.length - 1 - k := ⟨_, rfl⟩
      have hji : (X.length : Int) - 1 - k = (j : Int) := by omega
      have hjk : k < j := by omega
      have hjX : j < X.length := by omega
      have hkX : k < X.length := by omega
      have hYl : Y.length = X.length := hT.out.1
      have hYk := List.getElem?_eq_getElem (show k < Y.length by omega)
      have hYj := List.getElem?_eq_getElem (show j < Y.length by omega)
      generalize Y[k] = ck at *
      generalize Y[j] = cj at *
      have lk : ck.length = 10 := hY _ (List.mem_of_getElem? hYk)
      have lj : cj.length = 10 := hY _ (List.mem_of_getElem? hYj)
      have hk1 := hY.at_ hYk tail
      have hj1 := hY.at_ hYj tail
      have nk := hide (fun (x : World) (h : Blk x g 27 cur) => (show CellsAt x ⟨g, k * 10, none⟩ ck by
        have := h.cellsAt (k * 10)
        rw [hc.out, hk1.2] at this
        exact this.left))
      have nj := hide (fun (x : World) (h : Blk x g 27 cur) => (show CellsAt x ⟨g, j * 10, none⟩ cj by
        have := h.cellsAt (j * 10)
        rw [hc.out, hj1.2] at this
        exact this.left))
      have hsz : cur.size = 10 * X.length + tail.length := by
        have := congrArg List.length hc.out
        rw [List.length_append, hY.length, hYl] at this
        simpa using this
      have HH := hide (And.intro hYl (And.intro hYk (And.intro hYj (And.intro hk1 (And.intro hj1 hj)))))
      clear hYl hYk hYj hk1 hj1 hj
      rw [hji]
      clear hji
      go_wp2_with fail
      refine wp_region_mix (fun x => Blk x g 27 cur) [13, 14, 15] (by kernel_rfl) (fun hcl => ?_)
      have hS : Blk wr.drew g 27 cur := hrowr
      refine wpAnyT_free (i := 0) hcl rfl (by kernel_rfl) (v := ?_) (fun _ _ _ h => h) hS (Or.inl ⟨rfl, fun w' _ => ?_⟩) (fun hcl => ?_)
      rotate_left
      · go_simp
        with_reducible rfl
      simp only [List.getElem_toArray, List.getElem_cons_zero, List.getElem_cons_succ, Act.put, List.setIfInBounds_toArray, List.set_cons_zero, List.set_cons_succ]
      refine wpAnyT_free (i := 1) hcl rfl (by kernel_rfl) (v := ?_) (fun _ _ _ h => h) hS (Or.inl ⟨rfl, fun w' _ => ?_⟩) (fun hcl => ?_)
      rotate_left
      · go_simp
        with_reducible rfl
      simp only [List.getElem_toArray, List.getElem_cons_zero, List.getElem_cons_succ, Act.put, List.setIfInBounds_toArray, List.set_cons_zero, List.set_cons_succ]
      refine wpAnyT_free (i := 2) hcl rfl (by kernel_rfl) (v := ?_) (fun _ _ _ h => h) hS (Or.inl ⟨rfl, fun w' _ => ?_⟩) (fun hcl => ?_)
      rotate_left
      · go_simp
        with_reducible rfl
      simp only [List.getElem_toArray, List.getElem_cons_zero, List.getElem_cons_succ, Act.put, List.setIfInBounds_toArray, List.set_cons_zero, List.set_cons_succ]
      refine wpAnyT_free (i := 3) hcl rfl (by kernel_rfl) (v := ?_) (fun _ _ _ h => h) hS (Or.inl ⟨rfl, fun w' _ => ?_⟩) (fun hcl => ?_)
      rotate_left
      · go_simp
        with_reducible rfl
      simp only [List.getElem_toArray, List.getElem_cons_zero, List.getElem_cons_succ, Act.put, List.setIfInBounds_toArray, List.set_cons_zero, List.set_cons_succ]
      refine wpAnyT_free (i := 4) hcl rfl (by kernel_rfl) (v := ?_) (fun _ _ _ h => h) hS (Or.inl ⟨rfl, fun w' _ => ?_⟩) (fun hcl => ?_)
      rotate_left
      · go_simp
        with_reducible rfl
      simp only [List.getElem_toArray, List.getElem_cons_zero, List.getElem_cons_succ, Act.put, List.setIfInBounds_toArray, List.set_cons_zero, List.set_cons_succ]
      refine wpAnyT_free (i := 5) hcl rfl (by kernel_rfl) (v := ?_) (fun _ _ _ h => h) hS (Or.inl ⟨rfl, fun w' _ => ?_⟩) (fun hcl => ?_)
      rotate_left
      · go_simp
        with_reducible rfl
      simp only [List.getElem_toArray, List.getElem_cons_zero, List.getElem_cons_succ, Act.put, List.setIfInBounds_toArray, List.set_cons_zero, List.set_cons_succ]
      refine wpAnyT_free (i := 6) hcl rfl (by kernel_rfl) (v := ?_) (fun _ _ _ h => h) hS (Or.inl ⟨rfl, fun w' _ => ?_⟩) (fun hcl => ?_)
      rotate_left
      · go_simp
        with_reducible rfl
      simp only [List.getElem_toArray, List.getElem_cons_zero, List.getElem_cons_succ, Act.put, List.setIfInBounds_toArray, List.set_cons_zero, List.set_cons_succ]
      refine wpAnyT_take (i := 7) hcl rfl (by kernel_rfl) (fun _ _ _ h => h) hS (Or.inl ⟨rfl, fun w' hS => run_load_cells _ _ rfl ⟨g, j * 10, none⟩ rfl cj _ Tryd.underlying27 rfl (by rw [lj]; exact Tryd.sizeNode) (nj.out _ hS)⟩) (fun hcl => ?_)
      simp only [List.getElem_toArray, List.getElem_cons_zero, List.getElem_cons_succ, Act.put, List.setIfInBounds_toArray, List.set_cons_zero, List.set_cons_succ]
      refine wpAnyT_free (i := 8) hcl rfl (by kernel_rfl) (v := ?_) (fun _ _ _ h => h) hS (Or.inl ⟨rfl, fun w' _ => ?_⟩) (fun hcl => ?_)
      rotate_left
      · go_simp
        with_reducible rfl
      simp only [List.getElem_toArray, List.getElem_cons_zero, List.getElem_cons_succ, Act.put, List.setIfInBounds_toArray, List.set_cons_zero, List.set_cons_succ]
      refine wpAnyT_free (i := 9) hcl rfl (by kernel_rfl) (v := ?_) (fun _ _ _ h => h) hS (Or.inl ⟨rfl, fun w' _ => ?_⟩) (fun hcl => ?_)
      rotate_left
      · go_simp
        with_reducible rfl
      simp only [List.getElem_toArray, List.getElem_cons_zero, List.getElem_cons_succ, Act.put, List.setIfInBounds_toArray, List.set_cons_zero, List.set_cons_succ]
      refine wpAnyT_free (i := 10) hcl rfl (by kernel_rfl) (v := ?_) (fun _ _ _ h => h) hS (Or.inl ⟨rfl, fun w' _ => ?_⟩) (fun hcl => ?_)
      rotate_left
      · go_simp
        with_reducible rfl
      simp only [List.getElem_toArray, List.getElem_cons_zero, List.getElem_cons_succ, Act.put, List.setIfInBounds_toArray, List.set_cons_zero, List.set_cons_succ]
      refine wpAnyT_take (i := 11) hcl rfl (by kernel_rfl) (fun _ _ _ h => h) hS (Or.inl ⟨rfl, fun w' hS => run_load_cells _ _ rfl ⟨g, k * 10, none⟩ rfl ck _ Tryd.underlying27 rfl (by rw [lk]; exact Tryd.sizeNode) (nk.out _ hS)⟩) (fun hcl => ?_)
      simp only [List.getElem_toArray, List.getElem_cons_zero, List.getElem_cons_succ, Act.put, List.setIfInBounds_toArray, List.set_cons_zero, List.set_cons_succ]
      refine wpAnyT_free (i := 12) hcl rfl (by kernel_rfl) (v := ?_) (fun _ _ _ h => h) hS (Or.inl ⟨rfl, fun w' _ => ?_⟩) (fun hcl => ?_)
      rotate_left
      · go_simp
        with_reducible rfl
      simp only [List.getElem_toArray, List.getElem_cons_zero, List.getElem_cons_succ, Act.put, List.setIfInBounds_toArray, List.set_cons_zero, List.set_cons_succ]
      refine wpAnyT_last (i := 13) hcl rfl (by kernel_rfl) (by kernel_rfl) (fun hcl => ?_)
      refine wpList_store_row rfl _ _ _ rfl g (k * 10) _ cur cj.toArray rfl rfl hS (by simpa [lj] using Tryd.sizeNode) (by simp [lj]; omega) (fun u hu => h1Y _ (List.mem_of_getElem? HH.out.2.2.1) u (by simpa using hu)) ?_
      intro w2 hrow2 hg2 hz2
      refine wpList_nil ?_
      refine wpAnyT_last (i := 14) hcl rfl (by kernel_rfl) (by kernel_rfl) (fun hcl => ?_)
      simp only [List.getElem_toArray, List.getElem_cons_zero, List.getElem_cons_succ, Act.put, List.setIfInBounds_toArray, List.set_cons_zero, List.set_cons_succ]
      go_wp2_with fail
      refine wpAnyT_last (i := 15) hcl rfl (by kernel_rfl) (by kernel_rfl) (fun hcl => ?_)
      simp only [List.getElem_toArray, List.getElem_cons_zero, List.getElem_cons_succ, Act.put, List.setIfInBounds_toArray, List.set_cons_zero, List.set_cons_succ]
      have hr2 : Blk w2 g 27 ((Y.set k cj).flatten ++ tail).toArray := by
        have := hrow2.out
        rw [hc.out, hY.set HH.out.2.1 lj tail] at this
        exact this
      have hsz2 := (hY.set_tens k lj).length
      rw [List.length_set, HH.out.1] at hsz2
      refine wpList_store_row rfl _ _ _ rfl g (j * 10) _ _ ck.toArray rfl rfl hr2 (by simpa [lk] using Tryd.sizeNode) (by simp [lk, hsz2]; omega) (fun u hu => h1Y _ (List.mem_of_getElem? HH.out.2.1) u (by simpa using hu)) ?_
      intro w3 hrow3 hg3 hz3
      refine wpList_nil ?_
      refine wpAnyT_done (by kernel_rfl) ?_ _
      have hset : ((Y.set k cj))[j]? = some cj := by
        rw [List.getElem?_set, if_neg (by omega)]
        exact HH.out.2.2.1
      have hr3 : Hid (Blk w3 g 27 ((((Y.set k cj).set j ck)).flatten ++ tail).toArray) := by
        have := hrow3.out
        rw [(hY.set_tens k lj).set hset lk tail] at this
        exact this
      clear hr2 hrow2 hrow3 hset hsz2 hcl
      go_wp2_with fail
      go_roundw
      case rel =>
        refine ⟨k + 1, (Y.set k cj).set j ck, _, by go_num, ?_, by omega, ?_, (hY.set_tens k lj).set_tens j lk, ?_, ?_, hr3.out, List.toList_toArray⟩
        · congr 1
          have := HH.out.2.2.2.2.2
          omega
        · exact hT.out.step HH.out.2.2.2.2.2 hjk HH.out.2.1 HH.out.2.2.1
        · intro d hd
          rcases List.mem_or_eq_of_mem_set hd with hd | rfl
          · rcases List.mem_or_eq_of_mem_set hd with hd | rfl
            · exact h1Y d hd
            · exact h1Y _ (List.mem_of_getElem? HH.out.2.2.1)
          · exact h1Y _ (List.mem_of_getElem? HH.out.2.1)
        · exact (hon.drew.then (Only.of_grown (bs := (· = g)) hg2 (fun b hb => by injection hb with hb; exact hb.symm)) (fun _ _ h => h)).then (Only.of_grown (bs := (· = g)) hg3 (fun b hb => by injection hb with hb; exact hb.symm)) (fun _ _ h => h)
      case measure => simp [intOf]; omega
    · go_wp2_with fail
      go_end0
      refine ⟨rfl, hon, cur, hrowr, ?_⟩
      rw [hc.out, hT.out.done (by omega)]
end Go.Proofs.YtbiamlinoldnlaaDoor
