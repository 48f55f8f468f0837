/- trawlref17.none, met, joined: lists of ways. (Printed by gen_rows17.py.) -/
import Derived.Test.YtbbhobojghmkpaaDoorBoolRow
import Derived.Test.YtbbhobojghmkpaaDoorPoCheck
import Derived.Test.YtbbhobojghmkpaaDoorPick
set_option linter.unusedSimpArgs false
set_option linter.unusedVariables false
namespace Go.Proofs.YtbbhobojghmkpaaDoor
open Go.RowKit

theorem or16 : ∀ a b : Fin 16, bits .or .i64 (a.val : Int) (b.val : Int) = ((a.val ||| b.val : Nat) : Int) := by decide +kernel
theorem and16 : ∀ a b : Fin 16, bits .and .i64 (a.val : Int) (b.val : Int) = ((a.val &&& b.val : Nat) : Int) := by decide +kernel
theorem or_lt16 : ∀ a b : Fin 16, a.val ||| b.val < 16 := by decide +kernel
theorem and_lt16 : ∀ a b : Fin 16, a.val &&& b.val < 16 := by decide +kernel
theorem orI {a b : Nat} (ha : a < 16) (hb : b < 16) : bits .or .i64 (a : Int) (b : Int) = ((a ||| b : Nat) : Int) := or16 ⟨a, ha⟩ ⟨b, hb⟩
theorem andI {a b : Nat} (ha : a < 16) (hb : b < 16) : bits .and .i64 (a : Int) (b : Int) = ((a &&& b : Nat) : Int) := and16 ⟨a, ha⟩ ⟨b, hb⟩
theorem orL {a b : Nat} (ha : a < 16) (hb : b < 16) : a ||| b < 16 := or_lt16 ⟨a, ha⟩ ⟨b, hb⟩
theorem andL {a b : Nat} (ha : a < 16) (hb : b < 16) : a &&& b < 16 := and_lt16 ⟨a, ha⟩ ⟨b, hb⟩

/-- Block g holds n ways, f tells them. -/
def InRow (w : World) (g n : Nat) (f : Nat → Nat) : Prop := ∃ row : Array Value, Blk w g 3 row ∧ row.size = n ∧ ∀ i, i < n → row[i]? = some (.int .i64 ((f i : Nat) : Int))
section
variable {w w' : World} {g n : Nat} {p : Nat → Nat}
theorem InRow.cell (h : InRow w g n p) (i : Nat) (hi : i < n) : w.cell? ⟨g, i, none⟩ = some (.int .i64 ((p i : Nat) : Int)) := by
  obtain ⟨row, h1, _, h3⟩ := h
  rw [h1.cell, h3 i hi]
theorem InRow.frozen (h : InRow w g n p) (i : Nat) : w.frozen? ⟨g, i, none⟩ = false := by
  obtain ⟨row, h1, _, _⟩ := h
  exact h1.frozen i
theorem InRow.lt (h : InRow w g n p) : g < w.heap.size := by obtain ⟨row, h1, _⟩ := h; exact h1.lt
theorem InRow.same {ok : Nat → Prop} (h : InRow w g n p) (hs : Same ok w w') (hm : ok g) : InRow w' g n p := by
  obtain ⟨row, h1, h2⟩ := h
  exact ⟨row, h1.same hs hm, h2⟩
theorem InRow.next (h : InRow w g n p) (hb : Below w.heap.size w w') : InRow w' g n p := h.same (same_of_below hb) h.lt
theorem InRow.set (h : InRow w g n p) (i : Nat) (v : Nat) (hi : i < n) : InRow (w.setCell ⟨g, i, none⟩ (.int .i64 (v : Int))) g n (fun j => if j = i then v else p j) := by
  obtain ⟨row, h1, h2, h3⟩ := h
  refine ⟨row.setIfInBounds i (.int .i64 (v : Int)), heap_setCell_same w g i row _ _ h1, by simp [h2], fun j hj => ?_⟩
  by_cases hij : i = j
  · subst hij; simp [show i < row.size by omega]
  · rw [Array.getElem?_setIfInBounds_ne hij, h3 j hj]
    simp [show ¬ j = i from fun e => hij e.symm]
theorem InRow.congr {q : Nat → Nat} (h : InRow w g n p) (e : ∀ i, i < n → p i = q i) : InRow w g n q := by
  obtain ⟨row, h1, h2, h3⟩ := h
  exact ⟨row, h1, h2, fun i hi => by rw [h3 i hi, e i hi]⟩
theorem InRow.new (w : World) (n : Nat) : InRow (w.alloc (.cells (madeCells #[.int .i64 0] n) 3)) w.heap.size n (fun _ => 0) := by
  refine ⟨_, Blk.new w _ _, by simp [madeCells], fun i hi => ?_⟩
  simp [madeCells, hi, Nat.mod_one]
end
/-- A new list of n zeros. -/
theorem run_inner (n : Nat) (hn : n ≤ 17592186044416) (W : World) : (Instr.makeSlice 55 (.int .i64 (n : Int)) (.int .i64 (n : Int))).run Tryd.prog W = .ok (.slice (some ⟨W.heap.size, 0, none⟩) n n) (W.alloc (.cells (madeCells #[.int .i64 0] n) 3)) := by
  obtain ⟨i0, hi, hz0, hz1, hz2⟩ := info_parts Tryd.infoInt
  have hmk := run_make_rowN (P := Tryd.prog) 55 3 i0 _ Tryd.underlying55 hi hz0 .i64 .i64 n n (Nat.le_refl _) (by rw [hz2]; omega) (by omega) W
  rw [hz1] at hmk
  simp only [Nat.mul_one] at hmk
  exact hmk

/-- A new list of ways was returned. -/
def RowIs (n : Nat) (f : Nat → Nat) (w : World) (e : Ending) (w' : World) : Prop := ∃ g, e = .returned (.slice (some ⟨g, 0, none⟩) n n) ∧ InRow w' g n f ∧ w.heap.size ≤ g ∧ Below w.heap.size w w'

theorem none17_any (n gm : Nat) (cs : Array Value) (w : World) (hn : n ≤ 1000000) (hb : Blk w gm 123 cs) (hc : cs[0]? = some (.int .i64 (n : Int))) :
    Calls Tryd.prog 95 #[.pointer (some ⟨gm, 0, none⟩)] w (RowIs n (fun _ => 0) w) := by
  have hmk := run_inner n (by omega) w
  have c0 := hb.cell 0
  rw [hc] at c0
  have hgl := hb.lt
  clear hb hc
  go_enter Tryd.func95, Tryd.ntmps95
  go_wp2_with fail
  go_ret
  exact ⟨_, rfl, InRow.new _ _, Nat.le_refl _, (Below.refl _ _).alloc (Nat.le_refl _) _⟩

set_option maxHeartbeats 1000000 in
theorem met17_any (n ga ways : Nat) (f : Nat → Nat) (w : World) (hn : n ≤ 1000000) (hw : ways < 16) (hf : ∀ i, f i < 16) (ha : InRow w ga n f) :
    Calls Tryd.prog 118 #[.slice (some ⟨ga, 0, none⟩) n n, .int .i64 ways] w (RowIs n (fun i => f i &&& ways) w) := by
  have hmk := run_inner n (by omega) w
  go_enter Tryd.func118, Tryd.ntmps118
  go_wp2_with fail
  clear hmk
  have hnew := InRow.new w n
  have hbel := (Below.refl w.heap.size w).alloc (Nat.le_refl _) (.cells (madeCells #[.int .i64 0] n) 3)
  have hA := hide ha
  clear ha
  generalize (w.alloc (.cells (madeCells #[.int .i64 0] n) 3)) = W at *
  go_loopw [6] (fun kv wr => ∃ k : Nat, kv = .int .i64 k ∧ k ≤ n ∧ InRow wr w.heap.size n (fun j => if j < k then f j &&& ways else 0) ∧ Below w.heap.size w wr) (fun kv _ => n - (intOf kv).toNat)
  case atStart => exact ⟨0, rfl, by omega, hnew.congr fun j _ => by simp, hbel⟩
  case round =>
    clear hnew hbel
    obtain ⟨k, rfl, hk, hrow, hbel⟩ := hrel
    by_cases hlt : k < n
    · have g1 : decide ((k : Int) < (n : Int)) = true := decide_eq_true (by omega)
      have ca := (hA.out.same (same_of_below hbel) hA.out.lt).cell k hlt
      have cc := hrow.cell k hlt
      have cf := hrow.frozen
      have hand := andI (hf k) hw
      have H := hide (And.intro hrow hbel)
      clear hrow hbel
      go_wp2_with (simp only [hand])
      go_roundw
      case rel =>
        refine ⟨k + 1, by go_num, by omega, (H.out.1.set k (f k &&& ways) hlt).congr fun j hj => ?_, H.out.2.setCell (by simp) _⟩
        by_cases h : j = k
        · subst h; simp
        · rw [if_neg h]
          by_cases h2 : j < k
          · rw [if_pos h2, if_pos (by omega)]
          · rw [if_neg h2, if_neg (by omega)]
      case measure => simp [intOf]; omega
    · have g1 : decide ((k : Int) < (n : Int)) = false := decide_eq_false (by omega)
      have H := hide (And.intro hrow hbel)
      clear hrow hbel
      go_wp2_with fail
      go_ret
      exact ⟨_, rfl, H.out.1.congr fun j hj => by rw [if_pos (by omega)], Nat.le_refl _, H.out.2⟩

set_option maxHeartbeats 1000000 in
theorem joined17_any (n ga gb : Nat) (f h : Nat → Nat) (w : World) (hn : n ≤ 1000000) (hf : ∀ i, f i < 16) (hh : ∀ i, h i < 16) (ha : InRow w ga n f) (hb : InRow w gb n h) :
    Calls Tryd.prog 117 #[.slice (some ⟨ga, 0, none⟩) n n, .slice (some ⟨gb, 0, none⟩) n n] w (RowIs n (fun i => f i ||| h i) w) := by
  have hmk := run_inner n (by omega) w
  go_enter Tryd.func117, Tryd.ntmps117
  go_wp2_with fail
  clear hmk
  have hnew := InRow.new w n
  have hbel := (Below.refl w.heap.size w).alloc (Nat.le_refl _) (.cells (madeCells #[.int .i64 0] n) 3)
  have hA := hide (And.intro ha hb)
  clear ha hb
  generalize (w.alloc (.cells (madeCells #[.int .i64 0] n) 3)) = W at *
  go_loopw [6] (fun kv wr => ∃ k : Nat, kv = .int .i64 k ∧ k ≤ n ∧ InRow wr w.heap.size n (fun j => if j < k then f j ||| h j else 0) ∧ Below w.heap.size w wr) (fun kv _ => n - (intOf kv).toNat)
  case atStart => exact ⟨0, rfl, by omega, hnew.congr fun j _ => by simp, hbel⟩
  case round =>
    clear hnew hbel
    obtain ⟨k, rfl, hk, hrow, hbel⟩ := hrel
    by_cases hlt : k < n
    · have g1 : decide ((k : Int) < (n : Int)) = true := decide_eq_true (by omega)
      have H := hide (And.intro hrow hbel)
      have hor := orI (hf k) (hh k)
      clear hrow hbel
      go_upto_region 5 with fail
      refine wp_region_mix (fun y => Below wr.heap.size wr y) [12] (by kernel_rfl) (fun hcl => ?_)
      have hS : Below wr.heap.size wr wr.drew := (Below.refl _ _).drew
      refine wpAnyT_free (i := 0) hcl rfl (by kernel_rfl) (v := ?_) (fun _ _ _ h => h) hS (Or.inl ⟨rfl, fun w' _ => ?_⟩) (fun hcl => ?_)
      rotate_left
      · go_simp
        with_reducible rfl
      simp only [List.getElem_toArray, List.getElem_cons_zero, List.getElem_cons_succ, Act.put, List.setIfInBounds_toArray, List.set_cons_zero, List.set_cons_succ]
      refine wpAnyT_free (i := 1) hcl rfl (by kernel_rfl) (v := ?_) (fun _ _ _ h => h) hS (Or.inl ⟨rfl, fun w' _ => ?_⟩) (fun hcl => ?_)
      rotate_left
      · go_simp
        with_reducible rfl
      simp only [List.getElem_toArray, List.getElem_cons_zero, List.getElem_cons_succ, Act.put, List.setIfInBounds_toArray, List.set_cons_zero, List.set_cons_succ]
      refine wpAnyT_free (i := 2) hcl rfl (by kernel_rfl) (v := ?_) (fun _ _ _ h => h) hS (Or.inl ⟨rfl, fun w' _ => ?_⟩) (fun hcl => ?_)
      rotate_left
      · go_simp
        with_reducible rfl
      simp only [List.getElem_toArray, List.getElem_cons_zero, List.getElem_cons_succ, Act.put, List.setIfInBounds_toArray, List.set_cons_zero, List.set_cons_succ]
      refine wpAnyT_free (i := 3) hcl rfl (by kernel_rfl) (v := ?_) (fun _ _ _ h => h) hS (Or.inl ⟨rfl, fun w' _ => ?_⟩) (fun hcl => ?_)
      rotate_left
      · go_simp
        with_reducible rfl
      simp only [List.getElem_toArray, List.getElem_cons_zero, List.getElem_cons_succ, Act.put, List.setIfInBounds_toArray, List.set_cons_zero, List.set_cons_succ]
      refine wpAnyT_free (i := 4) hcl rfl (by kernel_rfl) (v := ?_) (fun _ _ _ h => h) hS (Or.inl ⟨rfl, fun w' _ => ?_⟩) (fun hcl => ?_)
      rotate_left
      · go_simp
        with_reducible rfl
      simp only [List.getElem_toArray, List.getElem_cons_zero, List.getElem_cons_succ, Act.put, List.setIfInBounds_toArray, List.set_cons_zero, List.set_cons_succ]
      refine wpAnyT_take (i := 5) hcl rfl (by kernel_rfl) (v := ?_) (fun _ _ _ h => h) hS (Or.inl ⟨rfl, fun w' hS => ?_⟩) (fun hcl => ?_)
      rotate_left
      · skip
        have ca := (hA.out.1.same (same_of_below (H.out.2.trans (hS.mono H.out.2.size))) hA.out.1.lt).cell k hlt
        go_simp
        with_reducible rfl
      simp only [List.getElem_toArray, List.getElem_cons_zero, List.getElem_cons_succ, Act.put, List.setIfInBounds_toArray, List.set_cons_zero, List.set_cons_succ]
      refine wpAnyT_free (i := 6) hcl rfl (by kernel_rfl) (v := ?_) (fun _ _ _ h => h) hS (Or.inl ⟨rfl, fun w' _ => ?_⟩) (fun hcl => ?_)
      rotate_left
      · go_simp
        with_reducible rfl
      simp only [List.getElem_toArray, List.getElem_cons_zero, List.getElem_cons_succ, Act.put, List.setIfInBounds_toArray, List.set_cons_zero, List.set_cons_succ]
      refine wpAnyT_free (i := 7) hcl rfl (by kernel_rfl) (v := ?_) (fun _ _ _ h => h) hS (Or.inl ⟨rfl, fun w' _ => ?_⟩) (fun hcl => ?_)
      rotate_left
      · go_simp
        with_reducible rfl
      simp only [List.getElem_toArray, List.getElem_cons_zero, List.getElem_cons_succ, Act.put, List.setIfInBounds_toArray, List.set_cons_zero, List.set_cons_succ]
      refine wpAnyT_free (i := 8) hcl rfl (by kernel_rfl) (v := ?_) (fun _ _ _ h => h) hS (Or.inl ⟨rfl, fun w' _ => ?_⟩) (fun hcl => ?_)
      rotate_left
      · go_simp
        with_reducible rfl
      simp only [List.getElem_toArray, List.getElem_cons_zero, List.getElem_cons_succ, Act.put, List.setIfInBounds_toArray, List.set_cons_zero, List.set_cons_succ]
      refine wpAnyT_take (i := 9) hcl rfl (by kernel_rfl) (v := ?_) (fun _ _ _ h => h) hS (Or.inl ⟨rfl, fun w' hS => ?_⟩) (fun hcl => ?_)
      rotate_left
      · skip
        have cb := (hA.out.2.same (same_of_below (H.out.2.trans (hS.mono H.out.2.size))) hA.out.2.lt).cell k hlt
        go_simp
        with_reducible rfl
      simp only [List.getElem_toArray, List.getElem_cons_zero, List.getElem_cons_succ, Act.put, List.setIfInBounds_toArray, List.set_cons_zero, List.set_cons_succ]
      refine wpAnyT_free (i := 10) hcl rfl (by kernel_rfl) (v := ?_) (fun _ _ _ h => h) hS (Or.inl ⟨rfl, fun w' _ => ?_⟩) (fun hcl => ?_)
      rotate_left
      · go_simp
        with_reducible rfl
      simp only [List.getElem_toArray, List.getElem_cons_zero, List.getElem_cons_succ, Act.put, List.setIfInBounds_toArray, List.set_cons_zero, List.set_cons_succ]
      refine wpAnyT_free (i := 11) hcl rfl (by kernel_rfl) (v := ?_) (fun _ _ _ h => h) hS (Or.inl ⟨rfl, fun w' _ => ?_⟩) (fun hcl => ?_)
      rotate_left
      · go_simp
        with_reducible rfl
      simp only [List.getElem_toArray, List.getElem_cons_zero, List.getElem_cons_succ, Act.put, List.setIfInBounds_toArray, List.set_cons_zero, List.set_cons_succ]
      refine wpAnyT_last (i := 12) hcl rfl (by kernel_rfl) (by kernel_rfl) (fun hcl => ?_)
      simp only [List.getElem_toArray, List.getElem_cons_zero, List.getElem_cons_succ, Act.put, List.setIfInBounds_toArray, List.set_cons_zero, List.set_cons_succ]
      have cc := (H.out.1.next hS).cell k hlt
      have cf := (H.out.1.next hS).frozen
      go_wp2_with fail
      refine wpAnyT_done (by kernel_rfl) ?_ _
      go_wp2_with fail
      go_roundw
      case rel =>
        have hdr : ∀ W : World, Below W.heap.size W W.drew := fun W => (Below.refl _ _).drew
        refine ⟨k + 1, by go_num, by omega, ((H.out.1.set k (f k ||| h k) hlt).congr fun j hj => ?_).next (hdr _), (H.out.2.setCell (by simp) _).drew⟩
        by_cases h : j = k
        · subst h; simp
        · rw [if_neg h]
          by_cases h2 : j < k
          · rw [if_pos h2, if_pos (by omega)]
          · rw [if_neg h2, if_neg (by omega)]
      case measure => simp [intOf]; omega
    · have g1 : decide ((k : Int) < (n : Int)) = false := decide_eq_false (by omega)
      have H := hide (And.intro hrow hbel)
      clear hrow hbel
      go_wp2_with fail
      go_ret
      exact ⟨_, rfl, H.out.1.congr fun j hj => by rw [if_pos (by omega)], Nat.le_refl _, H.out.2⟩
end Go.Proofs.YtbbhobojghmkpaaDoor
