/- A list of truths in memory; a map of integers of the call's own. -/
import Derived.Test.YtbbhobojghmkpaaDoorPo
import Derived.Test.YtbbhobojghmkpaaDoorSetMap
set_option linter.unusedSimpArgs false
set_option linter.unusedVariables false
namespace Go.Proofs.YtbbhobojghmkpaaDoor
open Go.RowKit Go.Maps

theorem Blk.ne_type {w : World} {g g' : Nat} {t t' : TypeId} {cs cs' : Array Value} (h : Blk w g t cs) (h' : Blk w g' t' cs') (ht : t ≠ t') : g ≠ g' := fun e => by
  subst e
  have h2 := h.symm.trans h'
  injection h2 with h2
  injection h2 with _ h2
  exact ht h2

/-- Block g holds n truths, p tells them. -/
def BoRow (w : World) (g n : Nat) (p : Nat → Bool) : Prop := ∃ row : Array Value, Blk w g 4 row ∧ row.size = n ∧ ∀ i, i < n → row[i]? = some (.bool (p i))
section
variable {w w' : World} {g n : Nat} {p : Nat → Bool}
theorem BoRow.cell (h : BoRow w g n p) (i : Nat) (hi : i < n) : w.cell? ⟨g, i, none⟩ = some (.bool (p i)) := by
  obtain ⟨row, h1, _, h3⟩ := h
  rw [h1.cell, h3 i hi]
theorem BoRow.frozen (h : BoRow w g n p) (i : Nat) : w.frozen? ⟨g, i, none⟩ = false := by
  obtain ⟨row, h1, _, _⟩ := h
  exact h1.frozen i
theorem BoRow.lt (h : BoRow w g n p) : g < w.heap.size := by obtain ⟨row, h1, _⟩ := h; exact h1.lt
theorem BoRow.same {ok : Nat → Prop} (h : BoRow w g n p) (hs : Same ok w w') (hm : ok g) : BoRow w' g n p := by
  obtain ⟨row, h1, h2⟩ := h
  exact ⟨row, h1.same hs hm, h2⟩
theorem BoRow.next (h : BoRow w g n p) (hb : Below w.heap.size w w') : BoRow w' g n p := h.same (same_of_below hb) h.lt
theorem BoRow.set (h : BoRow w g n p) (i : Nat) (v : Bool) (hi : i < n) : BoRow (w.setCell ⟨g, i, none⟩ (.bool v)) g n (fun j => if j = i then v else p j) := by
  obtain ⟨row, h1, h2, h3⟩ := h
  refine ⟨row.setIfInBounds i (.bool v), heap_setCell_same w g i row _ _ h1, by simp [h2], fun j hj => ?_⟩
  by_cases hij : i = j
  · subst hij; simp [show i < row.size by omega]
  · rw [Array.getElem?_setIfInBounds_ne hij, h3 j hj]
    simp [show ¬ j = i from fun e => hij e.symm]
theorem BoRow.far (h : BoRow w g n p) {a : Addr} (ha : g ≠ a.block) (u : Value) : BoRow (w.setCell a u) g n p := by
  obtain ⟨row, h1, h2⟩ := h
  exact ⟨row, h1.far ha u, h2⟩
theorem BoRow.congr {q : Nat → Bool} (h : BoRow w g n p) (e : ∀ i, i < n → p i = q i) : BoRow w g n q := by
  obtain ⟨row, h1, h2, h3⟩ := h
  exact ⟨row, h1, h2, fun i hi => by rw [h3 i hi, e i hi]⟩
theorem BoRow.new (w : World) (n : Nat) : BoRow (w.alloc (.cells (madeCells #[.bool false] n) 4)) w.heap.size n (fun _ => false) := by
  refine ⟨_, Blk.new w _ _, by simp [madeCells], fun i hi => ?_⟩
  simp [madeCells, hi, Nat.mod_one]
theorem BoRow.ne {t : TypeId} {g' : Nat} {cs : Array Value} (h : BoRow w g n p) (h' : Blk w g' t cs) (ht : 4 ≠ t) : g ≠ g' := by
  obtain ⟨row, h1, _⟩ := h
  exact h1.ne_type h' ht
end

theorem Tryd.infoBo : (Tryd.prog.info? 4).map (fun i => (i.zero, i.size, i.bytes)) = some (some (.bool false), 1, 1) := by kernel_rfl
/-- A new list of n truths. -/
theorem run_bo {ts : TypeId} (hts : Tryd.prog.underlying ts = some (.slice 4)) (n : Nat) (hn : n ≤ 140737488355328) (W : World) : (Instr.makeSlice ts (.int .i64 (n : Int)) (.int .i64 (n : Int))).run Tryd.prog W = .ok (.slice (some ⟨W.heap.size, 0, none⟩) n n) (W.alloc (.cells (madeCells #[.bool false] n) 4)) := by
  obtain ⟨i0, hi, hz0, hz1, hz2⟩ := info_parts Tryd.infoBo
  have hmk := run_make_rowN (P := Tryd.prog) ts 4 i0 _ hts hi hz0 .i64 .i64 n n (Nat.le_refl _) (by rw [hz2]; omega) (by omega) W
  rw [hz1] at hmk
  simp only [Nat.mul_one] at hmk
  exact hmk

/-- Block b is a map of integers, f tells what it holds (0: nothing). -/
def IntMap (w : World) (b n : Nat) (f : Int → Int) : Prop := ∃ D : DataW Unit, w.ownsMap Tryd.prog 3 (plainElem Tryd.prog 3) b n D ∧ ∀ z : Int, D.atKey (.int .i64 z) (.lit (.int .i64 0)) = .lit (.int .i64 (f z))
theorem IntMap.made (w : World) : IntMap (w.alloc (.map #[] 0)) w.heap.size 0 (fun _ => 0) := ⟨_, World.ownsMap_made _ _ _ _, fun z => by simp [DataW.atKey]⟩
theorem IntMap.lt {w : World} {b n : Nat} {f : Int → Int} (h : IntMap w b n f) : b < w.heap.size := by
  obtain ⟨D, h1, h2⟩ := h
  exact h1.lt
theorem IntMap.next {w w' : World} {b n : Nat} {f : Int → Int} (h : IntMap w b n f) (hb : Below w.heap.size w w') : IntMap w' b n f := by
  obtain ⟨D, h1, h2⟩ := h
  have hlt := h1.lt
  obtain ⟨es, clock, h3, F, hs, hD⟩ := h1
  exact ⟨D, ⟨es, clock, (hb.block b hlt).trans h3, F, hs, hD⟩, h2⟩

theorem wpList_map_put {w : World} {ops : Array Oper} {rest : List Oper} {o : Oper} {a : Act} {Q : Exit → Act → World → Prop} (hg : o.guard = none) (m x v : Operand) (hop : o.op = Op.mapUpdate 114 m x v)
    (b n : Nat) (f : Int → Int) (z u : Int) (hm : a.eval m = .map (some b)) (hx : a.eval x = .int .i64 z) (hv : a.eval v = .int .i64 u) (hs : IntMap w b n f) (hn : n < 1000000) (hz : -9223372036854775808 ≤ z ∧ z ≤ 9223372036854775807) (hu : -9223372036854775808 ≤ u ∧ u ≤ 9223372036854775807)
    (hK : ∀ w', IntMap w' b (n + 1) (fun y => if y = z then u else f y) → w.grownBy w' (some b) → wpList Tryd.prog ops Q rest (a.put o.dst undef) w') : wpList Tryd.prog ops Q (o :: rest) a w := by
  obtain ⟨D, h1, h2⟩ := hs
  refine wpList_mapUpdate_own _ hg m x v 114 hop 3 3 lawInt Tryd.underlying114 _ b n D hm h1 (by unfold maxLen; omega) _ _ _ hx hv (keyInt hz) _ [] (plainElem_int Tryd.underlying3 (wfInt hu)) fun w' h3 h4 => hK w' ⟨_, h3, fun y => ?_⟩ h4
  by_cases hy : y = z
  · subst hy
    rw [atKey_put_same (k := .int .i64 y) h1.isMap (show WideAt.IsKeyLit (.int .i64 y) from trivial)]
    simp
  · rw [atKey_put_other (by intro e; injection e with _ e; exact hy e), h2]
    simp [hy]

theorem wpList_map_get {w : World} {ops : Array Oper} {rest : List Oper} {o : Oper} {a : Act} {Q : Exit → Act → World → Prop} (hg : o.guard = none) (m x : Operand) (hop : o.op = Op.lookup 114 m x false)
    (b n : Nat) (f : Int → Int) (z : Int) (hm : a.eval m = .map (some b)) (hx : a.eval x = .int .i64 z) (hs : IntMap w b n f) (hz : -9223372036854775808 ≤ z ∧ z ≤ 9223372036854775807)
    (hK : wpList Tryd.prog ops Q rest (a.put o.dst (.int .i64 (f z))) w) : wpList Tryd.prog ops Q (o :: rest) a w := by
  obtain ⟨D, h1, h2⟩ := hs
  refine wpList_lookup_own_int _ hg m x 114 hop 3 3 .i64 lawInt Tryd.underlying114 Tryd.underlying3 (zeroInt _) b n D hm h1 _ _ hx (keyInt hz) fun c h3 h4 => ?_
  have := (h2 z).symm.trans h3
  injection this with this
  injection this with _ this
  rw [← this]
  exact hK

/-- To a list of integers one more: the list's block stays, or is a new one. -/
theorem wpList_push_int {w : World} {ops : Array Oper} {rest : List Oper} {o : Oper} {a : Act} {Q : Exit → Act → World → Prop} (hgd : o.guard = none) (s x : Operand) (ho : o.op = .call { callee := .builtin .append, args := #[s, x], argTypes := #[55, 55] })
    (base : Nat) (v : Value) (l : List Int) (hs : a.eval s = v) (hg : OwnInts base w v l) (n : Int) (g cap : Nat)
    (hx : a.eval x = .slice (some ⟨g, 0, none⟩) 1 cap) (hb : Blk w g 3 #[.int .i64 n]) (hl : l.length < 1000000) (hbase : base ≤ w.heap.size)
    (h : ∀ v' w', OwnInts base w' v' (l ++ [n]) → w.grownBy w' v.ownBlock → (v'.ownBlock = v.ownBlock ∨ v'.ownBlock = some w.heap.size) → wpList Tryd.prog ops Q rest (a.put o.dst v') w') : wpList Tryd.prog ops Q (o :: rest) a w := by
  obtain ⟨i, hi, hz0, hz1, hz2⟩ := info_parts Tryd.infoInt
  refine wpList_append_own_at w hgd s x 55 ho base 3 i _ 1 8 Tryd.underlying55 hi hz0 hz1 hz2 rfl (by decide) v l.length _ hs hg ⟨g, 0, none⟩ 1 cap [.int .i64 n] hx rfl ?_ (by simp [Value.oneCell']) (by simp only [maxLen]; omega) (by omega) hbase ?_
  · intro j u hu
    rw [Addr.add_lit, Nat.zero_add, hb.cell]
    simpa using hu
  intro v' w' hown hgr _ h4
  refine h v' w' ?_ hgr h4
  simpa [OwnInts] using hown
theorem OwnInts.ne_type {base : Nat} {w : World} {v : Value} {l : List Int} (h : OwnInts base w v l) {g : Nat} {t : TypeId} {cs : Array Value} (hb : Blk w g t cs) (ht : t ≠ 3) : ∀ k, v.ownBlock = some k → k ≠ g := fun k hk e => by
  subst e
  rcases h.2 with ⟨e1, _⟩ | ⟨g2, cap, cur, e1, _, hg, _⟩
  · rw [e1] at hk; cases hk
  · rw [e1] at hk
    obtain rfl : g2 = k := by simpa [Value.ownBlock] using hk
    exact Blk.ne_type hb (show Blk w g2 3 cur from hg) ht rfl
end Go.Proofs.YtbbhobojghmkpaaDoor
