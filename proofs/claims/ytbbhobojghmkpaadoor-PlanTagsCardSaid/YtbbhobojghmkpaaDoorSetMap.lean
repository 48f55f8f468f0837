/- A map[int]int of the call's own, used as a set: which keys it holds. -/
import Derived.Test.YtbbhobojghmkpaaDoorInts
import Derived.Maps.OwnOps
import Derived.Maps.OwnSet
import Derived.WalkKit
set_option linter.unusedSimpArgs false
set_option linter.unusedVariables false
namespace Go.Proofs.YtbbhobojghmkpaaDoor
open Go.RowKit Go.Maps

theorem lawInt : Keyed Tryd.prog 3 := int_keyed Tryd.underlying3
theorem zeroInt (w : World) : (zeroValue 3).run Tryd.prog w = .ok (.int .i64 0) w := by kernel_rfl
theorem wfInt {n : Int} (h : -9223372036854775808 ≤ n ∧ n ≤ 9223372036854775807) : (Lit.int .i64 n).wf = true := WalkArith.wf_i64 h
theorem keyInt {n : Int} (h : -9223372036854775808 ≤ n ∧ n ≤ 9223372036854775807) : keyOf Tryd.prog 3 (.int .i64 n) = some (.int .i64 n) := keyOf_int_mk Tryd.underlying3 (wfInt h)

/-- Block b is a map that holds 1 at just the numbers of l. -/
def SetMap (w : World) (b n : Nat) (l : List Int) : Prop := ∃ D : DataW Unit, w.ownsMap Tryd.prog 3 (plainElem Tryd.prog 3) b n D ∧ ∀ z : Int, D.atKey (.int .i64 z) (.lit (.int .i64 0)) = .lit (.int .i64 (if z ∈ l then 1 else 0))

theorem SetMap.made (w : World) : SetMap (w.alloc (.map #[] 0)) w.heap.size 0 [] := ⟨_, World.ownsMap_made _ _ _ _, fun z => by simp [DataW.atKey]⟩
theorem SetMap.below {w w' : World} {b n : Nat} {l : List Int} (h : SetMap w b n l) (hb : Below w.heap.size w w') : SetMap w' b n l := by
  obtain ⟨D, h1, h2⟩ := h
  have hlt := h1.lt
  obtain ⟨es, clock, h3, F, hs, hD⟩ := h1
  exact ⟨D, ⟨es, clock, (hb.block b hlt).trans h3, F, hs, hD⟩, h2⟩
theorem SetMap.lt {w : World} {b n : Nat} {l : List Int} (h : SetMap w b n l) : b < w.heap.size := by
  obtain ⟨D, h1, h2⟩ := h
  exact h1.lt

theorem wpList_set_put {w : World} {ops : Array Oper} {rest : List Oper} {o : Oper} {a : Act} {Q : Exit → Act → World → Prop} (hg : o.guard = none) (m x v : Operand) (hop : o.op = Op.mapUpdate 114 m x v)
    (b n : Nat) (l : List Int) (z : Int) (hm : a.eval m = .map (some b)) (hx : a.eval x = .int .i64 z) (hv : a.eval v = .int .i64 1) (hs : SetMap w b n l) (hn : n < 1000000) (hz : -9223372036854775808 ≤ z ∧ z ≤ 9223372036854775807)
    (hK : ∀ w', SetMap w' b (n + 1) (l ++ [z]) → w.grownBy w' (some b) → wpList Tryd.prog ops Q rest (a.put o.dst undef) w') : wpList Tryd.prog ops Q (o :: rest) a w := by
  obtain ⟨D, h1, h2⟩ := hs
  refine wpList_mapUpdate_own _ hg m x v 114 hop 3 3 lawInt Tryd.underlying114 _ b n D hm h1 (by unfold maxLen; omega) _ _ _ hx hv (keyInt hz) _ [] (plainElem_int Tryd.underlying3 (wfInt (by omega))) fun w' h3 h4 => hK w' ⟨_, h3, fun y => ?_⟩ h4
  by_cases hy : y = z
  · subst hy
    rw [atKey_put_same (k := .int .i64 y) h1.isMap (show WideAt.IsKeyLit (.int .i64 y) from trivial)]
    simp
  · rw [atKey_put_other (by intro e; injection e with _ e; exact hy e), h2]
    simp [hy]

theorem wpList_set_get {w : World} {ops : Array Oper} {rest : List Oper} {o : Oper} {a : Act} {Q : Exit → Act → World → Prop} (hg : o.guard = none) (m x : Operand) (hop : o.op = Op.lookup 114 m x false)
    (b n : Nat) (l : List Int) (z : Int) (hm : a.eval m = .map (some b)) (hx : a.eval x = .int .i64 z) (hs : SetMap w b n l) (hz : -9223372036854775808 ≤ z ∧ z ≤ 9223372036854775807) (hin : z ∈ l)
    (hK : wpList Tryd.prog ops Q rest (a.put o.dst (.int .i64 1)) w) : wpList Tryd.prog ops Q (o :: rest) a w := by
  obtain ⟨D, h1, h2⟩ := hs
  refine wpList_lookup_own_int _ hg m x 114 hop 3 3 .i64 lawInt Tryd.underlying114 Tryd.underlying3 (zeroInt _) b n D hm h1 _ _ hx (keyInt hz) fun c h3 h4 => ?_
  have := (h2 z).symm.trans h3
  rw [if_pos hin] at this
  injection this with this
  injection this with _ this
  rw [← this]
  exact hK
end Go.Proofs.YtbbhobojghmkpaaDoor
