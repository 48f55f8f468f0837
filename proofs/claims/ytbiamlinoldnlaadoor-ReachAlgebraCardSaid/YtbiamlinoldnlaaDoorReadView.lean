/- What a reading says of a View (a subject with its flags) and of an integer. -/
import Derived.Test.YtbiamlinoldnlaaDoorRead
import Derived.SizedLaws
import Derived.ChangeShapes
set_option linter.unusedSimpArgs false
set_option linter.unusedVariables false
namespace Go.Proofs.YtbiamlinoldnlaaDoor
open Go.ChangeShapes

theorem Tryd.cellsView : Tryd.prog.cellsOf 44 = 3 := by kernel_rfl
theorem Tryd.cellsString : Tryd.prog.cellsOf 9 = 1 := by kernel_rfl

theorem three {α : Type} {l : List α} (h : l.length = 3) : ∃ a b c, l = [a, b, c] := by
  match l, h with
  | [a, b, c], _ => exact ⟨a, b, c, rfl⟩

section
variable {H : Type} {enc : TypeId × Value → H} {w : World} {base : Nat} {spare : Nat → Bool} {held : Bool}

theorem trod_view (fuel : Nat) (cs : List Value) (x : DataW H × List MemPlace) (h : DataW.trod enc Tryd.prog w base spare held fuel 44 cs = some x) :
    ∃ (s : ByteArray) (cf ef : Int), cs = [.string s, .int .i64 cf, .int .i64 ef] ∧ x.1 = .agg [.lit (.string s.data.toList), .lit (.int .i64 cf), .lit (.int .i64 ef)] ∧ IsI64 cf ∧ IsI64 ef := by
  obtain ⟨xs, m, rfl, hx, hlen, hl, hel⟩ := DataW.trod_struct Tryd.underlying44 h
  rw [Tryd.cellsView] at hlen
  obtain ⟨v0, v1, v2, rfl⟩ := three hlen
  have hl' : xs.length = 3 := hl
  obtain ⟨x0, x1, x2, rfl⟩ := three hl'
  have f0 := hel 0 _ rfl
  have f1 := hel 1 _ rfl
  have f2 := hel 2 _ rfl
  simp only [List.getElem?_cons_zero, List.getElem?_cons_succ, List.getElem_toArray, List.getElem_cons_zero, List.getElem_cons_succ, Tryd.cellsString, Tryd.cellsInt, List.drop_zero, List.drop_succ_cons, List.take_succ_cons, List.take_zero] at f0 f1 f2
  obtain ⟨s, e0, g0, _⟩ := DataW.trod_string Tryd.underlying9 f0
  obtain ⟨cf, e1, g1, w1⟩ := DataW.trod_int Tryd.underlying3 f1
  obtain ⟨ef, e2, g2, w2⟩ := DataW.trod_int Tryd.underlying3 f2
  simp only [List.cons.injEq, and_true] at e0 e1 e2
  subst e0 e1 e2 g0 g1 g2
  exact ⟨s, cf, ef, rfl, by rw [hx]; rfl, bounds_i64 w1, bounds_i64 w2⟩

theorem view_weight {d : DataW H} {s : List UInt8} {cf ef : Int} (h : d = .agg [.lit (.string s), .lit (.int .i64 cf), .lit (.int .i64 ef)]) : s.length ∈ d.weights Tryd.prog 44 := by
  subst h
  simp [DataW.weights, DataW.weightsEach, Tryd.underlying44]
end
end Go.Proofs.YtbiamlinoldnlaaDoor
