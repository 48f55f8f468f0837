/- The scene: a subject with the marks of its places. -/
import Derived.Test.YthkddbfgihgfaaaDoorProg
import Derived.Test.YthkddbfgihgfaaaDoorPlaces
import Derived.Test.YthkddbfgihgfaaaDoorMem
import Derived.Outline
set_option linter.unusedSimpArgs false
set_option linter.unusedVariables false
namespace Go.Proofs.YthkddbfgihgfaaaDoor
open Go.RowKit

/-- The scene x lies in block b, its marks in block m. -/
structure Scn (w : World) (b m : Nat) (x : Sc) : Prop where
  box : Blk w b 103 #[.string x.text, .slice (some ⟨m, 0, none⟩) (x.len + 1) (x.len + 1)]
  row : Blk w m 5 (x.marks.map fun n : Nat => Value.int .u8 (n : Int)).toArray
  count : x.marks.length = x.len + 1
  small : ∀ i, x.mark i < 4
  fits : x.len ≤ 9223372036854775000

section
variable {w w' : World} {b m : Nat} {x : Sc}
theorem Scn.same {ok : Nat → Prop} (h : Scn w b m x) (hs : Same ok w w') (hb : ok b) (hm : ok m) : Scn w' b m x := ⟨h.box.same hs hb, h.row.same hs hm, h.count, h.small, h.fits⟩
theorem Scn.below (h : Scn w b m x) (hb : Below w.heap.size w w') : Scn w' b m x := h.same (same_of_below hb) h.box.lt h.row.lt
theorem Scn.text (h : Scn w b m x) : w.cell? ⟨b, 0, none⟩ = some (.string x.text) := h.box.cell 0
theorem Scn.list (h : Scn w b m x) : w.cell? ⟨b, 1, none⟩ = some (.slice (some ⟨m, 0, none⟩) (x.len + 1) (x.len + 1)) := h.box.cell 1
theorem Scn.at_ (h : Scn w b m x) (i : Nat) (hi : i ≤ x.len) : w.cell? ⟨m, i, none⟩ = some (.int .u8 (x.mark i)) := by
  rw [h.row.cell]
  have hc := h.count
  have hl : i < x.marks.length := by omega
  simp [Sc.mark, hl]
end

theorem slen_any {w : World} {b m : Nat} {x : Sc} (h : Scn w b m x) : Calls Tryd.prog 85 #[.pointer (some ⟨b, 0, none⟩)] w fun e w' => e = .returned (.int .i64 x.len) ∧ w = w' := by
  have h1 := h.text
  have h2 := h.fits
  unfold Sc.len at *
  go_enter Tryd.func85, Tryd.ntmps85
  go_wp2_with fail
  go_ret
  exact ⟨rfl, rfl⟩

theorem byte_in {w : World} {b m : Nat} {x : Sc} (h : Scn w b m x) (i : Nat) (hi : i < x.len) : Calls Tryd.prog 54 #[.pointer (some ⟨b, 0, none⟩), .int .i64 i] w fun e w' =>
    e = .returned (.tuple #[.int .u8 (x.text.data.toList.getD i 0).toNat, .bool true]) ∧ w = w' := by
  have h1 := h.text
  have h2 := h.fits
  have e : x.text.data.toList.getD i 0 = x.text[i]'hi := by
    have : i < x.text.data.toList.length := by simpa [Sc.len] using hi
    rw [List.getD_eq_getElem?_getD, List.getElem?_eq_getElem this]
    rfl
  rw [e]
  clear e
  unfold Sc.len at *
  go_enter Tryd.func54, Tryd.ntmps54
  go_wp2_with fail
  go_ret2
  exact ⟨rfl, rfl⟩

theorem byte_out {w : World} {b m : Nat} {x : Sc} (h : Scn w b m x) (i : Int) (hi : i < 0 ∨ (x.len : Int) ≤ i) (h64 : IsI64 i) : Calls Tryd.prog 54 #[.pointer (some ⟨b, 0, none⟩), .int .i64 i] w fun e w' =>
    e = .returned (.tuple #[.int .u8 0, .bool false]) ∧ w = w' := by
  have h1 := h.text
  have h2 := h.fits
  unfold Sc.len at *
  by_cases hn : i < 0
  · go_enter Tryd.func54, Tryd.ntmps54
    go_wp2_with fail
    go_ret2
    exact ⟨rfl, rfl⟩
  · have hp : ¬ i < (x.text.size : Int) := by omega
    go_enter Tryd.func54, Tryd.ntmps54
    go_wp2_with fail
    go_ret2
    exact ⟨rfl, rfl⟩

theorem marks_in {w : World} {b m : Nat} {x : Sc} (h : Scn w b m x) (i : Nat) (hi : i ≤ x.len) : Calls Tryd.prog 53 #[.pointer (some ⟨b, 0, none⟩), .int .i64 i] w fun e w' =>
    e = .returned (.int .i64 (x.mark i)) ∧ w = w' := by
  have h1 := h.list
  have h2 := h.fits
  have h3 := h.at_ i hi
  have h4 := h.small i
  unfold Sc.len at *
  go_enter Tryd.func53, Tryd.ntmps53
  go_wp2_with fail
  go_ret
  exact ⟨rfl, rfl⟩
end Go.Proofs.YthkddbfgihgfaaaDoor
