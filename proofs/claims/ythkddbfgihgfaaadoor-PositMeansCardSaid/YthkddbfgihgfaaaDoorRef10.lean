/- trawlref10.Scene (bit, begin, end, in, Begin, End, Byte) at the places of a subject that is not turned; trawlref01.Has. -/
import Derived.Test.YthkddbfgihgfaaaDoorSceneNew
import Derived.Test.YthkddbfgihgfaaaDoorHas
set_option linter.unusedSimpArgs false
set_option linter.unusedVariables false
namespace Go.Proofs.YthkddbfgihgfaaaDoor
open Go.RowKit

theorem nat10 (n : Nat) : ((n : Int) == 10) = (n == 10) := by rw [Bool.eq_iff_iff]; simp; omega
def beginB (s : ByteArray) (nb nl : Bool) (i : Nat) : Bool := if i = 0 then nb else nl && (byteAt s (i - 1) == 10)
def endB (s : ByteArray) (ne nl : Bool) (i : Nat) : Bool := if i = s.size then ne else nl && (byteAt s i == 10)

theorem byteAt_lt (s : ByteArray) (i : Nat) : byteAt s i < 256 := UInt8.toNat_lt _
theorem byteAt_get (s : ByteArray) (i : Nat) (h : i < s.size) : byteAt s i = s[i].toNat := by
  have : i < s.data.toList.length := by simpa using h
  simp only [byteAt, List.getD_eq_getElem?_getD, List.getElem?_eq_getElem this]
  rfl

theorem markOf_begin (s : ByteArray) (nb ne nl : Bool) (i : Nat) (hi : i ≤ s.size) : (markOf s nb ne nl s.size i).testBit 0 = beginB s nb nl i := by
  unfold markOf beginB
  by_cases h0 : i = 0
  · subst h0
    have e1 : ((0 = 0 ∧ nb = true) ∨ (0 < 0 ∧ 0 ≤ s.size ∧ nl = true ∧ byteAt s (0 - 1) = 10)) ↔ nb = true := by simp
    simp only [e1, if_true]
    cases nb <;> simp <;> split <;> rfl
  · have e1 : ((i = 0 ∧ nb = true) ∨ (0 < i ∧ i ≤ s.size ∧ nl = true ∧ byteAt s (i - 1) = 10)) ↔ (nl && (byteAt s (i - 1) == 10)) = true := by
      simp only [h0, false_and, false_or, Bool.and_eq_true, beq_iff_eq]
      exact ⟨fun h => ⟨h.2.2.1, h.2.2.2⟩, fun h => ⟨by omega, hi, h.1, h.2⟩⟩
    simp only [e1, if_neg h0]
    cases (nl && (byteAt s (i - 1) == 10)) <;> simp <;> split <;> rfl
theorem markOf_end (s : ByteArray) (nb ne nl : Bool) (i : Nat) (hi : i ≤ s.size) : (markOf s nb ne nl s.size i).testBit 1 = endB s ne nl i := by
  unfold markOf endB
  by_cases h0 : i = s.size
  · have e1 : ((i = s.size ∧ ne = true) ∨ (i < s.size ∧ nl = true ∧ byteAt s i = 10)) ↔ ne = true := by
      constructor
      · rintro (h | h)
        · exact h.2
        · omega
      · intro h; exact .inl ⟨h0, h⟩
    simp only [e1, if_pos h0]
    cases ne <;> simp <;> split <;> rfl
  · have e1 : ((i = s.size ∧ ne = true) ∨ (i < s.size ∧ nl = true ∧ byteAt s i = 10)) ↔ (nl && (byteAt s i == 10)) = true := by
      simp only [h0, false_and, false_or, Bool.and_eq_true, beq_iff_eq]
      exact ⟨fun h => ⟨h.2.1, h.2.2⟩, fun h => ⟨by omega, h.1, h.2⟩⟩
    simp only [e1, if_neg h0]
    cases (nl && (byteAt s i == 10)) <;> simp <;> split <;> rfl


/-- The scene x is that of this subject and these flags. -/
structure RefSc (x : Sc) (cf ef : Int) : Prop where
  marks : ∀ i, i ≤ x.text.size → x.mark i = markOf x.text (bits .and .i64 ef 1 == 0) (bits .and .i64 ef 2 == 0) (bits .and .i64 cf 4 != 0) x.text.size i
  small : x.text.size ≤ 140737488355328
end Go.Proofs.YthkddbfgihgfaaaDoor
