/- Rows of chunks of ten cells: taken apart, written, turned about. Plain lists. -/
import Derived.Test.YtbiamlinoldnlaaDoorOnly
set_option linter.unusedSimpArgs false
set_option linter.unusedVariables false
namespace Go.Proofs.YtbiamlinoldnlaaDoor

def Tens (X : List (List Value)) : Prop := ∀ c ∈ X, c.length = 10

theorem Tens.length {X : List (List Value)} (h : Tens X) : X.flatten.length = 10 * X.length := by
  induction X with
  | nil => rfl
  | cons c X ih =>
    have h1 := h c (by simp)
    have h2 := ih (fun d hd => h d (by simp [hd]))
    simp [h1, h2]
    omega

theorem Tens.at_ {X : List (List Value)} (h : Tens X) {p : Nat} {c : List Value} (hp : X[p]? = some c) (tail : List Value) :
    (X.flatten ++ tail).take (p * 10) = (X.take p).flatten ∧ (X.flatten ++ tail).drop (p * 10) = c ++ ((X.drop (p + 1)).flatten ++ tail) := by
  have hlt : p < X.length := (List.getElem?_eq_some_iff.1 hp).1
  have hsplit : X = X.take p ++ (c :: X.drop (p + 1)) := by
    have h1 : X.drop p = X[p] :: X.drop (p + 1) := List.drop_eq_getElem_cons hlt
    have h2 : X[p] = c := (List.getElem?_eq_some_iff.1 hp).2
    rw [h2] at h1
    rw [← h1, List.take_append_drop]
  have hl : ((X.take p).flatten).length = p * 10 := by
    have h1 : Tens (X.take p) := fun d hd => h d (List.mem_of_mem_take hd)
    rw [h1.length, List.length_take]
    omega
  have e : X.flatten ++ tail = (X.take p).flatten ++ (c ++ ((X.drop (p + 1)).flatten ++ tail)) := by
    conv => lhs; rw [hsplit]
    simp
  exact ⟨by rw [e, List.take_left' hl], by rw [e, List.drop_left' hl]⟩

theorem Tens.set {X : List (List Value)} (h : Tens X) {p : Nat} {c d : List Value} (hp : X[p]? = some c) (hd : d.length = 10) (tail : List Value) :
    splice (X.flatten ++ tail) (p * 10) d = (X.set p d).flatten ++ tail := by
  have hlt : p < X.length := (List.getElem?_eq_some_iff.1 hp).1
  obtain ⟨h1, h2⟩ := h.at_ hp tail
  have hc : c.length = 10 := h c (List.mem_of_getElem? hp)
  rw [splice, h1, hd, ← List.drop_drop, h2, List.drop_left' hc]
  rw [List.set_eq_take_append_cons_drop, if_pos hlt]
  simp

theorem Tens.set_tens {X : List (List Value)} (h : Tens X) (p : Nat) {d : List Value} (hd : d.length = 10) : Tens (X.set p d) := by
  intro c hc
  rcases List.mem_or_eq_of_mem_set hc with hc | rfl
  · exact h c hc
  · exact hd

theorem ten_of {c : List Value} (h : c.length = 10) : ∃ v0 v1 v2 v3 v4 v5 v6 v7 v8 v9, c = [v0, v1, v2, v3, v4, v5, v6, v7, v8, v9] := by
  match c, h with
  | [v0, v1, v2, v3, v4, v5, v6, v7, v8, v9], _ => exact ⟨v0, v1, v2, v3, v4, v5, v6, v7, v8, v9, rfl⟩

/-- What a list looks like when its first i and last i places have been exchanged. -/
def Turned (X Y : List (List Value)) (i : Nat) : Prop :=
  Y.length = X.length ∧ ∀ p, p < X.length → Y[p]? = if p < i ∨ X.length - 1 - i < p then X[X.length - 1 - p]? else X[p]?

theorem Turned.zero (X : List (List Value)) : Turned X X 0 := ⟨rfl, fun p hp => by rw [if_neg (by omega)]⟩

theorem Turned.step {X Y : List (List Value)} {i j : Nat} {c d : List Value} (h : Turned X Y i) (hj : j = X.length - 1 - i) (hij : i < j) (hc : Y[i]? = some c) (hd : Y[j]? = some d) :
    Turned X ((Y.set i d).set j c) (i + 1) := by
  refine ⟨by simpa using h.1, fun p hp => ?_⟩
  have hl := h.1
  have hi' := h.2 i (by omega)
  have hj' := h.2 j (by omega)
  rw [if_neg (by omega)] at hi' hj'
  rw [List.getElem?_set, List.getElem?_set]
  by_cases hpj : j = p
  · subst hpj
    rw [if_pos rfl, if_pos (by simp; omega), if_pos (by omega), show X.length - 1 - j = i from by omega, ← hi', hc]
  · rw [if_neg hpj]
    by_cases hpi : i = p
    · subst hpi
      rw [if_pos rfl, if_pos (by omega), if_pos (by omega), show X.length - 1 - i = j from by omega, ← hj', hd]
    · rw [if_neg hpi, h.2 p hp]
      by_cases h1 : p < i ∨ X.length - 1 - i < p
      · rw [if_pos h1, if_pos (by omega)]
      · rw [if_neg h1, if_neg (by omega)]

theorem Turned.done {X Y : List (List Value)} {i : Nat} (h : Turned X Y i) (hi : X.length ≤ 2 * i + 1) : Y = X.reverse := by
  apply List.ext_getElem?
  intro p
  by_cases hp : p < X.length
  · rw [h.2 p hp, List.getElem?_reverse hp]
    split
    · rfl
    · rw [show X.length - 1 - p = p from by omega]
  · rw [List.getElem?_eq_none (by rw [h.1]; omega), List.getElem?_eq_none (by simp; omega)]
end Go.Proofs.YtbiamlinoldnlaaDoor
