/- A turned bracket expression and the plain one of the same items: what both readings answer, in plain Lean; flags. -/
import Derived.Test.YtdkonfdhedcajaaDoorLives5
import Derived.Test.YtdkonfdhedcajaaDoorCheck
set_option linter.unusedSimpArgs false
set_option linter.unusedVariables false
namespace Go.Proofs.YtdkonfdhedcajaaDoor
open Go.RowKit

/-- One text is the other with one byte put in behind the first one. -/
structure Shift5 (p q : ByteArray) : Prop where
  size : q.size = p.size + 1
  tail : ∀ k, 1 ≤ k → q.data.toList.drop (k + 1) = p.data.toList.drop k
theorem pb_list (p : ByteArray) (i : Nat) : pb p i = match p.data.toList[i]? with | some b => b.toNat | none => 256 := by
  unfold pb
  by_cases h : i < p.size
  · rw [dif_pos h]
    have h2 : i < p.data.toList.length := by simpa using h
    rw [List.getElem?_eq_getElem h2]
    rfl
  · rw [dif_neg h]
    have h2 : p.data.toList.length ≤ i := by
      have : p.data.toList.length = p.size := by simp
      omega
    rw [List.getElem?_eq_none h2]
theorem Shift5.pb {p q : ByteArray} (h : Shift5 p q) {i : Nat} (hi : 1 ≤ i) : pb q (i + 1) = pb p i := by
  rw [pb_list, pb_list]
  have h1 := h.tail i hi
  have h2 : (q.data.toList.drop (i + 1))[0]? = (p.data.toList.drop i)[0]? := by rw [h1]
  rw [List.getElem?_drop, List.getElem?_drop] at h2
  simp only [Nat.add_zero] at h2
  rw [h2]
theorem Shift5.clo {p q : ByteArray} (h : Shift5 p q) {k : Nat} (hk : 1 ≤ k) : clo q (k + 1) = if clo p k < 0 then -1 else clo p k + 1 := by
  unfold Proofs.YtdkonfdhedcajaaDoor.clo
  rw [h.tail k hk]
  have hge := Lib.index_ge (p.data.toList.drop k) [58, 93]
  generalize Lib.index (p.data.toList.drop k) [58, 93] = n at *
  by_cases e : n = -1
  · rw [if_pos e, if_pos e, if_pos (by decide)]
  · rw [if_neg e, if_neg e, if_neg (by omega)]; omega
theorem Shift5.cut {p q : ByteArray} (h : Shift5 p q) {a b : Nat} (ha : 1 ≤ a) : q.extract (a + 1) (b + 1) = p.extract a b := by
  have h1 := h.tail a ha
  apply ByteArray.ext
  apply Array.toList_inj.1
  simp only [ByteArray.data_extract, Array.toList_extract]
  rw [List.extract_eq_take_drop, List.extract_eq_take_drop, h1]
  congr 1
  omega
/-- One reading is the other's, one byte further. -/
def Sh5 (N : Nat) : R5 → R5 → Prop
  | .good S n, .good T m => T = S ∧ m = n + 1 ∧ n ≤ N
  | .bad g y, .bad h z => h = g ∧ (z = y ∨ z = y + 1) ∧ 0 ≤ y ∧ y ≤ (N : Int)
  | _, _ => False
theorem named_sh {p q : ByteArray} (h : Shift5 p q) {i : Nat} (hi : 1 ≤ i) (hi2 : i < p.size) : Sh5 p.size (namedP p i 0) (namedP q (i + 1) 0) := by
  unfold namedP
  rw [show i + 1 + 2 = (i + 2) + 1 by omega, h.clo (by omega)]
  by_cases hc : clo p (i + 2) < 0
  · rw [if_pos hc, if_pos hc, if_pos (by decide)]
    exact ⟨rfl, .inl rfl, by omega, by omega⟩
  · rw [if_neg hc, if_neg hc, if_neg (show ¬ clo p (i + 2) + 1 < 0 by omega)]
    have e : (clo p (i + 2) + 1).toNat = (clo p (i + 2)).toNat + 1 := by omega
    rw [e, h.cut (by omega)]
    have hci := clo_in (p := p) (k := i + 2) (by omega)
    split
    · exact ⟨rfl, by omega, by omega⟩
    · exact ⟨rfl, .inr (by omega), by omega, by omega⟩
theorem item_sh {p q : ByteArray} (h : Shift5 p q) {i : Nat} (hi : 1 ≤ i) (hi2 : i < p.size) : Sh5 p.size (itemP p i 0) (itemP q (i + 1) 0) := by
  have hz := h.size
  unfold itemP
  rw [show i + 1 + 1 = (i + 1) + 1 by omega, show i + 1 + 2 = (i + 2) + 1 by omega, show i + 1 + 3 = (i + 3) + 1 by omega, h.pb hi, h.pb (show 1 ≤ i + 1 by omega), h.pb (show 1 ≤ i + 2 by omega), h.pb (show 1 ≤ i + 3 by omega)]
  split
  · exact ⟨rfl, .inr (by omega), by omega, by omega⟩
  · split
    · exact named_sh h hi hi2
    · by_cases hc : pb p (i + 1) = 45 ∧ i + 2 < p.size ∧ pb p (i + 2) ≠ 93
      · rw [if_pos hc, if_pos (show pb p (i + 1) = 45 ∧ i + 2 + 1 < q.size ∧ pb p (i + 2) ≠ 93 by omega)]
        split
        · exact ⟨rfl, .inr (by omega), by omega, by omega⟩
        · split
          · exact ⟨rfl, .inr (by omega), by omega, by omega⟩
          · exact ⟨rfl, by omega, by omega⟩
      · rw [if_neg hc, if_neg (show ¬ (pb p (i + 1) = 45 ∧ i + 2 + 1 < q.size ∧ pb p (i + 2) ≠ 93) by omega)]
        exact ⟨rfl, by omega, by omega⟩
theorem loop_sh {p q : ByteArray} (h : Shift5 p q) (f : Nat) : ∀ n n' i S, 1 ≤ i → p.size < i + n → q.size < i + 1 + n' → Sh5 p.size (loopP p 0 f n i S) (loopP q 0 (f + 1) n' (i + 1) S)
  | 0, 0, i, S, hi, h1, h2 => ⟨rfl, .inl rfl, by omega, by omega⟩
  | 0, n' + 1, i, S, hi, h1, h2 => by
    have hz := h.size
    rw [loopP, loopP, if_pos (by omega)]
    exact ⟨rfl, .inl rfl, by omega, by omega⟩
  | n + 1, 0, i, S, hi, h1, h2 => by
    have hz := h.size
    rw [loopP, loopP, if_pos (by omega)]
    exact ⟨rfl, .inl rfl, by omega, by omega⟩
  | n + 1, n' + 1, i, S, hi, h1, h2 => by
    have hz := h.size
    rw [loopP, loopP]
    by_cases hc : p.size ≤ i
    · rw [if_pos hc, if_pos (show q.size ≤ i + 1 by omega)]
      exact ⟨rfl, .inl rfl, by omega, by omega⟩
    · rw [if_neg hc, if_neg (show ¬ q.size ≤ i + 1 by omega), h.pb hi]
      by_cases hd : pb p i = 93 ∧ f < i
      · rw [if_pos hd, if_pos (show pb p i = 93 ∧ f + 1 < i + 1 by omega)]
        exact ⟨rfl, rfl, by omega⟩
      · rw [if_neg hd, if_neg (show ¬ (pb p i = 93 ∧ f + 1 < i + 1) by omega)]
        have hs := item_sh h hi (by omega)
        have hx := fun S n => itemP_next (p := p) (i := i) (pl := 0) (by omega) (S := S) (n := n)
        simp only [Int.natCast_zero] at *
        generalize itemP p i 0 = r at *
        generalize itemP q (i + 1) 0 = r' at *
        cases r with
        | bad g y =>
          cases r' with
          | bad g' y' => exact hs
          | good T m => exact hs.elim
        | good T j =>
          cases r' with
          | bad g' y' => exact hs.elim
          | good T' j' =>
            obtain ⟨rfl, rfl, _⟩ := hs
            have := hx T' j rfl
            exact loop_sh h f n n' j _ (by omega) (by omega) (by omega)
/-- The two readings of the same items, plain and turned. -/
theorem read_sh {p q : ByteArray} (h : Shift5 p q) (h1 : pb p 1 ≠ 94) (h2 : pb q 1 = 94) : ∃ L L' : R5, Sh5 p.size L L' ∧ (∀ ic nl, readP p 0 ic nl = outP false ic nl L) ∧ (∀ ic nl, readP q 0 ic nl = outP true ic nl L') := by
  refine ⟨loopP p 0 1 (p.size + 1) 1 (fun _ => false), loopP q 0 2 (q.size + 1) 2 (fun _ => false), loop_sh h 1 _ _ 1 _ (by omega) (by omega) (by omega), fun ic nl => ?_, fun ic nl => ?_⟩
  · unfold readP
    rw [show 0 + 1 = 1 from rfl, if_neg h1, decide_eq_false h1]
  · unfold readP
    rw [show 0 + 1 = 1 from rfl, if_pos h2, decide_eq_true h2]
theorem shift_of (items : ByteArray) : Shift5 ⟨#[91] ++ items.data ++ #[93]⟩ ⟨#[91, 94] ++ items.data ++ #[93]⟩ := by
  refine ⟨?_, fun k hk => ?_⟩
  · show (#[91, 94] ++ items.data ++ #[93]).size = (#[91] ++ items.data ++ #[93]).size + 1
    simp
    omega
  · obtain ⟨k, rfl⟩ : ∃ j, k = j + 1 := ⟨k - 1, by omega⟩
    simp
theorem ofInt_wrap5 (v : BitVec 64) : BitVec.ofInt 64 (IntKind.i64.wrap (v.toNat : Int)) = v := by
  apply BitVec.eq_of_toNat_eq
  rw [BitVec.toNat_ofInt]
  have := v.isLt
  simp [IntKind.wrap, IntKind.bits, IntKind.signed]
  omega
theorem band5 (x y : Int) : bits .and .i64 x y = IntKind.i64.wrap ((BitVec.ofInt 64 x &&& BitVec.ofInt 64 y).toNat : Int) := rfl
theorem bor5 (x y : Int) : bits .or .i64 x y = IntKind.i64.wrap ((BitVec.ofInt 64 x ||| BitVec.ofInt 64 y).toNat : Int) := rfl
theorem bnot5 (x y : Int) : bits .andNot .i64 x y = IntKind.i64.wrap ((BitVec.ofInt 64 x &&& ~~~ BitVec.ofInt 64 y).toNat : Int) := rfl
theorem wrap_zero5 (v : BitVec 64) : decide (IntKind.i64.wrap (v.toNat : Int) = 0) = decide (v = 0#64) := by
  have h := ofInt_wrap5 v
  by_cases e : v = 0#64
  · subst e; rfl
  · rw [decide_eq_false e, decide_eq_false]
    intro h2
    rw [h2] at h
    exact e h.symm
theorem fm1 (x : BitVec 64) : x &&& 2#64 &&& 2#64 = x &&& 2#64 := by rw [BitVec.and_assoc]; rfl
theorem fm2 (x : BitVec 64) : x &&& 2#64 &&& 4#64 = 0#64 := by rw [BitVec.and_assoc]; simp
theorem fm3a : ∀ i : Fin 64, ((4#64)[i.val] && (2#64)[i.val]) = false := by decide
theorem fm3 (x : BitVec 64) : (x ||| 4#64) &&& 2#64 = x &&& 2#64 := by
  ext i hi
  simp only [BitVec.getElem_and, BitVec.getElem_or]
  have : ((4#64)[i] && (2#64)[i]) = false := fm3a ⟨i, hi⟩
  cases h1 : x[i] <;> simp_all
theorem fm4 (x : BitVec 64) : ¬ (x ||| 4#64) &&& 4#64 = 0#64 := by
  intro h
  have h2 := congrArg (fun v : BitVec 64 => v[2]) h
  simp at h2
theorem fm5 (x : BitVec 64) : x &&& ~~~ 4#64 &&& 2#64 = x &&& 2#64 := by rw [BitVec.and_assoc]; rfl
theorem fm6 (x : BitVec 64) : x &&& ~~~ 4#64 &&& 4#64 = 0#64 := by rw [BitVec.and_assoc]; simp
theorem flagsT (fl : Int) : ∃ ic : Bool, (!decide (bits .and .i64 (bits .and .i64 fl 2) 2 = 0)) = ic ∧ (!decide (bits .and .i64 (bits .and .i64 fl 2) 4 = 0)) = false
    ∧ (!decide (bits .and .i64 (bits .or .i64 fl 4) 2 = 0)) = ic ∧ (!decide (bits .and .i64 (bits .or .i64 fl 4) 4 = 0)) = true
    ∧ (!decide (bits .and .i64 (bits .andNot .i64 fl 4) 2 = 0)) = ic ∧ (!decide (bits .and .i64 (bits .andNot .i64 fl 4) 4 = 0)) = false := by
  refine ⟨!decide (BitVec.ofInt 64 fl &&& 2#64 = 0#64), ?_, ?_, ?_, ?_, ?_, ?_⟩ <;> simp only [band5, bor5, bnot5, ofInt_wrap5, wrap_zero5] <;> simp only [show BitVec.ofInt 64 2 = 2#64 from rfl, show BitVec.ofInt 64 4 = 4#64 from rfl, fm1, fm2, fm3, fm5, fm6, fm4] <;> rfl
end Go.Proofs.YtdkonfdhedcajaaDoor
