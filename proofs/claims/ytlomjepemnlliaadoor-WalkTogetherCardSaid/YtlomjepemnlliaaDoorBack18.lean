/- The walk back from the end, in plain Lean: where pieces begin; the least end of all. -/
import Derived.Test.YtlomjepemnlliaaDoorWalk18
set_option linter.unusedSimpArgs false
set_option linter.unusedVariables false
namespace Go.Proofs.YtlomjepemnlliaaDoor
open Go.RowKit

/-- Does a position whose byte ends at marks m lead on to an end? G: the positions that do, ahead of their byte. -/
def behindB (p : Po) (m : Nat) (G : Nat → Bool) (q : Nat) : Bool := (p.last.any fun e => e.1 == (q : Int) && e.2.toNat.testBit m) || ((p.follow.getD q []).any fun e => G e.1.toNat && e.2.toNat.testBit m)
/-- Does a piece begin at marks m? -/
def startB (p : Po) (m : Nat) (G : Nat → Bool) : Bool := p.null.toNat.testBit m || p.first.any fun e => G e.1.toNat && e.2.toNat.testBit m
/-- The positions that lead on to an end, ahead of their byte, d places ahead of the end. -/
def goodB (p : Po) (x : Sc) : Nat → Nat → Bool
  | 0 => fun _ => false
  | d + 1 => fun q => behindB p (x.mark (x.len - d)) (goodB p x d) q && setHas p q (byteB x (x.len - d - 1))
def startAt (p : Po) (x : Sc) (i : Nat) : Bool := startB p (x.mark i) (goodB p x (x.len - i))
/-- The places from a on at which a piece begins. -/
def startList (p : Po) (x : Sc) (a : Nat) : List Int := ((List.range (x.len + 1 - a)).filter fun d => startAt p x (a + d)).map fun d => ((a + d : Nat) : Int)

def runB (p : Po) (x : Sc) (i : Nat) (F : Nat → Bool) : Nat → Nat → Bool
  | 0 => F
  | j + 1 => stepB p (x.mark (i + j)) (byteB x (i + j)) false (runB p x i F j)
theorem runB_front (p : Po) (x : Sc) (a : Nat) : ∀ j, frontB p x a st0 (j + 1) = runB p x (a + 1) (stepB p (x.mark a) (byteB x a) true fun _ => false) j
  | 0 => by simp [frontB, runB, st0]
  | j + 1 => by
    rw [frontB, runB_front p x a j, runB, show a + 1 + j = a + (j + 1) by omega]
    rfl
theorem runB_first (p : Po) (x : Sc) (i : Nat) (F : Nat → Bool) : ∀ j, runB p x i F (j + 1) = runB p x (i + 1) (stepB p (x.mark i) (byteB x i) false F) j
  | 0 => by simp [runB]
  | j + 1 => by
    rw [runB, runB_first p x i F j, runB, show i + 1 + j = i + (j + 1) by omega]
theorem leads_iff {p : Po} {m b : Nat} {l : List Ed} {q : Nat} : leads p m b l q = true ↔ ∃ e ∈ l, e.1 = (q : Int) ∧ e.2.toNat.testBit m = true ∧ setHas p q b = true := by
  unfold leads
  rw [List.any_eq_true]
  constructor
  · rintro ⟨e, h1, h2⟩
    simp only [Bool.and_eq_true, beq_iff_eq] at h2
    exact ⟨e, h1, h2⟩
  · rintro ⟨e, h1, h2⟩
    exact ⟨e, h1, by simp only [Bool.and_eq_true, beq_iff_eq]; exact h2⟩
theorem stepB_iff {p : Po} {m b : Nat} {s : Bool} {F : Nat → Bool} {q : Nat} : stepB p m b s F q = true ↔ (s = true ∧ leads p m b p.first q = true) ∨ ∃ k, k < p.sets.length ∧ F k = true ∧ leads p m b (p.follow.getD k []) q = true := by
  unfold stepB
  rw [Bool.or_eq_true, Bool.and_eq_true, List.any_eq_true]
  constructor
  · rintro (h | ⟨k, h1, h2⟩)
    · exact .inl h
    · rw [Bool.and_eq_true] at h2
      exact .inr ⟨k, List.mem_range.1 h1, h2⟩
  · rintro (h | ⟨k, h1, h2⟩)
    · exact .inl h
    · exact .inr ⟨k, List.mem_range.2 h1, by rw [Bool.and_eq_true]; exact h2⟩
theorem endsB_iff {p : Po} {m : Nat} {s : Bool} {F : Nat → Bool} : endsB p m s F = true ↔ (s = true ∧ p.null.toNat.testBit m = true) ∨ ∃ e ∈ p.last, F e.1.toNat = true ∧ e.2.toNat.testBit m = true := by
  unfold endsB
  rw [Bool.or_eq_true, Bool.and_eq_true, List.any_eq_true]
  constructor
  · rintro (h | ⟨k, h1, h2⟩)
    · exact .inl h
    · rw [Bool.and_eq_true] at h2
      exact .inr ⟨k, h1, h2⟩
  · rintro (h | ⟨k, h1, h2⟩)
    · exact .inl h
    · exact .inr ⟨k, h1, by rw [Bool.and_eq_true]; exact h2⟩
theorem behindB_iff {p : Po} {m : Nat} {G : Nat → Bool} {q : Nat} : behindB p m G q = true ↔ (∃ e ∈ p.last, e.1 = (q : Int) ∧ e.2.toNat.testBit m = true) ∨ ∃ e ∈ p.follow.getD q [], G e.1.toNat = true ∧ e.2.toNat.testBit m = true := by
  unfold behindB
  rw [Bool.or_eq_true, List.any_eq_true, List.any_eq_true]
  simp only [Bool.and_eq_true, beq_iff_eq]
theorem startB_iff {p : Po} {m : Nat} {G : Nat → Bool} : startB p m G = true ↔ p.null.toNat.testBit m = true ∨ ∃ e ∈ p.first, G e.1.toNat = true ∧ e.2.toNat.testBit m = true := by
  unfold startB
  rw [Bool.or_eq_true, List.any_eq_true]
  simp only [Bool.and_eq_true]
theorem EdOk.in_ {n : Nat} {l : List Ed} (h : EdOk n l) {e : Ed} (he : e ∈ l) : ∃ q : Nat, e.1 = q ∧ q < n := by
  obtain ⟨i, hi, rfl⟩ := List.getElem_of_mem he
  have h1 := h.at_ (List.getElem?_eq_getElem hi)
  exact ⟨l[i].1.toNat, by omega, by omega⟩
theorem Po.Ok.row {p : Po} (h : p.Ok) (k : Nat) : EdOk p.sets.length (p.follow.getD k []) := by
  rw [List.getD_eq_getElem?_getD]
  cases hk : p.follow[k]? with
  | none => exact fun i e hi => by simp at hi
  | some l => exact h.follow k l hk

theorem back_run {p : Po} {x : Sc} (hok : p.Ok) : ∀ (k i : Nat) (F : Nat → Bool), i ≤ x.len → x.len - i = k → ((∃ j, j ≤ k ∧ endsB p (x.mark (i + j)) false (runB p x i F j) = true) ↔ ∃ q, q < p.sets.length ∧ F q = true ∧ behindB p (x.mark i) (goodB p x k) q = true)
  | 0, i, F, hi, hk => by
    constructor
    · rintro ⟨j, hj, h⟩
      obtain rfl : j = 0 := by omega
      rw [endsB_iff] at h
      rcases h with ⟨h, _⟩ | ⟨e, h1, h2, h3⟩
      · cases h
      · obtain ⟨q, hq, hn⟩ := hok.last.in_ h1
        rw [hq, Int.toNat_natCast] at h2
        exact ⟨q, hn, h2, behindB_iff.2 (.inl ⟨e, h1, hq, h3⟩)⟩
    · rintro ⟨q, hq, h1, h2⟩
      rw [behindB_iff] at h2
      rcases h2 with ⟨e, h3, h4, h5⟩ | ⟨e, _, h4, _⟩
      · exact ⟨0, Nat.le_refl _, endsB_iff.2 (.inr ⟨e, h3, by rw [h4]; exact h1, h5⟩)⟩
      · exact absurd h4 (by simp [goodB])
  | k + 1, i, F, hi, hk => by
    have e1 : x.len - k = i + 1 := by omega
    have e2 : i + 1 - 1 = i := by omega
    have hg : ∀ q, goodB p x (k + 1) q = (behindB p (x.mark (i + 1)) (goodB p x k) q && setHas p q (byteB x i)) := fun q => by
      rw [goodB, e1, e2]
    have ih := back_run (x := x) hok k (i + 1) (stepB p (x.mark i) (byteB x i) false F) (by omega) (by omega)
    constructor
    · rintro ⟨j, hj, h⟩
      cases j with
      | zero =>
        rw [endsB_iff] at h
        rcases h with ⟨h, _⟩ | ⟨e, h1, h2, h3⟩
        · cases h
        · obtain ⟨q, hq, hn⟩ := hok.last.in_ h1
          rw [hq, Int.toNat_natCast] at h2
          exact ⟨q, hn, h2, behindB_iff.2 (.inl ⟨e, h1, hq, h3⟩)⟩
      | succ j =>
        rw [runB_first, show i + (j + 1) = i + 1 + j by omega] at h
        obtain ⟨q, hq, h1, h2⟩ := ih.1 ⟨j, by omega, h⟩
        rw [stepB_iff] at h1
        rcases h1 with ⟨h1, _⟩ | ⟨r, hr, h3, h4⟩
        · cases h1
        · obtain ⟨e, e1, e2, e3, e4⟩ := leads_iff.1 h4
          refine ⟨r, hr, h3, behindB_iff.2 (.inr ⟨e, e1, ?_, e3⟩)⟩
          rw [e2, Int.toNat_natCast, hg, h2, e4]; rfl
    · rintro ⟨q, hq, h1, h2⟩
      rw [behindB_iff] at h2
      rcases h2 with ⟨e, h3, h4, h5⟩ | ⟨e, h3, h4, h5⟩
      · exact ⟨0, Nat.zero_le _, endsB_iff.2 (.inr ⟨e, h3, by rw [h4]; exact h1, h5⟩)⟩
      · obtain ⟨r, hr, hn⟩ := (hok.row q).in_ h3
        rw [hr, Int.toNat_natCast, hg, Bool.and_eq_true] at h4
        obtain ⟨j, hj, h⟩ := ih.2 ⟨r, hn, stepB_iff.2 (.inr ⟨q, hq, h1, leads_iff.2 ⟨e, h3, hr, h5, h4.2⟩⟩), h4.1⟩
        exact ⟨j + 1, by omega, by rw [runB_first, show i + (j + 1) = i + 1 + j by omega]; exact h⟩

theorem start_iff {p : Po} {x : Sc} (hok : p.Ok) {a : Nat} (ha : a ≤ x.len) : startAt p x a = true ↔ ∃ d, d < x.len + 1 - a ∧ endAt p x a st0 d = true := by
  unfold startAt
  rw [startB_iff]
  have key : (∃ e ∈ p.first, goodB p x (x.len - a) e.1.toNat = true ∧ e.2.toNat.testBit (x.mark a) = true) ↔ ∃ j, j + 1 < x.len + 1 - a ∧ endAt p x a st0 (j + 1) = true := by
    rcases Nat.lt_or_ge a x.len with hl | hl
    case inr =>
      constructor
      · rintro ⟨e, _, h, _⟩
        rw [show x.len - a = 0 by omega] at h
        simp [goodB] at h
      · rintro ⟨j, hj, _⟩; omega
    obtain ⟨k, hk⟩ : ∃ k, x.len - a = k + 1 := ⟨x.len - a - 1, by omega⟩
    have e1 : x.len - k = a + 1 := by omega
    have e2 : a + 1 - 1 = a := by omega
    have hg : ∀ q, goodB p x (x.len - a) q = (behindB p (x.mark (a + 1)) (goodB p x k) q && setHas p q (byteB x a)) := fun q => by
      rw [hk, goodB, e1, e2]
    have hb := back_run (x := x) hok k (a + 1) (stepB p (x.mark a) (byteB x a) true fun _ => false) (by omega) (by omega)
    have he : ∀ j, endAt p x a st0 (j + 1) = endsB p (x.mark (a + 1 + j)) false (runB p x (a + 1) (stepB p (x.mark a) (byteB x a) true fun _ => false) j) := fun j => by
      unfold endAt
      rw [runB_front, show a + (j + 1) = a + 1 + j by omega]
      rfl
    constructor
    · rintro ⟨e, h1, h2, h3⟩
      obtain ⟨q, hq, hn⟩ := hok.first.in_ h1
      rw [hq, Int.toNat_natCast, hg, Bool.and_eq_true] at h2
      obtain ⟨j, hj, h⟩ := hb.2 ⟨q, hn, stepB_iff.2 (.inl ⟨rfl, leads_iff.2 ⟨e, h1, hq, h3, h2.2⟩⟩), h2.1⟩
      exact ⟨j, by omega, by rw [he]; exact h⟩
    · rintro ⟨j, hj, h⟩
      rw [he] at h
      obtain ⟨q, hq, h1, h2⟩ := hb.1 ⟨j, by omega, h⟩
      rw [stepB_iff] at h1
      rcases h1 with ⟨_, h1⟩ | ⟨_, _, h1, _⟩
      · obtain ⟨e, e1, e2, e3, e4⟩ := leads_iff.1 h1
        exact ⟨e, e1, by rw [e2, Int.toNat_natCast, hg, h2, e4]; rfl, e3⟩
      · cases h1
  rw [key]
  constructor
  · rintro (h | ⟨j, h1, h2⟩)
    · exact ⟨0, by omega, endsB_iff.2 (.inl ⟨rfl, h⟩)⟩
    · exact ⟨j + 1, h1, h2⟩
  · rintro ⟨d, h1, h2⟩
    cases d with
    | zero =>
      unfold endAt at h2
      rw [endsB_iff] at h2
      rcases h2 with ⟨_, h⟩ | ⟨_, _, h, _⟩
      · exact .inl h
      · simp [frontB] at h
    | succ j => exact .inr ⟨j, h1, h2⟩
theorem endList_ne {p : Po} {x : Sc} {a : Nat} : endList p x a ≠ [] ↔ ∃ d, d < x.len + 1 - a ∧ endAt p x a st0 d = true := by
  unfold endList endsUpto
  rw [ne_eq, List.map_eq_nil_iff, List.filter_eq_nil_iff]
  constructor
  · intro h
    apply Classical.byContradiction
    intro hn
    exact h fun d hd he => hn ⟨d, List.mem_range.1 hd, he⟩
  · rintro ⟨d, h1, h2⟩ h
    exact h d (List.mem_range.2 h1) h2
theorem startAt_iff {p : Po} {x : Sc} (hok : p.Ok) {a : Nat} (ha : a ≤ x.len) : startAt p x a = true ↔ endList p x a ≠ [] := (start_iff hok ha).trans endList_ne.symm

/-! ### The least end of all -/
theorem front_all {p : Po} {x : Sc} {a : Nat} : ∀ (d q : Nat), frontB p x a st1 d q = true ↔ ∃ s, s ≤ d ∧ frontB p x (a + s) st0 (d - s) q = true
  | 0, q => by
    constructor
    · intro h; simp [frontB] at h
    · rintro ⟨s, hs, h⟩
      rw [show 0 - s = 0 by omega] at h
      simp [frontB] at h
  | d + 1, q => by
    rw [frontB, stepB_iff]
    have hz : ∀ s, s ≤ d → frontB p x (a + s) st0 (d + 1 - s) = stepB p (x.mark (a + d)) (byteB x (a + d)) (st0 (d - s)) (frontB p x (a + s) st0 (d - s)) := fun s hs => by
      rw [show d + 1 - s = (d - s) + 1 by omega, frontB, show a + s + (d - s) = a + d by omega]
    constructor
    · rintro (⟨_, h⟩ | ⟨k, hk, h1, h2⟩)
      · refine ⟨d, by omega, ?_⟩
        rw [hz d (Nat.le_refl _), stepB_iff, Nat.sub_self]
        exact .inl ⟨rfl, h⟩
      · obtain ⟨s, hs, h3⟩ := (front_all d k).1 h1
        refine ⟨s, by omega, ?_⟩
        rw [hz s hs, stepB_iff]
        exact .inr ⟨k, hk, h3, h2⟩
    · rintro ⟨s, hs, h⟩
      by_cases hsd : s ≤ d
      · rw [hz s hsd, stepB_iff] at h
        rcases h with ⟨_, h⟩ | ⟨k, hk, h1, h2⟩
        · exact .inl ⟨rfl, h⟩
        · exact .inr ⟨k, hk, (front_all d k).2 ⟨s, hsd, h1⟩, h2⟩
      · rw [show d + 1 - s = 0 by omega] at h
        simp [frontB] at h
theorem end_all {p : Po} {x : Sc} {a d : Nat} : endAt p x a st1 d = true ↔ ∃ s, s ≤ d ∧ endAt p x (a + s) st0 (d - s) = true := by
  unfold endAt
  rw [endsB_iff]
  constructor
  · rintro (⟨_, h⟩ | ⟨e, h1, h2, h3⟩)
    · refine ⟨d, Nat.le_refl _, ?_⟩
      rw [endsB_iff, Nat.sub_self, Nat.add_zero]
      exact .inl ⟨rfl, h⟩
    · obtain ⟨s, hs, h4⟩ := (front_all d _).1 h2
      refine ⟨s, hs, ?_⟩
      rw [endsB_iff, show a + s + (d - s) = a + d by omega]
      exact .inr ⟨e, h1, h4, h3⟩
  · rintro ⟨s, hs, h⟩
    rw [endsB_iff, show a + s + (d - s) = a + d by omega] at h
    rcases h with ⟨_, h⟩ | ⟨e, h1, h2, h3⟩
    · exact .inl ⟨rfl, h⟩
    · exact .inr ⟨e, h1, (front_all d _).2 ⟨s, hs, h2⟩, h3⟩

theorem mem_endsUpto {p : Po} {x : Sc} {a : Nat} {st : Nat → Bool} {k : Nat} {z : Int} : z ∈ endsUpto p x a st k ↔ ∃ d, d < k ∧ z = ((a + d : Nat) : Int) ∧ endAt p x a st d = true := by
  refine ⟨endsUpto_bd, ?_⟩
  rintro ⟨d, h1, rfl, h2⟩
  unfold endsUpto
  exact List.mem_map_of_mem (List.mem_filter.2 ⟨List.mem_range.2 h1, h2⟩)
theorem endsUpto_sorted (p : Po) (x : Sc) (a : Nat) (st : Nat → Bool) (k : Nat) : (endsUpto p x a st k).Pairwise (· < ·) := by
  unfold endsUpto
  rw [List.pairwise_map]
  exact (List.pairwise_lt_range.filter _).imp fun h => by omega
theorem head_le {l : List Int} (hs : l.Pairwise (· < ·)) {h z : Int} (h0 : l[0]? = some h) (hz : z ∈ l) : h ≤ z := by
  cases l with
  | nil => simp at h0
  | cons y l =>
    obtain rfl : y = h := by simpa using h0
    rcases List.mem_cons.1 hz with e | e
    · omega
    · have := (List.pairwise_cons.1 hs).1 z e; omega
theorem mem_any_iff {p : Po} {x : Sc} {a : Nat} (ha : a ≤ x.len) {z : Int} : z ∈ anyList p x a ↔ ∃ s, s < x.len + 1 - a ∧ z ∈ endList p x (a + s) := by
  unfold anyList endList
  rw [mem_endsUpto]
  constructor
  · rintro ⟨d, h1, rfl, h2⟩
    obtain ⟨s, hs, h3⟩ := end_all.1 h2
    exact ⟨s, by omega, mem_endsUpto.2 ⟨d - s, by omega, by congr 1; omega, h3⟩⟩
  · rintro ⟨s, hs, h⟩
    obtain ⟨d, h1, h2, h3⟩ := mem_endsUpto.1 h
    exact ⟨s + d, by omega, by rw [h2]; congr 1; omega, end_all.2 ⟨s, by omega, by rw [show s + d - s = d by omega]; exact h3⟩⟩

/-- The least end of the pieces that begin at the first k places; -1: none. -/
def leastB (p : Po) (x : Sc) (a : Nat) : Nat → Int
  | 0 => -1
  | k + 1 => match (endList p x (a + k))[0]? with
    | some h => if leastB p x a k < 0 ∨ h < leastB p x a k then h else leastB p x a k
    | none => leastB p x a k
def LeastIs (p : Po) (x : Sc) (a k : Nat) (r : Int) : Prop := (r = -1 ∧ ∀ s, s < k → endList p x (a + s) = []) ∨ (0 ≤ r ∧ (∃ s, s < k ∧ r ∈ endList p x (a + s)) ∧ ∀ s z, s < k → z ∈ endList p x (a + s) → r ≤ z)
theorem leastB_is (p : Po) (x : Sc) (a : Nat) : ∀ k, LeastIs p x a k (leastB p x a k)
  | 0 => .inl ⟨rfl, fun s h => by omega⟩
  | k + 1 => by
    have ih := leastB_is p x a k
    unfold leastB
    have hlt : ∀ s, s < k + 1 → s < k ∨ s = k := fun s h => by omega
    cases hh : (endList p x (a + k))[0]? with
    | none =>
      have he : endList p x (a + k) = [] := List.eq_nil_of_length_eq_zero (by have := List.getElem?_eq_none_iff.1 hh; omega)
      simp only
      rcases ih with ⟨h1, h2⟩ | ⟨h1, ⟨s, hs, h2⟩, h3⟩
      · exact .inl ⟨h1, fun s hs => by rcases hlt s hs with h | rfl; exact h2 s h; exact he⟩
      · exact .inr ⟨h1, ⟨s, by omega, h2⟩, fun s z hs hz => by
          rcases hlt s hs with h | rfl
          · exact h3 s z h hz
          · rw [he] at hz; cases hz⟩
    | some h =>
      have hm := List.mem_of_getElem? hh
      have hle : ∀ z ∈ endList p x (a + k), h ≤ z := fun z hz => head_le (endsUpto_sorted p x (a + k) st0 _) hh hz
      have hpos : 0 ≤ h := by
        obtain ⟨d, _, h1, _⟩ := endsUpto_bd hm
        omega
      simp only
      by_cases hc : leastB p x a k < 0 ∨ h < leastB p x a k
      · rw [if_pos hc]
        refine .inr ⟨hpos, ⟨k, by omega, hm⟩, fun s z hs hz => ?_⟩
        rcases hlt s hs with h1 | rfl
        · rcases ih with ⟨_, h3⟩ | ⟨h2, _, h3⟩
          · rw [h3 s h1] at hz; cases hz
          · have := h3 s z h1 hz; omega
        · exact hle z hz
      · rw [if_neg hc]
        rcases ih with ⟨h1, _⟩ | ⟨h1, ⟨s, hs, h2⟩, h3⟩
        · omega
        · exact .inr ⟨h1, ⟨s, by omega, h2⟩, fun s z hs hz => by
            rcases hlt s hs with h4 | rfl
            · exact h3 s z h4 hz
            · have := hle z hz; omega⟩
theorem any_least {p : Po} {x : Sc} {a : Nat} (ha : a ≤ x.len) {r n : Int} {ok : Bool} (hr : LeastIs p x a (x.len + 1 - a) r) (hz : PlaceIs (anyList p x a)[0]? n ok) : ok = decide (0 ≤ r) ∧ n = max r 0 := by
  rcases hz with ⟨h1, rfl, rfl⟩ | ⟨h1, rfl⟩
  · have he : anyList p x a = [] := List.eq_nil_of_length_eq_zero (by have := List.getElem?_eq_none_iff.1 h1; omega)
    rcases hr with ⟨rfl, _⟩ | ⟨_, ⟨s, hs, h2⟩, _⟩
    · exact ⟨rfl, rfl⟩
    · have := (mem_any_iff ha).2 ⟨s, hs, h2⟩
      rw [he] at this; cases this
  · have hm := List.mem_of_getElem? h1
    obtain ⟨s, hs, h2⟩ := (mem_any_iff ha).1 hm
    rcases hr with ⟨_, h3⟩ | ⟨h0, ⟨t, ht, h3⟩, h4⟩
    · rw [h3 s hs] at h2; cases h2
    · have h5 := h4 s n hs h2
      have h6 := head_le (endsUpto_sorted p x a st1 _) h1 ((mem_any_iff ha).2 ⟨t, ht, h3⟩)
      obtain rfl : n = r := by omega
      exact ⟨by simp [h0], by omega⟩
end Go.Proofs.YtlomjepemnlliaaDoor
