/- The ends that walk tells of a tree's positions are those of the tree. -/
import Derived.Test.YthkddbfgihgfaaaDoorGlu
import Derived.Test.YthkddbfgihgfaaaDoorWalk18
import Derived.Test.YthkddbfgihgfaaaDoorEnds
set_option linter.unusedSimpArgs false
set_option linter.unusedVariables false
namespace Go.Proofs.YthkddbfgihgfaaaDoor
open Go.RowKit

theorem edgesOf_mem_iff {n : Nat} {f : Nat → Nat} {e : Ed} : e ∈ edgesOf n f ↔ ∃ q, q < n ∧ f q ≠ 0 ∧ e = (((q : Nat) : Int), ((f q : Nat) : Int)) := by
  refine ⟨edgesOf_mem, ?_⟩
  rintro ⟨q, h1, h2, rfl⟩
  unfold edgesOf
  refine List.mem_map.2 ⟨q, List.mem_filter.2 ⟨List.mem_range.2 h1, by simpa using h2⟩, rfl⟩
theorem leads_edgesOf (p : Po) (m b n q : Nat) (f : Nat → Nat) : leads p m b (edgesOf n f) q = true ↔ q < n ∧ (f q).testBit m = true ∧ setHas p q b = true := by
  unfold leads
  rw [List.any_eq_true]
  constructor
  · rintro ⟨e, h1, h2⟩
    obtain ⟨k, h3, h4, rfl⟩ := edgesOf_mem_iff.1 h1
    simp only [Bool.and_eq_true, beq_iff_eq] at h2
    obtain rfl : k = q := by omega
    exact ⟨h3, by simpa using h2.2.1, h2.2.2⟩
  · rintro ⟨h1, h2, h3⟩
    exact ⟨_, edgesOf_mem_iff.2 ⟨q, h1, bit_ne h2, rfl⟩, by simp [h2, h3]⟩
theorem setHas_se (p : Po) (q b : Nat) : setHas p q b = seHas p.sets q b := rfl
theorem Run.le {m : Nat → Nat} {ok : Nat → Nat → Prop} {a b i p j q : Nat} {M : Nat → Nat → Nat} (h : Run m ok a b M i p j q) : i ≤ j := by
  induction h with
  | here => exact Nat.le_refl _
  | step _ _ _ _ ih => omega
section
variable (S : List Se) (pt : Pt) (M : Nat → Nat → Nat)
/-- Positions laid: sets, part, ways. -/
def poOf : Po := ⟨S, ((pt.null : Nat) : Int), edgesOf S.length pt.fst, edgesOf S.length pt.lst, (List.range S.length).map fun i => edgesOf S.length (M i)⟩
theorem poOf_follow {k : Nat} (hk : k < S.length) : (poOf S pt M).follow.getD k [] = edgesOf S.length (M k) := by
  simp [poOf, List.getD_eq_getElem?_getD, hk]
variable {S pt M}
theorem front_run {x : Sc} {a : Nat} : ∀ (d : Nat), a + d ≤ x.len → ∀ q, frontB (poOf S pt M) x a st0 d q = true ↔ (0 ≤ q ∧ q < S.length) ∧ ∃ p, (0 ≤ p ∧ p < S.length) ∧ (pt.fst p).testBit (x.mark a) = true ∧ okS x S p a ∧ Run x.mark (okS x S) 0 S.length M (a + 1) p (a + d) q
  | 0, hd, q => by
    rw [frontB]
    refine ⟨fun h => by (cases h), ?_⟩
    rintro ⟨_, p, _, _, _, h⟩
    have := h.le
    omega
  | d + 1, hd, q => by
    have ih := front_run (x := x) (a := a) d (by omega)
    rw [frontB]
    unfold stepB
    rw [Bool.or_eq_true, Bool.and_eq_true, List.any_eq_true]
    have hlen : (poOf S pt M).sets.length = S.length := rfl
    have hfst : (poOf S pt M).first = edgesOf S.length pt.fst := rfl
    rw [hlen, hfst, leads_edgesOf]
    constructor
    · rintro (⟨h1, h2, h3, h4⟩ | ⟨k, h1, h2⟩)
      · obtain rfl : d = 0 := by simpa [st0] using h1
        exact ⟨⟨by omega, h2⟩, q, ⟨by omega, h2⟩, h3, ⟨by omega, h4⟩, .here⟩
      · rw [List.mem_range] at h1
        rw [Bool.and_eq_true, poOf_follow S pt M h1, leads_edgesOf, ih] at h2
        obtain ⟨⟨h3, p, h4, h5, h6, h7⟩, h8, h9, h10⟩ := h2
        exact ⟨⟨by omega, h8⟩, p, h4, h5, h6, h7.step ⟨by omega, h8⟩ h9 ⟨by omega, h10⟩⟩
    · rintro ⟨h0, p, h1, h2, h3, h4⟩
      have key : ∀ {j}, Run x.mark (okS x S) 0 S.length M (a + 1) p j q → j = a + d + 1 → (d = 0 ∧ p = q) ∨ ∃ k, Run x.mark (okS x S) 0 S.length M (a + 1) p (a + d) k ∧ (M k q).testBit (x.mark (a + d)) = true ∧ okS x S q (a + d) := by
        intro j h e
        cases h with
        | here => exact .inl ⟨by omega, rfl⟩
        | @step j' k _ e1 e2 e3 e4 =>
          obtain rfl : j' = a + d := by omega
          exact .inr ⟨k, e1, e3, e4⟩
      rcases key h4 rfl with ⟨rfl, rfl⟩ | ⟨k, e1, e2, e3⟩
      · exact .inl ⟨rfl, h0.2, h2, h3.2⟩
      · have hk := e1.range h1
        exact .inr ⟨k, List.mem_range.2 hk.2, by rw [Bool.and_eq_true, poOf_follow S pt M hk.2, leads_edgesOf, ih]; exact ⟨⟨hk, p, h1, h2, h3, e1⟩, h0.2, e2, e3.2⟩⟩
theorem end_leads {x : Sc} {a d : Nat} (hd : a + d ≤ x.len) : endAt (poOf S pt M) x a st0 d = true ↔ Leads x.mark (okS x S) 0 S.length pt M a (a + d) := by
  unfold endAt endsB Leads
  rw [Bool.or_eq_true, Bool.and_eq_true, List.any_eq_true]
  have hl : (poOf S pt M).last = edgesOf S.length pt.lst := rfl
  have hn : (poOf S pt M).null.toNat = pt.null := by show ((pt.null : Nat) : Int).toNat = pt.null; omega
  rw [hl, hn]
  refine or_congr ?_ ?_
  · constructor
    · rintro ⟨h1, h2⟩
      obtain rfl : d = 0 := by simpa [st0] using h1
      exact ⟨rfl, h2⟩
    · rintro ⟨h1, h2⟩
      obtain rfl : d = 0 := by omega
      exact ⟨rfl, h2⟩
  · constructor
    · rintro ⟨e, h1, h2⟩
      obtain ⟨q, h3, h4, rfl⟩ := edgesOf_mem_iff.1 h1
      rw [Bool.and_eq_true] at h2
      have h5 : frontB (poOf S pt M) x a st0 d q = true := by simpa using h2.1
      obtain ⟨_, p, h6, h7, h8, h9⟩ := (front_run d hd q).1 h5
      exact ⟨p, q, h6, h7, h8, h9, by simpa using h2.2⟩
    · rintro ⟨p, q, h1, h2, h3, h4, h5⟩
      have hq := h4.range h1
      refine ⟨_, edgesOf_mem_iff.2 ⟨q, hq.2, bit_ne h5, rfl⟩, ?_⟩
      rw [Bool.and_eq_true]
      exact ⟨by simpa using (front_run d hd q).2 ⟨hq, p, h1, h2, h3, h4⟩, by simpa using h5⟩
end
theorem laid_po (t : T) : t.laid = poOf t.posOf.2.S t.posOf.1 t.posOf.2.M := rfl
theorem end_R {x : Sc} (hm : ∀ i, x.mark i < 4) {t : T} (hf : t.form = true) {a d : Nat} (hd : a + d ≤ x.len) : endAt t.exp.laid x a st0 d = true ↔ t.R x a (a + d) := by
  rw [laid_po, end_leads hd]
  exact T.laid_leads x hm t hf a (a + d)
theorem sorted_eq : ∀ {l l' : List Int}, l.Pairwise (· < ·) → l'.Pairwise (· < ·) → (∀ z, z ∈ l ↔ z ∈ l') → l = l'
  | [], [], _, _, _ => rfl
  | [], b :: l', _, _, h => by
    have := (h b).2 List.mem_cons_self
    cases this
  | a :: l, [], _, _, h => by
    have := (h a).1 List.mem_cons_self
    cases this
  | a :: l, b :: l', h1, h2, h => by
    rw [List.pairwise_cons] at h1 h2
    have e : a = b := by
      have ha := (h a).1 List.mem_cons_self
      have hb := (h b).2 List.mem_cons_self
      rcases List.mem_cons.1 ha with e | ha
      · exact e
      rcases List.mem_cons.1 hb with e | hb
      · exact e.symm
      have h3 := h2.1 a ha
      have h4 := h1.1 b hb
      omega
    subst e
    rw [sorted_eq h1.2 h2.2 fun z => ?_]
    constructor
    · intro hz
      have := h1.1 z hz
      rcases List.mem_cons.1 ((h z).1 (List.mem_cons_of_mem _ hz)) with e | e
      · omega
      · exact e
    · intro hz
      have := h2.1 z hz
      rcases List.mem_cons.1 ((h z).2 (List.mem_cons_of_mem _ hz)) with e | e
      · omega
      · exact e
theorem EndsOf.sorted {R : Nat → Nat → Prop} {n i : Nat} {l : List Int} (h : EndsOf R n i l) : l.Pairwise (· < ·) := by
  obtain ⟨tw, _, _, rfl⟩ := h
  unfold places
  rw [List.pairwise_map]
  exact (List.pairwise_lt_range.filter _).imp fun h => by omega
theorem ends_sorted (p : Po) (x : Sc) (a : Nat) : (endList p x a).Pairwise (· < ·) := by
  unfold endList endsUpto
  rw [List.pairwise_map]
  exact (List.pairwise_lt_range.filter _).imp fun h => by omega
/-- walk's ends are reach's. -/
theorem ends_same {x : Sc} (hm : ∀ i, x.mark i < 4) {t : T} (hf : t.form = true) {a : Nat} (ha : a ≤ x.len) (hx : x.len ≤ 63) {l : List Int} (h : EndsOf (t.R x) x.len a l) : endList t.exp.laid x a = l := by
  refine sorted_eq (ends_sorted _ _ _) h.sorted fun z => ?_
  constructor
  · intro hz
    obtain ⟨d, h1, rfl, h2⟩ := endsUpto_bd hz
    rw [h.mem hx]
    exact (end_R hm hf (by omega)).1 h2
  · intro hz
    obtain ⟨j, rfl, hj⟩ := h.nat hz
    rw [h.mem hx] at hz
    have h1 := T.R_fwd x t a j hz
    unfold endList endsUpto
    refine List.mem_map.2 ⟨j - a, List.mem_filter.2 ⟨List.mem_range.2 (by omega), ?_⟩, by congr 1; omega⟩
    rw [end_R hm hf (by omega)]
    have e : a + (j - a) = j := by omega
    rw [e]
    exact hz
end Go.Proofs.YthkddbfgihgfaaaDoor
