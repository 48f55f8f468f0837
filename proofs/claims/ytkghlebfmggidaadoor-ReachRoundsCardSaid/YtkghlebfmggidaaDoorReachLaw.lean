/- PartsLaw: The plain law of ReachParts: what a sequence, a choice and a group take.
RoundLaw: The plain law of ReachRounds: a repeat is its Sub and one round fewer; without end it is closed. -/
import Derived.Test.YtkghlebfmggidaaDoorAlgLaw
set_option linter.unusedSimpArgs false
set_option linter.unusedVariables false
set_option linter.unnecessarySimpa false

/-! ## PartsLaw -/
namespace Go.Proofs.YtkghlebfmggidaaDoor
open Go.RowKit

def tgroup (a : T) : T := .mk ⟨7, 0, 0, 0, 0, 1, 0, 0, false⟩ [a]

theorem rgroup_R (x : Sc) (a : T) (i j : Nat) : (tgroup a).R x i j ↔ a.R x i j := by rw [T.R_eq]; simp [tgroup, T.hd, T.subs, TL.Rone]
theorem rseq2_R (x : Sc) (a b : T) (i j : Nat) : (tseq [a, b]).R x i j ↔ ∃ m, a.R x i m ∧ b.R x m j := by
  rw [rseq_R]
  simp only [TL.Rseq]
  constructor
  · rintro ⟨m, h1, q, h2, rfl⟩; exact ⟨m, h1, h2⟩
  · rintro ⟨m, h1, h2⟩; exact ⟨m, h1, j, h2, rfl⟩
theorem ralt2_R (x : Sc) (a b : T) (i j : Nat) : (talt [a, b]).R x i j ↔ a.R x i j ∨ b.R x i j := by simp only [ralt_R, TL.Ralt, or_false]
theorem rseq2_mid (x : Sc) (a b : T) (i j : Nat) : (tseq [a, b]).R x i j ↔ ∃ m, i ≤ m ∧ m ≤ j ∧ a.R x i m ∧ b.R x m j := by
  rw [rseq2_R]
  constructor
  · rintro ⟨m, h1, h2⟩; exact ⟨m, (T.R_fwd x a i m h1).1, (T.R_fwd x b m j h2).1, h1, h2⟩
  · rintro ⟨m, _, _, h1, h2⟩; exact ⟨m, h1, h2⟩

theorem alt2_check (a b : T) : (talt [a, b]).check = (tseq [a, b]).check := by
  have h1 : (talt [a, b]).form = (tseq [a, b]).form := by simp [talt, tseq, T.form, Hd.formed, Hd.plain, Hd.noSet]
  have h2 : (talt [a, b]).depth = (tseq [a, b]).depth := rfl
  have h3 : (talt [a, b]).size = (tseq [a, b]).size := by simp [talt, tseq, T.size, Hd.grow]
  unfold T.check
  rw [h1, h2, h3]

theorem parts_fit (a b : T) (ha : a.wf) (hb : b.wf) (na : a.nodes ≤ 2500) (nb : b.nodes ≤ 2500) : (tseq [a, b]).wf ∧ (talt [a, b]).wf ∧ (tgroup a).wf ∧ (tseq [a, b]).nodes ≤ 1000000 ∧ (talt [a, b]).nodes ≤ 1000000 ∧ (tgroup a).nodes ≤ 1000000 := by
  simp [talt, tseq, tgroup, T.wf, TL.wf, Hd.wf, IsI64, IsU64, T.nodes, TL.nodes, ha, hb]
  omega

/-- Takes of a sound tree at places in the text. -/
theorem takes_fine {x : Sc} {b m : Nat} (t : T) (A : Option Addr) (c : Nat) (p q : Int) (a : Nat → Addr) (hN : t.nodes ≤ 1000000) (hwf : t.wf) (hp : IsI64 p) (hq : IsI64 q) (hl : x.len ≤ 63) (h0 : 0 ≤ p) (h1 : p ≤ x.len) (h2 : 0 ≤ q) (h3 : q ≤ x.len) (hck : t.check = none) (w : World) (hin : T.In w (· < w.heap.size) t A) (hscn : Scn w b m x) (hE : Env w a) :
    Calls Tryd.prog 14 #[.agg (t.hd.cells (.slice A t.subs.length c)).toArray, .pointer (some ⟨b, 0, none⟩), .int .i64 p, .int .i64 q] w fun e w' =>
      ∃ r : Bool, e = .returned (.tuple #[.bool r, .nilIface]) ∧ (r = true ↔ t.R x p.toNat q.toNat) ∧ Below w.heap.size w w' := by
  have ha : asked t x [p, q] = none := asked_none.2 ⟨hck, hl, by simp; omega⟩
  refine (takes_any t A c p q w a hN hwf hin hscn hE hp hq).mono fun e w' h => ?_
  obtain ⟨r, h1, h2, _, h5⟩ := h
  rw [ha] at h1 h2
  exact ⟨r, h1, h2 rfl, h5⟩
end Go.Proofs.YtkghlebfmggidaaDoor

/-! ## RoundLaw -/
namespace Go.Proofs.YtkghlebfmggidaaDoor
open Go.RowKit

theorem rounds_same (x : Sc) (t : T) (mn mx : Int) (h1 : 1 ≤ mn) (h2 : mn ≤ mx) (i j : Nat) : (trep t mn mx).R x i j ↔ (tseq [t, trep t (mn - 1) (mx - 1)]).R x i j := by
  rw [rseq2_R, rrep_R]
  simp only [rrep_R]
  constructor
  · rintro ⟨k, a, b, h⟩
    obtain ⟨k, rfl⟩ : ∃ k', k = k' + 1 := ⟨k - 1, by omega⟩
    obtain ⟨m, h3, h4⟩ := Iter.front.1 h
    exact ⟨m, h3, k, by omega, .inr (by omega), h4⟩
  · rintro ⟨m, h3, k, a, b, h4⟩
    refine ⟨k + 1, by omega, .inr (by omega), Iter.front.2 ⟨m, h3, h4⟩⟩

theorem star_R (x : Sc) (t : T) (i j : Nat) : (trep t 0 (-1)).R x i j ↔ ∃ q, Iter (t.R x) q i j := by
  rw [rrep_R]
  constructor
  · rintro ⟨k, _, _, h⟩; exact ⟨k, h⟩
  · rintro ⟨k, h⟩; exact ⟨k, by omega, .inl rfl, h⟩
theorem star_self (x : Sc) (t : T) (i : Nat) : (trep t 0 (-1)).R x i i := (star_R x t i i).2 ⟨0, rfl⟩
theorem star_next {x : Sc} {t : T} {i j k : Nat} (h : (trep t 0 (-1)).R x i j) (h2 : t.R x j k) : (trep t 0 (-1)).R x i k := by
  obtain ⟨q, h⟩ := (star_R x t i j).1 h
  exact (star_R x t i k).2 ⟨q + 1, j, h, h2⟩

theorem EndsOf.first {R : Nat → Nat → Prop} {n i : Nat} {l : List Int} (h : EndsOf R n i l) (hi : i ≤ n) (hn : n ≤ 63) (hself : R i i) (hle : ∀ j, R i j → i ≤ j) : ∃ r, l = (i : Int) :: r := by
  obtain ⟨tw, h1, h2, rfl⟩ := h
  have hs : (List.range 64).Pairwise (· < ·) := List.pairwise_lt_range
  have hp : (places tw).Pairwise (· < ·) := hs.sublist List.filter_sublist
  have hm : i ∈ places tw := mem_places.2 ⟨by omega, (one_img h1 i).2 hself⟩
  cases hpl : places tw with
  | nil => rw [hpl] at hm; cases hm
  | cons y r =>
    rw [hpl] at hm hp
    have hy : y ∈ places tw := by rw [hpl]; exact .head _
    have h3 := hle y ((one_img h1 y).1 (mem_places.1 hy).2)
    rcases List.mem_cons.1 hm with e | e
    · subst e; exact ⟨_, rfl⟩
    · have := (List.pairwise_cons.1 hp).1 i e
      omega

theorem rounds_fit (t : T) (ht : t.wf) (nt : t.nodes ≤ 2500) (mn mx : Int) (h1 : IsI64 mn) (h2 : IsI64 mx) : (trep t mn mx).wf ∧ (trep t mn mx).nodes ≤ 10000 := by
  unfold IsI64 at h1 h2
  simp [trep, T.wf, TL.wf, Hd.wf, IsI64, IsU64, T.nodes, TL.nodes, ht]
  omega
theorem roundseq_fit (t : T) (ht : t.wf) (nt : t.nodes ≤ 2500) (mn mx : Int) (h1 : IsI64 mn) (h2 : IsI64 mx) : (tseq [t, trep t mn mx]).wf ∧ (tseq [t, trep t mn mx]).nodes ≤ 1000000 := by
  obtain ⟨h3, h4⟩ := rounds_fit t ht nt mn mx h1 h2
  simp [tseq, T.wf, TL.wf, Hd.wf, IsI64, IsU64, T.nodes, TL.nodes, ht, h3]
  omega

/-- tree.Rep hands back a new tree. -/
theorem rep_new (t : T) (A : Option Addr) (c : Nat) (mn mx : Int) (w : World) (hN : t.nodes ≤ 1000000) (hin : T.In w (· < w.heap.size) t A) :
    Calls Tryd.prog 16 #[.agg (t.hd.cells (.slice A t.subs.length c)).toArray, .int .i64 mn, .int .i64 mx] w fun e w' =>
      ∃ (B : Option Addr) (d : Nat), e = .returned (.agg #[.int .i64 8, .int .u64 0, .int .u64 0, .int .u64 0, .int .u64 0, .slice B 1 d, .int .i64 0, .int .i64 mn, .int .i64 mx, .bool false]) ∧ T.In w' (· < w'.heap.size) (trep t mn mx) B ∧ Below w.heap.size w w' := by
  refine (rep_any t A c mn mx w hN hin).mono fun e w' h => ?_
  obtain ⟨B, d, bs, h1, h2, _, h4, h5⟩ := h
  exact ⟨B, d, h1, h2.in_ (ok := (· < w'.heap.size)) fun b hb => (h4 b hb).2, h5⟩

theorem third (z : Int) : (0 ≤ wrap64 ((IntKind.u64.wrap z).tmod 3) ∧ wrap64 ((IntKind.u64.wrap z).tmod 3) ≤ 2) ∧ 1 ≤ wrap64 (1 + wrap64 ((IntKind.u64.wrap z).tmod 3)) ∧ wrap64 (1 + wrap64 ((IntKind.u64.wrap z).tmod 3)) ≤ 3 := by
  have h0 : 0 ≤ IntKind.u64.wrap z := by simp [IntKind.wrap, IntKind.bits, IntKind.signed]; omega
  have h1 := Int.tmod_nonneg 3 h0
  have h2 := Int.tmod_lt_of_pos (IntKind.u64.wrap z) (show (0 : Int) < 3 by omega)
  generalize (IntKind.u64.wrap z).tmod 3 = y at *
  unfold wrap64
  omega
end Go.Proofs.YtkghlebfmggidaaDoor
