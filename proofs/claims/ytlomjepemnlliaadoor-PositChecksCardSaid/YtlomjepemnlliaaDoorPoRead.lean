/- What a reading says: positions that read lie in the memory that is there. -/
import Derived.Test.YtlomjepemnlliaaDoorPo
import Derived.Test.YtlomjepemnlliaaDoorReads
set_option linter.unusedSimpArgs false
set_option linter.unusedVariables false
namespace Go.Proofs.YtlomjepemnlliaaDoor
open Go.RowKit Go.ChangeShapes

theorem Tryd.cellsEdge : Tryd.prog.cellsOf 73 = 2 := by kernel_rfl
theorem Tryd.cellsEdges : Tryd.prog.cellsOf 23 = 1 := by kernel_rfl
theorem Tryd.cellsSets : Tryd.prog.cellsOf 22 = 1 := by kernel_rfl
theorem Tryd.cellsFollow : Tryd.prog.cellsOf 24 = 1 := by kernel_rfl
theorem Tryd.cellsPosits : Tryd.prog.cellsOf 26 = 5 := by kernel_rfl

theorem oneL {α : Type} {l : List α} (h : l.length = 1) : ∃ a, l = [a] := by
  match l, h with
  | [a], _ => exact ⟨a, rfl⟩
theorem twoL {α : Type} {l : List α} (h : l.length = 2) : ∃ a b, l = [a, b] := by
  match l, h with
  | [a, b], _ => exact ⟨a, b, rfl⟩
theorem fourL {α : Type} {l : List α} (h : l.length = 4) : ∃ a b c d, l = [a, b, c, d] := by
  match l, h with
  | [a, b, c, d], _ => exact ⟨a, b, c, d, rfl⟩
theorem fiveL {α : Type} {l : List α} (h : l.length = 5) : ∃ a b c d e, l = [a, b, c, d, e] := by
  match l, h with
  | [a, b, c, d, e], _ => exact ⟨a, b, c, d, e, rfl⟩

theorem collectA {α : Type} {p : Nat → α → Prop} : ∀ n, (∀ i, i < n → ∃ t, p i t) → ∃ l : List α, l.length = n ∧ ∀ i t, l[i]? = some t → p i t
  | 0, _ => ⟨[], rfl, by simp⟩
  | n + 1, h => by
    obtain ⟨l, h1, h2⟩ := collectA n fun i hi => h i (by omega)
    obtain ⟨t, ht⟩ := h n (by omega)
    refine ⟨l ++ [t], by simp [h1], fun i s hs => ?_⟩
    by_cases hi : i < l.length
    · rw [List.getElem?_append_left hi] at hs
      exact h2 i s hs
    · rw [List.getElem?_append_right (by omega)] at hs
      have h0 : i - l.length = 0 := by
        have := (List.getElem?_eq_some_iff.1 hs).1
        simp at this
        omega
      rw [h0] at hs
      have : t = s := by simpa using hs
      subst this
      rw [show i = n by omega]
      exact ht

section
variable {H : Type} {enc : TypeId × Value → H} {w : World} {base : Nat} {spare : Nat → Bool} {held : Bool}

theorem trod_list {α : Type} {te ts : TypeId} {sz : Nat} (q : List Value → α → Prop) (hts : Tryd.prog.underlying ts = some (.slice te)) (hc : Tryd.prog.cellsOf te = sz) (hsz : 0 < sz)
    (he : ∀ fuel cs x, DataW.trod enc Tryd.prog w base spare held fuel te cs = some x → cs.length = sz → ∃ y, q cs y) {fuel : Nat} {v : Value} {x : DataW H × List MemPlace} (h : DataW.trod enc Tryd.prog w base spare held fuel ts [v] = some x) :
    ∃ (l : List α) (A : Option Addr) (c : Nat), v = .slice A l.length c ∧ l.length ≤ 9223372036854775807 ∧ LIn (· < w.heap.size) sz (fun w ad y => ∃ cs, CellsAt w ad cs ∧ q cs y) w l A := by
  rcases DataW.trod_slice hts h with ⟨e5, _⟩ | ⟨a, len, cap, elems, rest, n, hn, e5, _, _, hlc, hcap, hel, helems, _⟩
  · simp only [List.cons.injEq, and_true] at e5
    subst e5
    exact ⟨[], none, 0, rfl, by simp, .inl rfl⟩
  · simp only [List.cons.injEq, and_true] at e5
    subst e5
    rw [hc] at helems
    have hlen9 : len ≤ 9223372036854775807 := by simp only [maxLen] at hcap; omega
    have hall : ∀ i, i < len → ∃ (y : α), ∃ cs, CellsAt w (a.add (i * sz)) cs ∧ cs.length = sz ∧ q cs y := by
      intro i hi
      have hk := helems i hi
      rw [List.getElem?_eq_getElem (by omega)] at hk
      obtain ⟨cs', k1, k2⟩ := Option.bind_eq_some_iff.1 hk
      obtain ⟨k4, k5⟩ := cells?_spec k1
      obtain ⟨y, hy⟩ := he _ _ _ k2 k4
      refine ⟨y, cs', fun j u hu => ?_, k4, hy⟩
      rw [k5 j (by have := (List.getElem?_eq_some_iff.1 hu).1; omega)]
      exact hu
    clear helems hel h
    rcases Nat.eq_zero_or_pos len with hz | hz
    · subst hz
      exact ⟨[], some a, cap, rfl, by simp, .inl rfl⟩
    · obtain ⟨t0, cs0, g0, g1, _⟩ := hall 0 hz
      have := cell?_spot (g0 0 _ (List.getElem?_eq_getElem (by omega)))
      have hsp : a.spot = none ∧ a.block < w.heap.size := by
        simpa [Addr.add] using this
      obtain ⟨b, o, sp⟩ := a
      have hs : sp = none := hsp.1
      subst hs
      obtain ⟨l, k1, k2⟩ := collectA len hall
      subst k1
      refine ⟨l, some ⟨b, o, none⟩, cap, rfl, hlen9, .inr ⟨b, o, rfl, hsp.2, fun i y hy => ?_⟩⟩
      obtain ⟨cs, m1, _, m2⟩ := k2 i y hy
      rw [Addr.add_lit] at m1
      exact ⟨cs, m1, m2⟩

theorem trod_edge {fuel : Nat} {cs : List Value} {x : DataW H × List MemPlace} (h : DataW.trod enc Tryd.prog w base spare held fuel 73 cs = some x) (hcs : cs.length = 2) : ∃ e : Ed, cs = Ed.cells e ∧ Ed.wf e := by
  obtain ⟨xs, m, rfl, _, hlen, hl, hel⟩ := DataW.trod_struct Tryd.underlying73 h
  obtain ⟨v0, v1, rfl⟩ := twoL hcs
  have hl' : xs.length = 2 := hl
  have f0 := hel 0 _ rfl
  have f1 := hel 1 _ rfl
  rw [List.getElem?_eq_getElem (by omega)] at f0 f1
  simp only [List.getElem_toArray, List.getElem_cons_zero, List.getElem_cons_succ, Tryd.cellsInt, List.drop_zero, List.drop_succ_cons, List.take_succ_cons, List.take_zero] at f0 f1
  obtain ⟨a, e0, _, w0⟩ := DataW.trod_int Tryd.underlying3 f0
  obtain ⟨b, e1, _, w1⟩ := DataW.trod_int Tryd.underlying3 f1
  simp only [List.cons.injEq, and_true] at e0 e1
  subst e0 e1
  exact ⟨(a, b), rfl, bounds_i64 w0, bounds_i64 w1⟩
theorem trod_set {fuel : Nat} {cs : List Value} {x : DataW H × List MemPlace} (h : DataW.trod enc Tryd.prog w base spare held fuel 49 cs = some x) (hcs : cs.length = 4) : ∃ s : Se, cs = Se.cells s ∧ Se.wf s := by
  obtain ⟨a, b, c, d, rfl⟩ := fourL hcs
  obtain ⟨p, q, r, s, rfl, rfl, rfl, rfl, u0, u1, u2, u3⟩ := trod_u64s h
  exact ⟨(p, q, r, s), rfl, u0, u1, u2, u3⟩

/-- A list of places of a known kind. -/
theorem LIn.plain {α : Type} {enc : α → List Value} {wf : α → Prop} {ok : Nat → Prop} {sz : Nat} {w : World} {l : List α} {A : Option Addr} (h : LIn ok sz (fun w ad y => ∃ cs, CellsAt w ad cs ∧ cs = enc y ∧ wf y) w l A) :
    LIn ok sz (fun w ad y => CellsAt w ad (enc y)) w l A ∧ ∀ y ∈ l, wf y := by
  refine ⟨LIn.move h (fun _ h => h) fun ad x _ ⟨cs, h1, h2, _⟩ => h2 ▸ h1, fun y hy => ?_⟩
  obtain ⟨i, hi, e⟩ := List.getElem_of_mem hy
  obtain ⟨_, _, _, _, cs, _, _, h3⟩ := LIn.at_ h (i := i) (x := y) (by rw [List.getElem?_eq_getElem hi, e])
  exact h3

theorem trod_edges {fuel : Nat} {v : Value} {x : DataW H × List MemPlace} (h : DataW.trod enc Tryd.prog w base spare held fuel 23 [v] = some x) :
    ∃ (l : List Ed) (A : Option Addr) (c : Nat), v = .slice A l.length c ∧ l.length ≤ 9223372036854775807 ∧ EdIn (· < w.heap.size) w l A ∧ ∀ e ∈ l, Ed.wf e := by
  obtain ⟨l, A, c, e, h1, h2⟩ := trod_list (α := Ed) (fun cs y => cs = Ed.cells y ∧ Ed.wf y) Tryd.underlying23 Tryd.cellsEdge (by decide) (fun fuel cs x h hl => trod_edge h hl) h
  exact ⟨l, A, c, e, h1, h2.plain.1, h2.plain.2⟩
theorem trod_sets {fuel : Nat} {v : Value} {x : DataW H × List MemPlace} (h : DataW.trod enc Tryd.prog w base spare held fuel 22 [v] = some x) :
    ∃ (l : List Se) (A : Option Addr) (c : Nat), v = .slice A l.length c ∧ l.length ≤ 9223372036854775807 ∧ SeIn (· < w.heap.size) w l A ∧ ∀ s ∈ l, Se.wf s := by
  obtain ⟨l, A, c, e, h1, h2⟩ := trod_list (α := Se) (fun cs y => cs = Se.cells y ∧ Se.wf y) Tryd.underlying22 Tryd.cellsSet (by decide) (fun fuel cs x h hl => trod_set h hl) h
  exact ⟨l, A, c, e, h1, h2.plain.1, h2.plain.2⟩
theorem trod_follow {fuel : Nat} {v : Value} {x : DataW H × List MemPlace} (h : DataW.trod enc Tryd.prog w base spare held fuel 24 [v] = some x) :
    ∃ (l : List (List Ed)) (A : Option Addr) (c : Nat), v = .slice A l.length c ∧ l.length ≤ 9223372036854775807 ∧ FoIn (· < w.heap.size) w l A ∧ ∀ r ∈ l, r.length ≤ 9223372036854775807 ∧ ∀ e ∈ r, Ed.wf e := by
  obtain ⟨l, A, c, e, h1, h2⟩ := trod_list (α := List Ed) (fun cs y => ∃ B c, cs = [.slice B y.length c] ∧ y.length ≤ 9223372036854775807 ∧ EdIn (· < w.heap.size) w y B ∧ ∀ e ∈ y, Ed.wf e) Tryd.underlying24 Tryd.cellsEdges (by decide) (fun fuel cs x h hl => by
    obtain ⟨v, rfl⟩ := oneL hl
    obtain ⟨l, A, c, rfl, h1, h2, h3⟩ := trod_edges h
    exact ⟨l, A, c, rfl, h1, h2, h3⟩) h
  refine ⟨l, A, c, e, h1, LIn.move h2 (fun _ h => h) fun ad x _ ⟨cs, g1, B, c, g2, _, g3, _⟩ => ⟨B, c, g2 ▸ g1, g3⟩, fun r hr => ?_⟩
  obtain ⟨i, hi, e⟩ := List.getElem_of_mem hr
  obtain ⟨_, _, _, _, cs, _, B, c, _, h3, _, h4⟩ := LIn.at_ h2 (i := i) (x := r) (by rw [List.getElem?_eq_getElem hi, e])
  exact ⟨h3, h4⟩

theorem trod_posits (fuel : Nat) (cs : List Value) (x : DataW H × List MemPlace) (h : DataW.trod enc Tryd.prog w base spare held fuel 26 cs = some x) :
    ∃ (p : Po) (a : PoA), cs = p.cells a ∧ PoIn (· < w.heap.size) w p a ∧ p.wf := by
  obtain ⟨xs, m, rfl, _, hlen, hl, hel⟩ := DataW.trod_struct Tryd.underlying26 h
  rw [Tryd.cellsPosits] at hlen
  obtain ⟨v0, v1, v2, v3, v4, rfl⟩ := fiveL hlen
  have hl' : xs.length = 5 := hl
  have f0 := hel 0 _ rfl
  have f1 := hel 1 _ rfl
  have f2 := hel 2 _ rfl
  have f3 := hel 3 _ rfl
  have f4 := hel 4 _ rfl
  rw [List.getElem?_eq_getElem (by omega)] at f0 f1 f2 f3 f4
  simp only [List.getElem_toArray, List.getElem_cons_zero, List.getElem_cons_succ, Tryd.cellsInt, Tryd.cellsSets, Tryd.cellsEdges, Tryd.cellsFollow, List.drop_zero, List.drop_succ_cons, List.take_succ_cons, List.take_zero] at f0 f1 f2 f3 f4
  obtain ⟨ls, As, cs, rfl, n0, i0, w0⟩ := trod_sets f0
  obtain ⟨nu, e1, _, w1⟩ := DataW.trod_int Tryd.underlying3 f1
  obtain ⟨lf, Af, cf, rfl, n2, i2, w2⟩ := trod_edges f2
  obtain ⟨ll, Al, cl, rfl, n3, i3, w3⟩ := trod_edges f3
  obtain ⟨lw, Aw, cw, rfl, n4, i4, w4⟩ := trod_follow f4
  simp only [List.cons.injEq, and_true] at e1
  subst e1
  exact ⟨⟨ls, nu, lf, ll, lw⟩, ⟨As, Af, Al, Aw, cs, cf, cl, cw⟩, rfl, ⟨i0, i2, i3, i4⟩, ⟨bounds_i64 w1, w0, w2, w3, w4, n0, n2, n3, n4⟩⟩
end
end Go.Proofs.YtlomjepemnlliaaDoor
