/- What a reading of positions says of their lengths. -/
import Derived.Test.YtlomjepemnlliaaDoorPoRead
import Derived.Test.YtlomjepemnlliaaDoorLong18
import Derived.SizedLaws
set_option linter.unusedSimpArgs false
set_option linter.unusedVariables false
namespace Go.Proofs.YtlomjepemnlliaaDoor
open Go.RowKit Go.ChangeShapes

theorem mem_weightsAll {H : Type} {P : Program} {e : TypeId} : ∀ {l : List (DataW H)} {d : DataW H}, d ∈ l → ∀ n ∈ d.weights P e, n ∈ DataW.weightsAll P e l
  | d :: l, d', h, n, hn => by
    rcases List.mem_cons.1 h with e1 | h
    · subst e1
      simp only [DataW.weightsAll, List.mem_append]
      exact .inl hn
    · simp only [DataW.weightsAll, List.mem_append]
      exact .inr (mem_weightsAll h n hn)

section
variable {H : Type} {enc : TypeId × Value → H} {w : World} {base : Nat} {spare : Nat → Bool} {held : Bool}

theorem trod_listW {α : Type} {te ts : TypeId} {sz : Nat} (q : List Value → DataW H → α → Prop) (hts : Tryd.prog.underlying ts = some (.slice te)) (hc : Tryd.prog.cellsOf te = sz) (hsz : 0 < sz) (hby : 0 < Tryd.prog.bytesOf te)
    (he : ∀ fuel cs x, DataW.trod enc Tryd.prog w base spare held fuel te cs = some x → cs.length = sz → ∃ y, q cs x.1 y) {fuel : Nat} {v : Value} {x : DataW H × List MemPlace} (h : DataW.trod enc Tryd.prog w base spare held fuel ts [v] = some x) :
    ∃ (l : List α) (A : Option Addr) (c : Nat), v = .slice A l.length c ∧ l.length ≤ 9223372036854775807 ∧ LIn (· < w.heap.size) sz (fun w ad y => ∃ cs d, CellsAt w ad cs ∧ q cs d y) w l A ∧
      ∀ B, (∀ n ∈ x.1.weights Tryd.prog ts, n ≤ B) → l.length ≤ B ∧ ∀ y ∈ l, ∃ cs d, q cs d y ∧ ∀ n ∈ d.weights Tryd.prog te, n ≤ B := by
  rcases DataW.trod_slice hts h with ⟨e5, _⟩ | ⟨a, len, cap, elems, rest, n, hn, e5, hx, _, hlc, hcap, hel, helems, _⟩
  · simp only [List.cons.injEq, and_true] at e5
    subst e5
    exact ⟨[], none, 0, rfl, by simp, .inl rfl, fun B hB => ⟨Nat.zero_le _, fun y hy => by cases hy⟩⟩
  · simp only [List.cons.injEq, and_true] at e5
    subst e5
    rw [hc] at helems
    have hlen9 : len ≤ 9223372036854775807 := by simp only [maxLen] at hcap; omega
    have hwt : ∀ B, (∀ n ∈ x.1.weights Tryd.prog ts, n ≤ B) → len ≤ B ∧ ∀ d ∈ elems, ∀ n ∈ d.1.weights Tryd.prog te, n ≤ B := by
      intro B hB
      rw [hx] at hB
      simp only [DataW.weights, hts, List.mem_cons, List.mem_append, List.length_map] at hB
      refine ⟨?_, fun d hd n hn => hB n (.inr (.inl (mem_weightsAll (List.mem_map_of_mem hd) n hn)))⟩
      have h1 := hB _ (.inl rfl)
      have h2 : elems.length + rest.length ≤ (elems.length + rest.length) * Tryd.prog.bytesOf te := Nat.le_mul_of_pos_right _ hby
      omega
    have hall : ∀ i, i < len → ∃ (y : α), ∃ cs d, CellsAt w (a.add (i * sz)) cs ∧ cs.length = sz ∧ q cs d y ∧ ∃ z ∈ elems, z.1 = d := by
      intro i hi
      have hk := helems i hi
      rw [List.getElem?_eq_getElem (by omega)] at hk
      obtain ⟨cs', k1, k2⟩ := Option.bind_eq_some_iff.1 hk
      obtain ⟨k4, k5⟩ := cells?_spec k1
      obtain ⟨y, hy⟩ := he _ _ _ k2 k4
      refine ⟨y, cs', _, fun j u hu => ?_, k4, hy, _, List.getElem_mem _, rfl⟩
      rw [k5 j (by have := (List.getElem?_eq_some_iff.1 hu).1; omega)]
      exact hu
    clear helems hel h
    rcases Nat.eq_zero_or_pos len with hz | hz
    · subst hz
      exact ⟨[], some a, cap, rfl, by simp, .inl rfl, fun B hB => ⟨Nat.zero_le _, fun y hy => by cases hy⟩⟩
    · obtain ⟨t0, cs0, d0, g0, g1, _⟩ := hall 0 hz
      have := cell?_spot (g0 0 _ (List.getElem?_eq_getElem (by omega)))
      have hsp : a.spot = none ∧ a.block < w.heap.size := by
        simpa [Addr.add] using this
      obtain ⟨b, o, sp⟩ := a
      have hs : sp = none := hsp.1
      subst hs
      obtain ⟨l, k1, k2⟩ := collectA len hall
      subst k1
      refine ⟨l, some ⟨b, o, none⟩, cap, rfl, hlen9, .inr ⟨b, o, rfl, hsp.2, fun i y hy => ?_⟩, fun B hB => ⟨(hwt B hB).1, fun y hy => ?_⟩⟩
      · obtain ⟨cs, d, m1, _, m2, _⟩ := k2 i y hy
        rw [Addr.add_lit] at m1
        exact ⟨cs, d, m1, m2⟩
      · obtain ⟨i, hi, e⟩ := List.getElem_of_mem hy
        obtain ⟨cs, d, _, _, m2, z, hz1, rfl⟩ := k2 i y (by rw [List.getElem?_eq_getElem hi, e])
        exact ⟨cs, z.1, m2, (hwt B hB).2 z hz1⟩

theorem trod_edgesW {fuel : Nat} {v : Value} {x : DataW H × List MemPlace} (h : DataW.trod enc Tryd.prog w base spare held fuel 23 [v] = some x) :
    ∃ (l : List Ed) (A : Option Addr) (c : Nat), v = .slice A l.length c ∧ l.length ≤ 9223372036854775807 ∧ EdIn (· < w.heap.size) w l A ∧ (∀ e ∈ l, Ed.wf e) ∧ ∀ B, (∀ n ∈ x.1.weights Tryd.prog 23, n ≤ B) → l.length ≤ B := by
  obtain ⟨l, A, c, e, h1, h2, h3⟩ := trod_listW (α := Ed) (fun cs _ y => cs = Ed.cells y ∧ Ed.wf y) Tryd.underlying23 Tryd.cellsEdge (by decide) (of_decide_eq_true (by kernel_rfl)) (fun fuel cs x h hl => trod_edge h hl) h
  refine ⟨l, A, c, e, h1, LIn.move h2 (fun _ h => h) fun ad x _ ⟨cs, d, g1, g2, _⟩ => g2 ▸ g1, fun e he => ?_, fun B hB => (h3 B hB).1⟩
  obtain ⟨i, hi, e2⟩ := List.getElem_of_mem he
  obtain ⟨_, _, _, _, cs, d, _, _, h5⟩ := LIn.at_ h2 (i := i) (x := e) (by rw [List.getElem?_eq_getElem hi, e2])
  exact h5
theorem trod_followW {fuel : Nat} {v : Value} {x : DataW H × List MemPlace} (h : DataW.trod enc Tryd.prog w base spare held fuel 24 [v] = some x) :
    ∃ (l : List (List Ed)) (A : Option Addr) (c : Nat), v = .slice A l.length c ∧ l.length ≤ 9223372036854775807 ∧ FoIn (· < w.heap.size) w l A ∧ (∀ r ∈ l, r.length ≤ 9223372036854775807 ∧ ∀ e ∈ r, Ed.wf e) ∧
      ∀ B, (∀ n ∈ x.1.weights Tryd.prog 24, n ≤ B) → l.length ≤ B ∧ ∀ r ∈ l, r.length ≤ B := by
  obtain ⟨l, A, c, e, h1, h2, h9⟩ := trod_listW (α := List Ed) (fun cs d y => ∃ B c, cs = [.slice B y.length c] ∧ y.length ≤ 9223372036854775807 ∧ EdIn (· < w.heap.size) w y B ∧ (∀ e ∈ y, Ed.wf e) ∧ ∀ B, (∀ n ∈ d.weights Tryd.prog 23, n ≤ B) → y.length ≤ B) Tryd.underlying24 Tryd.cellsEdges (by decide) (of_decide_eq_true (by kernel_rfl)) (fun fuel cs x h hl => by
    obtain ⟨v, rfl⟩ := oneL hl
    obtain ⟨l, A, c, rfl, h1, h2, h3, h4⟩ := trod_edgesW h
    exact ⟨l, A, c, rfl, h1, h2, h3, h4⟩) h
  refine ⟨l, A, c, e, h1, LIn.move h2 (fun _ h => h) fun ad x _ ⟨cs, d, g1, B, c, g2, _, g3, _⟩ => ⟨B, c, g2 ▸ g1, g3⟩, fun r hr => ?_, fun B hB => ⟨(h9 B hB).1, fun r hr => ?_⟩⟩
  · obtain ⟨i, hi, e⟩ := List.getElem_of_mem hr
    obtain ⟨_, _, _, _, cs, d, _, B, c, _, h3, _, h4, _⟩ := LIn.at_ h2 (i := i) (x := r) (by rw [List.getElem?_eq_getElem hi, e])
    exact ⟨h3, h4⟩
  · obtain ⟨cs, d, ⟨B', c', _, _, _, _, h5⟩, h6⟩ := (h9 B hB).2 r hr
    exact h5 B h6

theorem trod_positsW (fuel : Nat) (cs : List Value) (x : DataW H × List MemPlace) (h : DataW.trod enc Tryd.prog w base spare held fuel 26 cs = some x) :
    ∃ (p : Po) (a : PoA), cs = p.cells a ∧ PoIn (· < w.heap.size) w p a ∧ p.wf ∧ ((∀ n ∈ x.1.weights Tryd.prog 26, n ≤ reachBytes) → p.Small) := by
  obtain ⟨xs, m, rfl, hx, hlen, hl, hel⟩ := DataW.trod_struct Tryd.underlying26 h
  rw [Tryd.cellsPosits] at hlen
  obtain ⟨v0, v1, v2, v3, v4, rfl⟩ := fiveL hlen
  have hl' : xs.length = 5 := hl
  obtain ⟨x0, x1, x2, x3, x4, rfl⟩ := fiveL hl'
  have f0 := hel 0 _ rfl
  have f1 := hel 1 _ rfl
  have f2 := hel 2 _ rfl
  have f3 := hel 3 _ rfl
  have f4 := hel 4 _ rfl
  simp only [List.getElem?_cons_zero, List.getElem?_cons_succ, List.getElem_toArray, List.getElem_cons_zero, List.getElem_cons_succ, Tryd.cellsInt, Tryd.cellsSets, Tryd.cellsEdges, Tryd.cellsFollow, List.drop_zero, List.drop_succ_cons, List.take_succ_cons, List.take_zero] at f0 f1 f2 f3 f4
  obtain ⟨ls, As, cs, rfl, n0, i0, w0⟩ := trod_sets f0
  obtain ⟨nu, e1, _, w1⟩ := DataW.trod_int Tryd.underlying3 f1
  obtain ⟨lf, Af, cf, rfl, n2, i2, w2⟩ := trod_edges f2
  obtain ⟨ll, Al, cl, rfl, n3, i3, w3⟩ := trod_edges f3
  obtain ⟨lw, Aw, cw, rfl, n4, i4, w4, w5⟩ := trod_followW f4
  simp only [List.cons.injEq, and_true] at e1
  subst e1
  refine ⟨⟨ls, nu, lf, ll, lw⟩, ⟨As, Af, Al, Aw, cs, cf, cl, cw⟩, rfl, ⟨i0, i2, i3, i4⟩, ⟨bounds_i64 w1, w0, w2, w3, w4, n0, n2, n3, n4⟩, fun hB => ?_⟩
  have hr : reachBytes ≤ 140737488355328 := by decide
  have h7 := w5 reachBytes (fun n hn => hB n (by
    rw [hx]
    simp only [DataW.weights, Tryd.underlying26, List.map_cons, List.map_nil]
    exact DataW.weights_mem_each (j := 4) (t := 24) (d := x4.1) rfl rfl n hn))
  exact ⟨Nat.le_trans h7.1 hr, fun r hr2 => Nat.le_trans (h7.2 r hr2) hr⟩
end
end Go.Proofs.YtlomjepemnlliaaDoor
