/- WayMap: Maps of ways by position (map[int]int): what they hold, how they are read, written, gone over in whatever order.
Join17: posit's join, edges: a way more at a position; a map's edges, rising.
Link17: posit's link: from all lasts to all firsts.
PosDefs: What posit lays for a tree: parts, positions, ways, in plain Lean. -/
import Derived.Test.YtbbhobojghmkpaaDoorEdges17
import Derived.Maps.RangeWalk
import Derived.Test.YtbbhobojghmkpaaDoorOf17
set_option linter.unusedSimpArgs false
set_option linter.unusedVariables false
set_option linter.unnecessarySimpa false

/-! ## WayMap -/
namespace Go.Proofs.YtbbhobojghmkpaaDoor
open Go.RowKit Go.Maps

/-- How many of the first positions have ways. -/
def cntN : Nat → (Nat → Nat) → Nat
  | 0, _ => 0
  | n + 1, f => cntN n f + if f n = 0 then 0 else 1
theorem edgesOf_cnt (f : Nat → Nat) : ∀ n, (edgesOf n f).length = cntN n f
  | 0 => rfl
  | n + 1 => by
    rw [edgesOf_succ, List.length_append, edgesOf_cnt f n, cntN]
    by_cases h : f n = 0 <;> simp [h]
theorem cntN_le (f : Nat → Nat) : ∀ n, cntN n f ≤ n
  | 0 => Nat.le_refl _
  | n + 1 => by
    have := cntN_le f n
    rw [cntN]
    split <;> omega
theorem cntN_congr {f g : Nat → Nat} : ∀ n, (∀ q, q < n → f q = g q) → cntN n f = cntN n g
  | 0, _ => rfl
  | n + 1, h => by rw [cntN, cntN, cntN_congr n (fun q hq => h q (by omega)), h n (by omega)]
theorem cntN_mono (f : Nat → Nat) : ∀ {m n : Nat}, m ≤ n → cntN m f ≤ cntN n f
  | m, 0, h => by obtain rfl : m = 0 := by omega
                  exact Nat.le_refl _
  | m, n + 1, h => by
    rcases Nat.lt_or_ge n m with h1 | h1
    · obtain rfl : m = n + 1 := by omega
      exact Nat.le_refl _
    · have := cntN_mono f h1
      rw [cntN]
      omega
theorem cntN_done (f : Nat → Nat) : ∀ {m n : Nat}, m ≤ n → cntN m f = cntN n f → ∀ q, m ≤ q → q < n → f q = 0
  | m, 0, h, _, q, h1, h2 => by omega
  | m, n + 1, h, he, q, h1, h2 => by
    rcases Nat.lt_or_ge n m with h3 | h3
    · omega
    · have h4 := cntN_mono f h3
      rw [cntN] at he
      by_cases h5 : f n = 0
      · rw [if_pos h5] at he
        rcases Nat.lt_or_ge q n with h6 | h6
        · exact cntN_done f h3 (by omega) q h1 h6
        · obtain rfl : q = n := by omega
          exact h5
      · rw [if_neg h5] at he
        omega
theorem cntN_put {f : Nat → Nat} {q v : Nat} (hv : v ≠ 0) : ∀ n, q < n → cntN n (fun j => if j = q then v else f j) = if f q = 0 then cntN n f + 1 else cntN n f
  | 0, h => by omega
  | n + 1, h => by
    rw [cntN, cntN]
    by_cases hq : n = q
    · subst hq
      rw [cntN_congr n (f := fun j => if j = n then v else f j) (g := f) (fun i hi => if_neg (by omega)), if_pos rfl, if_neg hv]
      by_cases h0 : f n = 0 <;> simp [h0]
    · rw [cntN_put hv n (by omega), if_neg hq]
      by_cases h0 : f q = 0 <;> simp [h0] <;> omega

/-- What a map of ways reads as. -/
structure Way (D : DataW Unit) (N : Nat) (f : Nat → Nat) : Prop where
  at_ : ∀ z : Int, D.atKey (.int .i64 z) (.lit (.int .i64 0)) = .lit (.int .i64 (if 0 ≤ z then ((f z.toNat : Nat) : Int) else 0))
  has : ∀ z : Int, Maps.has D (.int .i64 z) = decide (0 ≤ z ∧ f z.toNat ≠ 0)
  small : ∀ q, f q < 16
  out : ∀ q, N ≤ q → f q = 0
  size : Maps.size D = cntN N f
theorem Way.nil (N : Nat) : Way (.map []) N (fun _ => 0) :=
  ⟨fun z => by simp [DataW.atKey], fun z => by simp [Maps.has], fun q => by decide, fun _ _ => rfl, by
    have : cntN N (fun _ => 0) = 0 := by
      induction N with
      | zero => rfl
      | succ n ih => rw [cntN, ih]; rfl
    rw [this]; rfl⟩
theorem Way.put {D : DataW Unit} {N : Nat} {f : Nat → Nat} (h : Way D N f) (ht : Tidy D) {q v : Nat} (hq : q < N) (hv : v < 16) (h0 : v ≠ 0) : Way (D.put (.int .i64 (q : Int)) (.lit (.int .i64 (v : Int)))) N (fun j => if j = q then v else f j) := by
  have hne : ∀ z : Int, z ≠ q → Lit.int .i64 z ≠ Lit.int .i64 (q : Int) := fun z hz e => by injection e with _ e; exact hz e
  refine ⟨fun z => ?_, fun z => ?_, fun j => ?_, fun j hj => ?_, ?_⟩
  · by_cases hz : z = q
    · subst hz
      rw [atKey_put_same ht.isMap (show WideAt.IsKeyLit (.int .i64 (q : Int)) from trivial)]
      simp
    · rw [atKey_put_other (hne z hz), h.at_]
      by_cases hp : 0 ≤ z
      · rw [if_pos hp, if_pos hp, if_neg (by omega)]
      · rw [if_neg hp, if_neg hp]
  · by_cases hz : z = q
    · subst hz
      rw [has_put_same ht.isMap (show WideAt.IsKeyLit (.int .i64 (q : Int)) from trivial)]
      simp [h0]
    · rw [has_put_other (hne z hz), h.has]
      by_cases hp : 0 ≤ z
      · rw [if_neg (by omega)]
      · simp [hp]
  · show (if j = q then v else f j) < 16
    split
    · exact hv
    · exact h.small j
  · show (if j = q then v else f j) = 0
    rw [if_neg (by omega)]
    exact h.out j hj
  · rw [size_put ht, h.has, cntN_put h0 N hq, h.size]
    by_cases hz : f q = 0 <;> simp [hz]

/-- Block b is a map of ways. -/
def WMap (w : World) (b N : Nat) (f : Nat → Nat) : Prop := ∃ D : DataW Unit, w.ownsMap Tryd.prog 3 (plainElem Tryd.prog 3) b (Maps.size D) D ∧ Way D N f
theorem ownsMap_exact {w : World} {b n : Nat} {D : DataW Unit} (h : w.ownsMap Tryd.prog 3 (plainElem Tryd.prog 3) b n D) : w.ownsMap Tryd.prog 3 (plainElem Tryd.prog 3) b (Maps.size D) D := by
  obtain ⟨es, clock, hb, F, hs, rfl⟩ := h
  exact ⟨es, clock, hb, F, by rw [Maps.size_eq, length_read]; exact Nat.le_refl _, rfl⟩
section
variable {w w' : World} {b r N : Nat} {f : Nat → Nat}
theorem WMap.made (w : World) (N : Nat) : WMap (w.alloc (.map #[] 0)) w.heap.size N (fun _ => 0) := ⟨_, World.ownsMap_made _ _ _ _, Way.nil N⟩
theorem WMap.lt (h : WMap w b N f) : b < w.heap.size := by obtain ⟨D, h1, _⟩ := h; exact h1.lt
theorem WMap.kept {row : Option Nat} (h : WMap w b N f) (hg : w.grownBy w' row) (hne : some b ≠ row) : WMap w' b N f := by obtain ⟨D, h1, h2⟩ := h; exact ⟨D, h1.kept hg hne, h2⟩
theorem WMap.same {ok : Nat → Prop} (h : WMap w b N f) (hs : Same ok w w') (hk : ok b) : WMap w' b N f := by
  obtain ⟨D, ⟨es, clock, h3, F, hs2, hD⟩, h2⟩ := h
  exact ⟨D, ⟨es, clock, (hs b hk).trans h3, F, hs2, hD⟩, h2⟩
theorem WMap.next (h : WMap w b N f) (hb : Below w.heap.size w w') : WMap w' b N f := h.same (same_of_below hb) h.lt
theorem WMap.congr {g : Nat → Nat} (h : WMap w b N f) (e : ∀ q, f q = g q) : WMap w b N g := by
  obtain rfl : f = g := funext e
  exact h
theorem WMap.small (h : WMap w b N f) (q : Nat) : f q < 16 := by obtain ⟨D, _, h2⟩ := h; exact h2.small q
theorem WMap.out (h : WMap w b N f) (q : Nat) (hq : N ≤ q) : f q = 0 := by obtain ⟨D, _, h2⟩ := h; exact h2.out q hq
theorem WMap.obj (h : WMap w b N f) : ∃ es clock, w.heap[b]? = some (.map es clock) := by obtain ⟨D, ⟨es, clock, h3, _⟩, _⟩ := h; exact ⟨es, clock, h3⟩
theorem WMap.ne_blk (h : WMap w b N f) {g : Nat} {t : TypeId} {cs : Array Value} (hb : Blk w g t cs) : g ≠ b := fun e => by
  subst e
  obtain ⟨es, clock, h1⟩ := h.obj
  rw [show w.heap[g]? = _ from hb] at h1
  cases h1

/-- A map of ways is gone over by the iterator in block r: L tells which positions are still to come. -/
def WRange (w : World) (b r N : Nat) (f : Nat → Nat) (L : Nat → Bool) (cnt : Nat) : Prop := ∃ (D : DataW Unit) (left : Lit → Bool), w.ranges Tryd.prog 3 (plainElem Tryd.prog 3) b r (Maps.size D) D left cnt ∧ Way D N f ∧ ∀ q : Nat, L q = left (.int .i64 (q : Int))
variable {L : Nat → Bool} {cnt : Nat}
theorem WRange.owns (h : WRange w b r N f L cnt) : WMap w b N f := by obtain ⟨D, left, h1, h2, _⟩ := h; exact ⟨D, h1.owns, h2⟩
theorem WRange.left_eq (h : WRange w b r N f L cnt) : w.rangeLeft b r = cnt := by obtain ⟨D, left, h1, _⟩ := h; exact h1.left_eq
theorem WRange.ne (h : WRange w b r N f L cnt) : r ≠ b := by obtain ⟨D, left, h1, _⟩ := h; exact h1.ne
theorem WRange.lt (h : WRange w b r N f L cnt) : r < w.heap.size := by obtain ⟨D, left, h1, _⟩ := h; exact h1.lt
theorem WRange.kept {row : Option Nat} (h : WRange w b r N f L cnt) (hg : w.grownBy w' row) (hb : some b ≠ row) (hr : some r ≠ row) : WRange w' b r N f L cnt := by obtain ⟨D, left, h1, h2⟩ := h; exact ⟨D, left, h1.kept hg hb hr, h2⟩
theorem WRange.same {ok : Nat → Prop} (h : WRange w b r N f L cnt) (hs : Same ok w w') (hb : ok b) (hr : ok r) : WRange w' b r N f L cnt := by
  obtain ⟨D, left, ⟨es, clock, since, seen, c0, a1, a2, a3, a4, a5, a6⟩, h2⟩ := h
  exact ⟨D, left, ⟨es, clock, since, seen, c0, (hs b hb).trans a1, a2, a3, a4, (hs r hr).trans a5, a6⟩, h2⟩
theorem WRange.ne_blk (h : WRange w b r N f L cnt) {g : Nat} {t : TypeId} {cs : Array Value} (hb : Blk w g t cs) : g ≠ r := fun e => by
  subst e
  obtain ⟨D, left, ⟨es, clock, since, seen, c0, _, _, _, _, h1, _⟩, _⟩ := h
  rw [show w.heap[g]? = _ from hb] at h1
  cases h1
theorem WRange.ne_map (h : WRange w b r N f L cnt) {g M : Nat} {k : Nat → Nat} (hb : WMap w g M k) : g ≠ r := fun e => by
  subst e
  obtain ⟨D, left, ⟨es, clock, since, seen, c0, _, _, _, _, h1, _⟩, _⟩ := h
  obtain ⟨es2, clock2, h2⟩ := hb.obj
  rw [h2] at h1
  cases h1
end
section
variable {w : World} {ops : Array Oper} {rest : List Oper} {o : Oper} {a : Act} {Q : Exit → Act → World → Prop} {N : Nat} {f : Nat → Nat}
theorem wpList_way_get (hg : o.guard = none) (m x : Operand) (hop : o.op = Op.lookup 114 m x false) (b q : Nat) (hm : a.eval m = .map (some b)) (hx : a.eval x = .int .i64 (q : Int)) (hs : WMap w b N f) (hz : (q : Int) ≤ 9223372036854775807)
    (hK : wpList Tryd.prog ops Q rest (a.put o.dst (.int .i64 ((f q : Nat) : Int))) w) : wpList Tryd.prog ops Q (o :: rest) a w := by
  obtain ⟨D, h1, h2⟩ := hs
  refine wpList_lookup_own_int _ hg m x 114 hop 3 3 .i64 lawInt Tryd.underlying114 Tryd.underlying3 (zeroInt _) b _ D hm h1 _ _ hx (keyInt ⟨by omega, hz⟩) fun c h3 h4 => ?_
  have := (h2.at_ q).symm.trans h3
  rw [if_pos (by omega), Int.toNat_natCast] at this
  injection this with this
  injection this with _ this
  rw [← this]
  exact hK
theorem wpList_way_put (hg : o.guard = none) (m x v : Operand) (hop : o.op = Op.mapUpdate 114 m x v) (b q u : Nat) (hm : a.eval m = .map (some b)) (hx : a.eval x = .int .i64 (q : Int)) (hv : a.eval v = .int .i64 (u : Int)) (hs : WMap w b N f) (hN : N ≤ 1000000) (hq : q < N) (hu : u < 16) (h0 : u ≠ 0)
    (hK : ∀ w', WMap w' b N (fun j => if j = q then u else f j) → w.grownBy w' (some b) → wpList Tryd.prog ops Q rest (a.put o.dst undef) w') : wpList Tryd.prog ops Q (o :: rest) a w := by
  obtain ⟨D, h1, h2⟩ := hs
  have hsz := h2.size
  have hle := cntN_le f N
  refine wpList_mapUpdate_own _ hg m x v 114 hop 3 3 lawInt Tryd.underlying114 _ b _ D hm h1 (by unfold maxLen; omega) _ _ _ hx hv (keyInt ⟨by omega, by omega⟩) _ [] (plainElem_int Tryd.underlying3 (wfInt (by omega))) fun w' h3 h4 => hK w' ⟨_, ownsMap_exact h3, h2.put (h1.tidy lawInt) hq hu h0⟩ h4
theorem wpList_way_len (hg : o.guard = none) (m : Operand) (hop : o.op = Op.call { callee := Callee.builtin Builtin.len, args := #[m], argTypes := #[114] }) (b : Nat) (hm : a.eval m = .map (some b)) (hs : WMap w b N f)
    (hK : wpList Tryd.prog ops Q rest (a.put o.dst (.int .i64 ((cntN N f : Nat) : Int))) w) : wpList Tryd.prog ops Q (o :: rest) a w := by
  obtain ⟨D, h1, h2⟩ := hs
  refine wpList_len_own w hg m 114 hop 3 3 Tryd.underlying114 _ b _ D hm h1 ?_
  rw [h2.size]
  exact hK
theorem wpList_way_range (hg : o.guard = none) (m : Operand) (hop : o.op = Op.range 114 m) (b : Nat) (hm : a.eval m = .map (some b)) (hs : WMap w b N f)
    (hK : ∀ w' cnt, WRange w' b w.heap.size N f (fun q => decide (f q ≠ 0)) cnt → w.grownBy w' none → w'.heap.size = w.heap.size + 1 → wpList Tryd.prog ops Q rest (a.put o.dst (.pointer (some ⟨w.heap.size, 0, none⟩))) w') : wpList Tryd.prog ops Q (o :: rest) a w := by
  obtain ⟨D, h1, h2⟩ := hs
  refine wpList_range_own w hg m 114 hop 3 3 lawInt Tryd.underlying114 _ b _ D hm h1 fun w' h3 h4 h5 => hK w' _ ⟨D, _, h3, h2, fun q => ?_⟩ h4 h5
  rw [h2.has, Int.toNat_natCast]
  simp
theorem wpList_way_next (hg : o.guard = none) (it : Operand) (hop : o.op = Op.next it false) (b r : Nat) {L : Nat → Bool} {cnt : Nat} (hit : a.eval it = .pointer (some ⟨r, 0, none⟩)) (h : WRange w b r N f L cnt)
    (hDone : (∀ q, L q = false) → wpList Tryd.prog ops Q rest (a.put o.dst (.tuple #[.bool false])) w)
    (hMore : ∀ (q : Nat) (w' : World) (cnt' : Nat), q < N → L q = true → f q ≠ 0 → WRange w' b r N f (fun j => L j && !(j == q)) cnt' → cnt' < cnt → w.grownBy w' (some r) → w'.heap.size = w.heap.size →
      (Instr.entry (.pointer (some ⟨r, 0, none⟩))).run Tryd.prog w' = .ok (.tuple #[.int .i64 (q : Int), .int .i64 ((f q : Nat) : Int)]) w' → wpList Tryd.prog ops Q rest (a.put o.dst (.tuple #[.bool true, .int .i64 (q : Int), .int .i64 ((f q : Nat) : Int)])) w') : wpList Tryd.prog ops Q (o :: rest) a w := by
  obtain ⟨D, left, h1, h2, hL⟩ := h
  refine wpList_next_ranges_ii w hg it hop 3 3 .i64 .i64 lawInt Tryd.underlying3 Tryd.underlying3 b r _ D left cnt hit h1 (fun _ hl => hDone fun q => by rw [hL]; exact hl _) fun x c w' cnt' hwx hwc hlx hat hrg hlt hgr hsz hen => ?_
  have hh := h2.has x
  rw [Maps.has_true_of_atKey hat] at hh
  obtain ⟨hx0, hfx⟩ := of_decide_eq_true hh.symm
  obtain ⟨q, rfl⟩ : ∃ q : Nat, x = q := ⟨x.toNat, by omega⟩
  rw [Int.toNat_natCast] at hfx
  have hc := (h2.at_ q).symm.trans (hat _)
  rw [if_pos (by omega), Int.toNat_natCast] at hc
  injection hc with hc
  injection hc with _ hc
  subst hc
  have hqN : q < N := by
    rcases Nat.lt_or_ge q N with h9 | h9
    · exact h9
    · exact absurd (h2.out q h9) hfx
  refine hMore q w' cnt' hqN ((hL q).trans hlx) hfx ⟨D, _, hrg, h2, fun j => ?_⟩ hlt hgr hsz hen
  show (L j && !(j == q)) = _
  rw [hL j]
  congr 1
  by_cases hj : j = q
  · subst hj
    rw [WideAt.sameKey_self (show WideAt.IsKeyLit (.int .i64 (j : Int)) from trivial)]
    simp
  · rw [Maps.sameKey_ne (fun e => by injection e with _ e; omega)]
    simp [hj]
end
end Go.Proofs.YtbbhobojghmkpaaDoor

/-! ## Join17 -/
namespace Go.Proofs.YtbbhobojghmkpaaDoor
open Go.RowKit Go.Maps

/-- Ways were joined at a position. -/
def Joined (b N : Nat) (f : Nat → Nat) (q u : Nat) (w : World) (e : Ending) (w' : World) : Prop := e = .returned (.tuple #[]) ∧ WMap w' b N (fun j => if j = q then f j ||| u else f j) ∧ w.grownBy w' (some b)

theorem grownBy_self (w : World) (row : Option Nat) : w.grownBy w row := ⟨rfl, rfl, rfl, Nat.le_refl _, fun _ _ _ => rfl⟩

set_option maxRecDepth 100000 in
theorem join17_any (b N q u : Nat) (f : Nat → Nat) (w : World) (hN : N ≤ 900000) (hq : q < N) (hu : u < 16) (hm : WMap w b N f) :
    Calls Tryd.prog 114 #[.map (some b), .int .i64 (q : Int), .int .i64 (u : Int)] w (Joined b N f q u w) := by
  have hf := hm.small q
  have hor := orI hf hu
  have horL := orL hf hu
  have HM := hide hm
  clear hm
  go_enter Tryd.func114, Tryd.ntmps114
  by_cases h0 : u = 0
  · have g0 : ((u : Int) != 0) = false := by rw [h0]; rfl
    have H0 := hide h0
    clear h0
    go_wp2_with fail
    go_end0
    exact ⟨rfl, HM.out.congr fun j => by rw [H0.out, Nat.or_zero, ite_self], grownBy_self w _⟩
  · have g0 : ((u : Int) != 0) = true := bne_iff_ne.2 (by omega)
    have hne : f q ||| u ≠ 0 := fun e => h0 (by
      apply Nat.eq_of_testBit_eq
      intro i
      have := congrArg (fun n => n.testBit i) e
      simp only [Nat.testBit_or, Nat.zero_testBit, Bool.or_eq_false_iff] at this
      rw [this.2, Nat.zero_testBit])
    have HNE := hide hne
    clear h0 hne
    go_wp2_with (first
      | (at_lookup; refine wpList_way_get rfl _ _ rfl b q rfl rfl HM.out (by omega) ?_)
      | (at_mapUpdate; refine wpList_way_put rfl _ _ _ rfl b q (f q ||| u) rfl rfl (by first | rfl | (simp only [hor])) HM.out (by omega) hq horL HNE.out ?_; intro w2 hm2 hg2))
    have HF := hide (And.intro hm2 hg2)
    clear hm2 hg2
    try simp only [Act.put, List.setIfInBounds_toArray, List.set_cons_succ, List.set_cons_zero]
    go_wp2_with fail
    go_end0
    refine ⟨rfl, HF.out.1.congr fun j => ?_, HF.out.2⟩
    by_cases h : j = q
    · subst h; simp
    · simp [h]

theorem WMap.len {w : World} {b N : Nat} {f : Nat → Nat} (h : WMap w b N f) (ty : TypeId) : (Builtin.len_ #[114] ty #[.map (some b)]).run Tryd.prog w = .ok (.int .i64 ((cntN N f : Nat) : Int)) w := by
  obtain ⟨D, h1, h2⟩ := h
  rw [← h2.size]
  exact h1.len Tryd.underlying114 ty
theorem edgesOf_done (f : Nat → Nat) (k : Nat) : ∀ d, (∀ q, k ≤ q → q < k + d → f q = 0) → edgesOf (k + d) f = edgesOf k f
  | 0, _ => rfl
  | d + 1, h => by
    rw [← Nat.add_assoc, edgesOf_succ, if_pos (h (k + d) (by omega) (by omega)), List.append_nil]
    exact edgesOf_done f k d (fun q h1 h2 => h q h1 (by omega))

set_option maxRecDepth 100000 in
set_option maxHeartbeats 2000000 in
theorem posEdges_any (b N : Nat) (f : Nat → Nat) (w : World) (hN : N ≤ 900000) (hm : WMap w b N f) :
    Calls Tryd.prog 90 #[.map (some b), .int .i64 (N : Int)] w (EdgesIs (edgesOf N f) w) := by
  have HM := hide hm
  clear hm
  go_enter Tryd.func90, Tryd.ntmps90
  go_wp2_with fail
  go_loopw [5, 6] (fun lv kv wr => ∃ k : Nat, kv = .int .i64 k ∧ k ≤ N ∧ OwnEd w.heap.size wr lv (edgesOf k f) ∧ Below w.heap.size w wr) (fun _ kv _ => N - (intOf kv).toNat)
  case atStart => exact ⟨0, rfl, by omega, OwnEd.nil _ _, Below.refl _ _⟩
  case round =>
    obtain ⟨k, rfl, hk, hown, hbel⟩ := hrel
    obtain ⟨A, c, rfl, hed⟩ := hown.form
    have HM2 := hide (HM.out.next hbel)
    have hln := fun ty => HM2.out.len ty
    have hec := edgesOf_cnt f k
    have hecl := edgesOf_len k f
    clear hed
    by_cases hlt : k < N
    case neg =>
      have g1 : decide ((k : Int) < (N : Int)) = false := decide_eq_false (by omega)
      obtain rfl : k = N := by omega
      have HH := hide (And.intro hown hbel)
      clear hown hbel hec
      go_wp2_with fail
      go_ret
      exact ⟨_, rfl, HH.out⟩
    have g1 : decide ((k : Int) < (N : Int)) = true := decide_eq_true (by omega)
    by_cases hcl : (edgesOf k f).length < cntN N f
    case neg =>
      have g2 : decide (((edgesOf k f).length : Int) < ((cntN N f : Nat) : Int)) = false := decide_eq_false (by omega)
      have hdone : edgesOf N f = edgesOf k f := by
        have h1 := cntN_mono f (Nat.le_of_lt hlt)
        have h2 := cntN_done f (Nat.le_of_lt hlt) (by omega)
        have h3 := edgesOf_done f k (N - k) (fun q h4 h5 => h2 q h4 (by omega))
        rwa [show k + (N - k) = N by omega] at h3
      rw [← hdone] at hown
      have HH := hide (And.intro hown hbel)
      have HD := hide hdone
      clear hown hbel hec hdone
      go_wp2_with fail
      go_ret
      exact ⟨_, rfl, by rw [← HD.out]; exact HH.out.1, HH.out.2⟩
    have g2 : decide (((edgesOf k f).length : Int) < ((cntN N f : Nat) : Int)) = true := decide_eq_true (by omega)
    clear hec
    by_cases h0 : f k = 0
    · have g3 : (((f k : Nat) : Int) != 0) = false := by rw [h0]; rfl
      have HH := hide (And.intro hown (And.intro hbel h0))
      clear hown hbel h0
      go_wp2_with (first
        | (at_lookup; refine wpList_way_get rfl _ _ rfl b k rfl rfl HM2.out (by omega) ?_))
      go_roundw
      case rel => exact ⟨k + 1, by go_num, hlt, by rw [edgesOf_succ, if_pos HH.out.2.2, List.append_nil]; exact HH.out.1, HH.out.2.1⟩
      case measure => simp [intOf]; omega
    · have g3 : (((f k : Nat) : Int) != 0) = true := bne_iff_ne.2 (by omega)
      have hlen : (edgesOf k f).length < 1000000 := by omega
      have hsz := hbel.size
      have hal := (Below.refl wr.heap.size wr).alloc (Nat.le_refl _) (.cells #[.int .i64 (k : Int), .int .i64 ((f k : Nat) : Int)] 79)
      have hoA := hide (hown.below hal (Nat.le_refl _))
      have HH := hide (And.intro hown (And.intro hbel h0))
      clear hown hbel h0
      go_wp2_with (first
        | (at_lookup; refine wpList_way_get rfl _ _ rfl b k rfl rfl HM2.out (by omega) ?_)
        | (at_builtin; refine wpList_append_edge rfl _ _ rfl w.heap.size _ _ rfl hoA.out ((k : Int), ((f k : Nat) : Int)) wr.heap.size 1 rfl (Blk.new _ _ _) hlen (by simp; omega) ?_))
      intro v' w5 hown5 hg5
      have hb5 : Below w.heap.size w w5 := below_grew (HH.out.2.1.alloc (by omega) (.cells #[.int .i64 (k : Int), .int .i64 ((f k : Nat) : Int)] 79)) hg5 (Nat.le_refl _) (fun g hg => (World.ownsRow.lt HH.out.1 g hg).1)
      have H5 := hide (And.intro hown5 hb5)
      clear hown5 hg5 hb5 hoA hal
      go_wp2_with fail
      go_roundw
      case rel => exact ⟨k + 1, by go_num, hlt, by rw [edgesOf_succ, if_neg HH.out.2.2]; exact H5.out.1, H5.out.2⟩
      case measure => simp [intOf]; omega
end Go.Proofs.YtbbhobojghmkpaaDoor

/-! ## Link17 -/
namespace Go.Proofs.YtbbhobojghmkpaaDoor
open Go.RowKit Go.Maps

theorem own_ne_map {w : World} {base size n b N : Nat} {E : TypeId} {v : Value} {l : List Value} {f : Nat → Nat} (h : w.ownsRow base E size v n l) (hm : WMap w b N f) : v.ownBlock ≠ some b := fun e => by
  obtain ⟨es, clock, h1⟩ := hm.obj
  rcases h.2 with ⟨e1, _⟩ | ⟨g, cap, cur, e1, _, hg, _⟩
  · rw [e1] at e; cases e
  · rw [e1] at e
    obtain rfl : g = b := by simpa [Value.ownBlock] using e
    rw [hg] at h1
    cases h1

/-- A list of maps. -/
def mapVals (rows : List Nat) : List Value := rows.map fun b => Value.map (some b)
/-- posit's maker in block gm. -/
structure MkP (w : World) (gm N : Nat) (rows : List Nat) (sv fv : Value) (S : List Se) (M : Nat → Nat → Nat) (B0 : Nat) : Prop where
  box : Blk w gm 113 #[sv, fv]
  sets : w.ownsRow B0 24 4 sv S.length (S.flatMap Se.cells)
  fol : w.ownsRow B0 114 1 fv rows.length (mapVals rows)
  len : rows.length ≤ S.length
  maps : ∀ i b, rows[i]? = some b → WMap w b N (M i)
  nodup : rows.Nodup
  base : ∀ b ∈ rows, B0 ≤ b
  gmb : B0 ≤ gm
  zero : ∀ i q, S.length ≤ i → M i q = 0
section
variable {w w' : World} {gm N B0 : Nat} {rows : List Nat} {sv fv : Value} {S : List Se} {M : Nat → Nat → Nat}
theorem MkP.congr {M' : Nat → Nat → Nat} (h : MkP w gm N rows sv fv S M B0) (e : ∀ i q, M i q = M' i q) : MkP w gm N rows sv fv S M' B0 :=
  ⟨h.box, h.sets, h.fol, h.len, fun i b hb => (h.maps i b hb).congr (e i), h.nodup, h.base, h.gmb, fun i q hi => by rw [← e]; exact h.zero i q hi⟩
theorem MkP.same {ok : Nat → Prop} (h : MkP w gm N rows sv fv S M B0) (hs : Same ok w w') (h1 : ok gm) (h2 : ∀ g, sv.ownBlock = some g → ok g) (h3 : ∀ g, fv.ownBlock = some g → ok g) (h4 : ∀ b ∈ rows, ok b) : MkP w' gm N rows sv fv S M B0 :=
  ⟨h.box.same hs h1, ownP_same h.sets hs h2, ownP_same h.fol hs h3, h.len, fun i b hb => (h.maps i b hb).same hs (h4 b (List.mem_of_getElem? hb)), h.nodup, h.base, h.gmb, h.zero⟩
where
  ownP_same {w w' : World} {base size n : Nat} {E : TypeId} {v : Value} {l : List Value} {ok : Nat → Prop} (h : w.ownsRow base E size v n l) (hs : Same ok w w') (hk : ∀ g, v.ownBlock = some g → ok g) : w'.ownsRow base E size v n l := by
    refine ⟨h.1, ?_⟩
    rcases h.2 with h | ⟨g, cap, cur, e, hb, hg, r⟩
    · exact .inl h
    · exact .inr ⟨g, cap, cur, e, hb, (hs g (hk g (by rw [e]; rfl))).trans hg, r⟩
theorem MkP.next (h : MkP w gm N rows sv fv S M B0) (hb : Below w.heap.size w w') : MkP w' gm N rows sv fv S M B0 :=
  h.same (same_of_below hb) h.box.lt (fun g hg => (World.ownsRow.lt h.sets g hg).2) (fun g hg => (World.ownsRow.lt h.fol g hg).2) (fun b hb => by
    obtain ⟨i, hi, e⟩ := List.getElem_of_mem hb
    exact (h.maps i b (by rw [List.getElem?_eq_getElem hi, e])).lt)
theorem MkP.grown {r : Nat} (h : MkP w gm N rows sv fv S M B0) (hg : w.grownBy w' (some r)) (hr : ∀ b ∈ rows, b ≠ r) (hc : ∀ (g : Nat) (t : TypeId) (cs : Array Value), Blk w g t cs → g ≠ r) : MkP w' gm N rows sv fv S M B0 := by
  have hs : Same (fun b => b < w.heap.size ∧ b ≠ r) w w' := fun b hb => hg.block b hb.1 (fun e => hb.2 (Option.some.inj e))
  have hv : ∀ {E : TypeId} {size n : Nat} {v : Value} {l : List Value}, w.ownsRow B0 E size v n l → ∀ g, v.ownBlock = some g → g < w.heap.size ∧ g ≠ r := fun ho g hgv => by
    refine ⟨(World.ownsRow.lt ho g hgv).2, ?_⟩
    rcases ho.2 with ⟨e1, _⟩ | ⟨g2, cap, cur, e1, _, hg2, _⟩
    · rw [e1] at hgv; cases hgv
    · rw [e1] at hgv
      obtain rfl : g2 = g := by simpa [Value.ownBlock] using hgv
      exact hc g2 _ _ hg2
  exact h.same hs ⟨h.box.lt, hc _ _ _ h.box⟩ (hv h.sets) (hv h.fol) (fun b hb => by
    obtain ⟨i, hi, e⟩ := List.getElem_of_mem hb
    exact ⟨(h.maps i b (by rw [List.getElem?_eq_getElem hi, e])).lt, hr b hb⟩)
theorem MkP.inj (h : MkP w gm N rows sv fv S M B0) {i j b : Nat} (hi : rows[i]? = some b) (hj : rows[j]? = some b) : i = j := by
  obtain ⟨hi1, hi2⟩ := List.getElem?_eq_some_iff.1 hi
  obtain ⟨hj1, hj2⟩ := List.getElem?_eq_some_iff.1 hj
  exact (List.getElem_inj h.nodup).1 (hi2.trans hj2.symm)
theorem MkP.setRow {p b : Nat} {g : Nat → Nat} (h : MkP w gm N rows sv fv S M B0) (hp : rows[p]? = some b) (hg : w.grownBy w' (some b)) (hm : WMap w' b N g) : MkP w' gm N rows sv fv S (fun i => if i = p then g else M i) B0 := by
  have hb0 := h.maps p b hp
  have hs : Same (fun c => c < w.heap.size ∧ c ≠ b) w w' := fun c hc => hg.block c hc.1 (fun e => hc.2 (Option.some.inj e))
  have hv : ∀ {E : TypeId} {size n : Nat} {v : Value} {l : List Value}, w.ownsRow B0 E size v n l → ∀ g, v.ownBlock = some g → g < w.heap.size ∧ g ≠ b := fun ho g hgv => ⟨(World.ownsRow.lt ho g hgv).2, fun e => own_ne_map ho hb0 (e ▸ hgv)⟩
  refine ⟨h.box.same hs ⟨h.box.lt, hb0.ne_blk h.box⟩, MkP.same.ownP_same h.sets hs (hv h.sets), MkP.same.ownP_same h.fol hs (hv h.fol), h.len, fun i c hc => ?_, h.nodup, h.base, h.gmb, fun i q hi => by
    have hpl := (List.getElem?_eq_some_iff.1 hp).1
    have := h.len
    rw [if_neg (by omega)]
    exact h.zero i q hi⟩
  by_cases hi : i = p
  · subst hi
    obtain rfl : c = b := Option.some.inj (hc.symm.trans hp)
    simpa using hm
  · simp only [if_neg hi]
    exact (h.maps i c hc).same hs ⟨(h.maps i c hc).lt, fun e => hi (h.inj (e ▸ hc) hp)⟩
theorem MkP.row (h : MkP w gm N rows sv fv S M B0) {p b : Nat} (hp : rows[p]? = some b) : ∃ fb fc, fv = .slice (some ⟨fb, 0, none⟩) rows.length fc ∧ w.cell? ⟨fb, p, none⟩ = some (.map (some b)) := by
  have hpl := (List.getElem?_eq_some_iff.1 hp).1
  rcases h.fol.2 with ⟨_, h0⟩ | ⟨g, cap, cur, e, _, hg, _⟩
  · omega
  · refine ⟨g, cap, e, ?_⟩
    have := World.ownsRow.cells h.fol (g := g) (by rw [e]; rfl) p (.map (some b)) (by unfold mapVals; rw [List.getElem?_map, hp]; rfl)
    simpa [Addr.add_lit] using this
end

/-- What link leaves. -/
structure Linked (gm N : Nat) (rows : List Nat) (sv fv : Value) (S : List Se) (M : Nat → Nat → Nat) (B0 : Nat) (y y' : World) : Prop where
  st : MkP y' gm N rows sv fv S M B0
  same : Same (fun b => b < y.heap.size ∧ b ∉ rows) y y'
  below : Below B0 y y'
def LinkPost (gm N : Nat) (rows : List Nat) (sv fv : Value) (S : List Se) (M : Nat → Nat → Nat) (B0 : Nat) (y : World) (e : Ending) (y' : World) : Prop := e = .returned (.tuple #[]) ∧ Linked gm N rows sv fv S M B0 y y'

theorem below_map {B : Nat} {y w w' : World} {b : Nat} (h : Below B y w) (hg : w.grownBy w' (some b)) (hB : B ≤ b) (hB2 : B ≤ y.heap.size) : Below B y w' := below_grew h hg hB2 (fun g hgb => by rw [← Option.some.inj hgb]; exact hB)

set_option maxRecDepth 100000 in
set_option maxHeartbeats 800000 in
theorem link17_any (gm N gl gf B0 : Nat) (rows : List Nat) (sv fv : Value) (S : List Se) (M : Nat → Nat → Nat) (l f : Nat → Nat) (y : World) (hN : N ≤ 900000) (hmk : MkP y gm N rows sv fv S M B0) (hl : WMap y gl N l) (hf : WMap y gf N f) (hlr : gl ∉ rows) (hfr : gf ∉ rows) (hlen : ∀ q, rows.length ≤ q → l q = 0) (hB0 : B0 ≤ y.heap.size) :
    Calls Tryd.prog 113 #[.pointer (some ⟨gm, 0, none⟩), .map (some gl), .map (some gf), .int .i64 15] y (LinkPost gm N rows sv fv S (ledM M l f 15) B0 y) := by
  have HMK := hide hmk
  have HL := hide hl
  have HF := hide hf
  have HNE := hide (And.intro hlr (And.intro hfr hlen))
  clear hmk hl hf hlr hfr hlen
  go_enter Tryd.func113, Tryd.ntmps113
  go_wp2_with (first
    | (at_range; refine wpList_way_range rfl _ rfl gl rfl HL.out ?_; intro w0 cnt0 hrg0 hg0 hs0))
  go_frame
  replace hs0 : y.heap.size < w0.heap.size := by omega
  have hb0 : Below y.heap.size y w0 := below_grew (Below.refl _ _) hg0 (Nat.le_refl _) (fun g hg => by cases hg)
  have H0 := hide (And.intro hrg0 (And.intro (HF.out.next hb0) (And.intro (HMK.out.next hb0) (And.intro (show Same (fun b => b < y.heap.size ∧ b ∉ rows) y w0 from (same_of_below hb0).mono fun b h => h.1) (hb0.mono hB0)))))
  clear hrg0 hg0 hb0
  go_loopw [8] (fun _ wr => ∃ L cnt, WRange wr gl y.heap.size N l L cnt ∧ WMap wr gf N f ∧ MkP wr gm N rows sv fv S (fun p q => if L p = true then M p q else ledM M l f 15 p q) B0 ∧ Same (fun b => b < y.heap.size ∧ b ∉ rows) y wr ∧ Below B0 y wr ∧ y.heap.size < wr.heap.size) (fun _ wr => wr.rangeLeft gl y.heap.size)
  case atStart =>
    refine ⟨_, cnt0, H0.out.1, H0.out.2.1, H0.out.2.2.1.congr fun p q => ?_, H0.out.2.2.2.1, H0.out.2.2.2.2, by omega⟩
    by_cases h : l p = 0
    · simp [h, ledM]
    · simp [h]
  case round =>
    clear H0
    obtain ⟨L, cnt, hrg, hf, hmk, hsame, hbel, hsz⟩ := hrel
    have HR := hide hrg
    have HF1 := hide hf
    have HM1 := hide (And.intro hmk (And.intro hsame hbel))
    clear hrg hf hmk hsame hbel
    go_wp2_with (first
      | (at_next; refine wpList_way_next rfl _ rfl gl y.heap.size rfl HR.out ?_ ?_))
    · intro hd
      have HD := hide hd
      clear hd
      go_wp2_with fail
      go_end0
      exact ⟨rfl, HM1.out.1.congr fun p q => by rw [HD.out p]; rfl, HM1.out.2.1, HM1.out.2.2⟩
    · intro p w1 cnt1 hpN hLp hlp hrg1 hlt1 hg1 hs1 hen
      replace hs1 : wr.heap.size ≤ w1.heap.size := by omega
      have hpr : p < rows.length := Nat.lt_of_not_le (fun h => hlp (HNE.out.2.2 p h))
      obtain ⟨b, hb⟩ : ∃ b, rows[p]? = some b := ⟨_, List.getElem?_eq_getElem hpr⟩
      have hbm := List.mem_of_getElem? hb
      have hby := (HMK.out.maps p b hb).lt
      have hgly := HL.out.lt
      have hgfy := HF.out.lt
      have hf1 := HF1.out.kept hg1 (fun e => by have := Option.some.inj e; omega)
      have hmk1 := HM1.out.1.grown hg1 (fun c hc => by
        obtain ⟨i, hi, e⟩ := List.getElem_of_mem hc
        exact HR.out.ne_map (HM1.out.1.maps i c (by rw [List.getElem?_eq_getElem hi, e]))) (fun g t cs h => HR.out.ne_blk h)
      have hsm1 : Same (fun b => b < y.heap.size ∧ b ∉ rows) y w1 := HM1.out.2.1.trans fun b hb => hg1.block b (by have := hb.1; omega) (fun e => by have := Option.some.inj e; have := hb.1; omega)
      have hbl1 := below_map HM1.out.2.2 hg1 hB0 hB0
      have H1 := hide (And.intro hrg1 (And.intro hmk1 (And.intro hsm1 hbl1)))
      have HLP := hide (And.intro hLp (And.intro hlp (And.intro hb hbm)))
      have HLT1 := hide hlt1
      have HF2 := hide hf1
      clear hrg1 hlt1 hg1 hf1 hmk1 hsm1 hbl1 hLp hlp hb hbm
      go_wp2_with (first
        | (at_range; refine wpList_way_range rfl _ rfl gf rfl HF2.out ?_; intro w2 cnt2 hrg2 hg2 hs2))
      go_frame
      replace hs2 : w1.heap.size < w2.heap.size := by omega
      have hb2 : Below w1.heap.size w1 w2 := below_grew (Below.refl _ _) hg2 (Nat.le_refl _) (fun g hg => by cases hg)
      have hr12 : WRange w2 gl y.heap.size N l (fun j => L j && !(j == p)) cnt1 := H1.out.1.same (same_of_below hb2) (by omega) (by omega)
      have hsm2 : Same (fun b => b < y.heap.size ∧ b ∉ rows) y w2 := H1.out.2.2.1.trans ((same_of_below hb2).mono fun b h => by have := h.1; omega)
      have H2 := hide (And.intro hrg2 (And.intro hr12 (And.intro (H1.out.2.1.next hb2) (And.intro hsm2 (H1.out.2.2.2.trans (hb2.mono (by omega)))))))
      clear hrg2 hg2 hb2 hr12 hsm2 hen
      have hsz1 : y.heap.size < w1.heap.size := by omega
      have hsz2 : y.heap.size < w2.heap.size := by omega
      go_loopw [10] (fun _ wx => ∃ L2 c2, WRange wx gf w1.heap.size N f L2 c2 ∧ WRange wx gl y.heap.size N l (fun j => L j && !(j == p)) cnt1 ∧ MkP wx gm N rows sv fv S (fun i q => if i = p then (if L2 q = true then M p q else ledM M l f 15 p q) else (if L i = true then M i q else ledM M l f 15 i q)) B0 ∧ Same (fun b => b < y.heap.size ∧ b ∉ rows) y wx ∧ Below B0 y wx ∧ y.heap.size < wx.heap.size) (fun _ wx => wx.rangeLeft gf w1.heap.size)
      case atStart =>
        refine ⟨_, cnt2, H2.out.1, H2.out.2.1, H2.out.2.2.1.congr fun i q => ?_, H2.out.2.2.2.1, H2.out.2.2.2.2, hsz2⟩
        by_cases hi : i = p
        · subst hi
          rw [HLP.out.1]
          by_cases h : f q = 0
          · simp [h, ledM]
          · simp [h]
        · simp [hi]
      case round =>
        clear H2
        obtain ⟨L2, c2, hr2, hr1, hm, hsm, hbl2, hszx⟩ := hrel
        have HR2 := hide hr2
        have HR1 := hide hr1
        have HM2 := hide (And.intro hm (And.intro hsm hbl2))
        clear hr2 hr1 hm hsm hbl2
        go_wp2_with (first
          | (at_next; refine wpList_way_next rfl _ rfl gf w1.heap.size rfl HR2.out ?_ ?_))
        · intro hd2
          have HD2 := hide hd2
          clear hd2
          go_wp2_with fail
          go_roundw
          case rel =>
            refine ⟨_, cnt1, HR1.out, HR2.out.owns, HM2.out.1.congr fun i q => ?_, HM2.out.2.1, HM2.out.2.2, hszx⟩
            by_cases hi : i = p
            · subst hi
              simp [HD2.out q]
            · simp [hi]
          case measure => rw [HR1.out.left_eq, HR.out.left_eq]; exact HLT1.out
        · intro q w3 c3 hqN hLq hfq hrg3 hlt3 hg3 hs3 hen3
          replace hs3 : wr.heap.size ≤ w3.heap.size := by omega
          have hmk3 := HM2.out.1.grown hg3 (fun c hc => by
            obtain ⟨i, hi, e⟩ := List.getElem_of_mem hc
            exact HR2.out.ne_map (HM2.out.1.maps i c (by rw [List.getElem?_eq_getElem hi, e]))) (fun g t cs h => HR2.out.ne_blk h)
          have hr13 := HR1.out.kept hg3 (fun e => by have := Option.some.inj e; omega) (fun e => by have := Option.some.inj e; omega)
          have hsm3 : Same (fun b => b < y.heap.size ∧ b ∉ rows) y w3 := HM2.out.2.1.trans fun b hb => hg3.block b (by have := hb.1; omega) (fun e => by have := Option.some.inj e; have := hb.1; omega)
          have hbl3 := below_map HM2.out.2.2 hg3 (by omega) hB0
          obtain ⟨fb, fc, hfv, hcell⟩ := hmk3.row HLP.out.2.2.1
          have cgm := hmk3.box.cell
          rw [hfv] at cgm
          have hlp16 := HL.out.small p
          have hfq16 := HF.out.small q
          have gA1 := andI hlp16 hfq16
          have gA2 : bits .and .i64 ((l p &&& f q : Nat) : Int) 15 = ((l p &&& f q &&& 15 : Nat) : Int) := andI (andL hlp16 hfq16) (show 15 < 16 by omega)
          have hu16 := andL (andL hlp16 hfq16) (show 15 < 16 by omega)
          have HJ := hide (join17_any b N q (l p &&& f q &&& 15) _ w3 hN hqN hu16 (hmk3.maps p b HLP.out.2.2.1))
          have H3 := hide (And.intro hmk3 (And.intro hrg3 (And.intro hr13 (And.intro hsm3 hbl3))))
          have HLT3 := hide (And.intro hlt3 hLq)
          clear hmk3 hr13 hsm3 hbl3 hfv hrg3 hlt3 hg3 hLq hfq
          have HU := hide (show (l p &&& f q &&& 15) = (l p &&& f q &&& 15) from rfl)
          go_upto_region 6 with fail
          clear hen3
          generalize hu9 : (l p &&& f q &&& 15) = u9 at gA2 HJ hu16
          have HU9 := hide hu9
          generalize (l p &&& f q) = m9 at gA1 gA2
          generalize ha9 : l p = a9 at gA1 hlp16 ⊢
          generalize hc9 : f q = c9 at gA1 hfq16 ⊢
          have HA9 := hide (And.intro ha9 hc9)
          clear hu9 ha9 hc9
          go_wp2_with (simp only [gA1, gA2])
          refine HJ.out.mono ?_
          rintro e w4 ⟨rfl, hm4, hg4⟩
          have hbgl : b ≠ gl := fun e => HNE.out.1 (e ▸ HLP.out.2.2.2)
          have hbgf : b ≠ gf := fun e => HNE.out.2.1 (e ▸ HLP.out.2.2.2)
          have hr4 := H3.out.2.1.kept hg4 (fun e => hbgf (Option.some.inj e).symm) (fun e => by have := Option.some.inj e; omega)
          have hr14 := H3.out.2.2.1.kept hg4 (fun e => hbgl (Option.some.inj e).symm) (fun e => by have := Option.some.inj e; omega)
          have hsm4 : Same (fun b => b < y.heap.size ∧ b ∉ rows) y w4 := H3.out.2.2.2.1.trans fun c hc => hg4.block c (by have := hc.1; have := hs3; omega) (fun e => hc.2 (by rw [Option.some.inj e]; exact HLP.out.2.2.2))
          have hbl4 := below_map H3.out.2.2.2.2 hg4 (H3.out.1.base b HLP.out.2.2.2) hB0
          have hmk4 := H3.out.1.setRow HLP.out.2.2.1 hg4 hm4
          have hsz4 := hg4.size
          have H4 := hide (And.intro hr4 (And.intro hr14 (And.intro hmk4 (And.intro hsm4 hbl4))))
          clear hr4 hr14 hsm4 hbl4 hmk4 hm4 hg4 cgm hcell HJ
          go_wp2_with fail
          obtain ⟨ha9, hc9⟩ := HA9.out
          subst ha9 hc9
          go_roundw
          case rel =>
            refine ⟨_, c3, H4.out.1, H4.out.2.1, H4.out.2.2.1.congr fun i j => ?_, H4.out.2.2.2.1, H4.out.2.2.2.2, by omega⟩
            by_cases hi : i = p
            · subst hi
              by_cases hj : j = q
              · subst hj
                simp [HLT3.out.2, ledM, ← HU9.out]
              · simp [hj]
            · simp [hi]
          case measure => rw [H4.out.1.left_eq, HR2.out.left_eq]; exact HLT3.out.1
end Go.Proofs.YtbbhobojghmkpaaDoor

/-! ## PosDefs -/
namespace Go.Proofs.YtbbhobojghmkpaaDoor
open Go.RowKit Go.Maps

def ptOf (n : Nat) : Pt := ⟨n, fun _ => 0, fun _ => 0⟩
def bytePt (n : Nat) : Pt := ⟨0, fun i => if i = n then 15 else 0, fun i => if i = n then 15 else 0⟩
def seqPt (x y : Pt) : Pt := ⟨x.null &&& y.null, fun i => x.fst i ||| (y.fst i &&& x.null), fun i => (x.lst i &&& y.null) ||| y.lst i⟩
mutual
def T.pos : T → St → Pt × St
  | .mk h l, s =>
    if h.kind = 1 then (ptOf 15, s)
    else if h.kind = 3 then (ptOf 10, s)
    else if h.kind = 4 then (ptOf 12, s)
    else if h.kind = 2 then (bytePt s.S.length, ⟨s.S ++ [(h.s0, h.s1, h.s2, h.s3)], s.M⟩)
    else if h.kind = 5 then TL.posSeq l (ptOf 15) s
    else if h.kind = 8 then TL.posRep l h.max s
    else TL.posAlt l (ptOf 0) s
def TL.posSeq : List T → Pt → St → Pt × St
  | [], x, s => (x, s)
  | t :: l, x, s => TL.posSeq l (seqPt x (t.pos s).1) ⟨(t.pos s).2.S, ledM (t.pos s).2.M x.lst (t.pos s).1.fst 15⟩
def TL.posRep : List T → Int → St → Pt × St
  | [], _, s => (ptOf 15, s)
  | t :: _, mx, s => (⟨15, (t.pos s).1.fst, (t.pos s).1.lst⟩, if mx = -1 then ⟨(t.pos s).2.S, ledM (t.pos s).2.M (t.pos s).1.lst (t.pos s).1.fst 15⟩ else (t.pos s).2)
def TL.posAlt : List T → Pt → St → Pt × St
  | [], x, s => (x, s)
  | t :: l, x, s => TL.posAlt l (joinPt x (t.pos s).1) (t.pos s).2
end
theorem TL.posAlt_snoc : ∀ (l : List T) (t : T) (x : Pt) (s : St), TL.posAlt (l ++ [t]) x s = (joinPt (TL.posAlt l x s).1 (t.pos (TL.posAlt l x s).2).1, (t.pos (TL.posAlt l x s).2).2)
  | [], t, x, s => rfl
  | u :: l, t, x, s => by
    rw [List.cons_append, TL.posAlt, TL.posAlt_snoc l t, TL.posAlt]
theorem TL.posSeq_snoc : ∀ (l : List T) (t : T) (x : Pt) (s : St), TL.posSeq (l ++ [t]) x s = (seqPt (TL.posSeq l x s).1 (t.pos (TL.posSeq l x s).2).1, ⟨(t.pos (TL.posSeq l x s).2).2.S, ledM (t.pos (TL.posSeq l x s).2).2.M (TL.posSeq l x s).1.lst (t.pos (TL.posSeq l x s).2).1.fst 15⟩)
  | [], t, x, s => rfl
  | u :: l, t, x, s => by
    rw [List.cons_append, TL.posSeq, TL.posSeq_snoc l t, TL.posSeq]

/-- Nothing is at positions that are not laid yet. -/
def Pt.good (x : Pt) (n : Nat) : Prop := x.null < 16 ∧ ∀ q, n ≤ q → x.fst q = 0 ∧ x.lst q = 0
theorem Pt.good.mono {x : Pt} {n m : Nat} (h : x.good n) (hm : n ≤ m) : x.good m := ⟨h.1, fun q hq => h.2 q (by omega)⟩
theorem joinPt_good {x y : Pt} {n : Nat} (hx : x.good n) (hy : y.good n) : (joinPt x y).good n := ⟨orL hx.1 hy.1, fun q hq => by
  obtain ⟨a, b⟩ := hx.2 q hq
  obtain ⟨c, d⟩ := hy.2 q hq
  simp [joinPt, a, b, c, d]⟩
theorem seqPt_good {x y : Pt} {n : Nat} (hx : x.good n) (hy : y.good n) : (seqPt x y).good n := ⟨andL hx.1 hy.1, fun q hq => by
  obtain ⟨a, b⟩ := hx.2 q hq
  obtain ⟨c, d⟩ := hy.2 q hq
  simp [seqPt, a, b, c, d]⟩
theorem ptOf_good {k n : Nat} (hk : k < 16) : (ptOf k).good n := ⟨hk, fun q _ => ⟨rfl, rfl⟩⟩
mutual
theorem T.pos_good : ∀ (t : T) (s : St), s.S.length ≤ (t.pos s).2.S.length ∧ (t.pos s).1.good (t.pos s).2.S.length
  | .mk h l, s => by
    unfold T.pos
    split
    · exact ⟨Nat.le_refl _, ptOf_good (by omega)⟩
    split
    · exact ⟨Nat.le_refl _, ptOf_good (by omega)⟩
    split
    · exact ⟨Nat.le_refl _, ptOf_good (by omega)⟩
    split
    · refine ⟨by simp, by show (0 : Nat) < 16; omega, fun q hq => ?_⟩
      simp only [List.length_append, List.length_cons, List.length_nil] at hq
      show (if q = s.S.length then 15 else 0) = 0 ∧ (if q = s.S.length then 15 else 0) = 0
      rw [if_neg (by omega)]
      exact ⟨rfl, rfl⟩
    split
    · exact TL.posSeq_good l _ s (ptOf_good (by omega))
    split
    · exact TL.posRep_good l _ s
    · exact TL.posAlt_good l _ s (ptOf_good (by omega))
theorem TL.posSeq_good : ∀ (l : List T) (x : Pt) (s : St), x.good s.S.length → s.S.length ≤ (TL.posSeq l x s).2.S.length ∧ (TL.posSeq l x s).1.good (TL.posSeq l x s).2.S.length
  | [], x, s, hx => ⟨Nat.le_refl _, hx⟩
  | t :: l, x, s, hx => by
    obtain ⟨h1, h2⟩ := t.pos_good s
    rw [TL.posSeq]
    obtain ⟨h3, h4⟩ := TL.posSeq_good l (seqPt x (t.pos s).1) ⟨(t.pos s).2.S, ledM (t.pos s).2.M x.lst (t.pos s).1.fst 15⟩ (seqPt_good (hx.mono h1) h2)
    exact ⟨Nat.le_trans h1 h3, h4⟩
theorem TL.posRep_good : ∀ (l : List T) (mx : Int) (s : St), s.S.length ≤ (TL.posRep l mx s).2.S.length ∧ (TL.posRep l mx s).1.good (TL.posRep l mx s).2.S.length
  | [], mx, s => ⟨Nat.le_refl _, ptOf_good (by omega)⟩
  | t :: l, mx, s => by
    obtain ⟨h1, h2⟩ := t.pos_good s
    rw [TL.posRep]
    split
    · exact ⟨h1, by show (15 : Nat) < 16; omega, h2.2⟩
    · exact ⟨h1, by show (15 : Nat) < 16; omega, h2.2⟩
theorem TL.posAlt_good : ∀ (l : List T) (x : Pt) (s : St), x.good s.S.length → s.S.length ≤ (TL.posAlt l x s).2.S.length ∧ (TL.posAlt l x s).1.good (TL.posAlt l x s).2.S.length
  | [], x, s, hx => ⟨Nat.le_refl _, hx⟩
  | t :: l, x, s, hx => by
    obtain ⟨h1, h2⟩ := t.pos_good s
    rw [TL.posAlt]
    obtain ⟨h3, h4⟩ := TL.posAlt_good l (joinPt x (t.pos s).1) (t.pos s).2 (joinPt_good (hx.mono h1) h2)
    exact ⟨Nat.le_trans h1 h3, h4⟩
end
theorem TL.posAlt_append : ∀ (a b : List T) (x : Pt) (s : St), TL.posAlt (a ++ b) x s = TL.posAlt b (TL.posAlt a x s).1 (TL.posAlt a x s).2
  | [], b, x, s => rfl
  | u :: a, b, x, s => by rw [List.cons_append, TL.posAlt, TL.posAlt_append a b, TL.posAlt]
theorem TL.posSeq_append : ∀ (a b : List T) (x : Pt) (s : St), TL.posSeq (a ++ b) x s = TL.posSeq b (TL.posSeq a x s).1 (TL.posSeq a x s).2
  | [], b, x, s => rfl
  | u :: a, b, x, s => by rw [List.cons_append, TL.posSeq, TL.posSeq_append a b, TL.posSeq]
theorem TL.posAlt_mono : ∀ (l : List T) (x : Pt) (s : St), s.S.length ≤ (TL.posAlt l x s).2.S.length
  | [], x, s => Nat.le_refl _
  | t :: l, x, s => by
    rw [TL.posAlt]
    exact Nat.le_trans (t.pos_good s).1 (TL.posAlt_mono l _ _)
theorem TL.posSeq_mono : ∀ (l : List T) (x : Pt) (s : St), s.S.length ≤ (TL.posSeq l x s).2.S.length
  | [], x, s => Nat.le_refl _
  | t :: l, x, s => by
    rw [TL.posSeq]
    exact Nat.le_trans (t.pos_good s).1 (TL.posSeq_mono l _ ⟨(t.pos s).2.S, ledM (t.pos s).2.M x.lst (t.pos s).1.fst 15⟩)
theorem TL.posAlt_take (l : List T) (x : Pt) (s : St) (k : Nat) : (TL.posAlt (l.take k) x s).2.S.length ≤ (TL.posAlt l x s).2.S.length := by
  have h := TL.posAlt_append (l.take k) (l.drop k) x s
  rw [List.take_append_drop] at h
  rw [h]
  exact TL.posAlt_mono _ _ _
theorem TL.posSeq_take (l : List T) (x : Pt) (s : St) (k : Nat) : (TL.posSeq (l.take k) x s).2.S.length ≤ (TL.posSeq l x s).2.S.length := by
  have h := TL.posSeq_append (l.take k) (l.drop k) x s
  rw [List.take_append_drop] at h
  rw [h]
  exact TL.posSeq_mono _ _ _
mutual
/-- Each repeat has its Sub. -/
def T.reps : T → Prop
  | .mk h l => (h.kind = 8 → l ≠ []) ∧ TL.reps l
def TL.reps : List T → Prop
  | [] => True
  | t :: l => t.reps ∧ TL.reps l
end
theorem TL.reps_mem : ∀ {l : List T}, TL.reps l → ∀ t ∈ l, t.reps
  | t :: l, h, s, hs => by
    rcases List.mem_cons.1 hs with e | e
    · subst e; exact h.1
    · exact TL.reps_mem h.2 s e

/-- What was there before a call and is no memory of the maker's. -/
def FrP (y : World) (gm : Nat) (rows : List Nat) (sv fv : Value) (b : Nat) : Prop := b < y.heap.size ∧ b ≠ gm ∧ b ∉ rows ∧ sv.ownBlock ≠ some b ∧ fv.ownBlock ≠ some b
/-- The maker behind a call: what it had, and more. -/
structure MkN (gm N B0 : Nat) (rows : List Nat) (sv fv : Value) (y : World) (rows' : List Nat) (sv' fv' : Value) (s' : St) (y' : World) : Prop where
  st : MkP y' gm N rows' sv' fv' s'.S s'.M B0
  pre : ∃ more, rows' = rows ++ more ∧ ∀ b ∈ more, y.heap.size ≤ b
  svb : ∀ h, sv'.ownBlock = some h → sv.ownBlock = some h ∨ y.heap.size ≤ h
  fvb : ∀ h, fv'.ownBlock = some h → fv.ownBlock = some h ∨ y.heap.size ≤ h
  same : Same (FrP y gm rows sv fv) y y'
  below : Below B0 y y'
/-- Two maps of a part, apart from all else. -/
structure MapsAt (N lo : Nat) (x : Pt) (f l : Nat) (rows : List Nat) (w : World) : Prop where
  fst : WMap w f N x.fst
  lst : WMap w l N x.lst
  ne : f ≠ l
  fr : f ∉ rows
  lr : l ∉ rows
  fy : lo ≤ f
  ly : lo ≤ l
def partCells (n f l : Nat) : List Value := [.int .i64 ((n : Nat) : Int), .map (some f), .map (some l)]
def PosPost (gm N B0 : Nat) (rows : List Nat) (sv fv : Value) (r : Pt × St) (y : World) (e : Ending) (y' : World) : Prop :=
  ∃ f l rows' sv' fv', e = .returned (.agg (partCells r.1.null f l).toArray) ∧ MkN gm N B0 rows sv fv y rows' sv' fv' r.2 y' ∧ MapsAt N y.heap.size r.1 f l rows' y' ∧ rows'.length = r.2.S.length
section
variable {gm N B0 lo : Nat} {rows rows' rows2 : List Nat} {sv fv sv' fv' sv2 fv2 : Value} {s s' s2 : St} {y y' w w' : World} {x : Pt} {f l : Nat}
theorem MkN.refl (h : MkP y gm N rows sv fv s.S s.M B0) : MkN gm N B0 rows sv fv y rows sv fv s y := ⟨h, ⟨[], by simp, by simp⟩, fun h hh => .inl hh, fun h hh => .inl hh, Same.refl _ _, Below.refl _ _⟩
theorem MkN.next (h : MkN gm N B0 rows sv fv y rows' sv' fv' s' w) (hB : B0 ≤ w.heap.size) (hy : y.heap.size ≤ w.heap.size) (hb : Below w.heap.size w w') : MkN gm N B0 rows sv fv y rows' sv' fv' s' w' :=
  ⟨h.st.next hb, h.pre, h.svb, h.fvb, h.same.trans ((same_of_below hb).mono fun b hb => Nat.lt_of_lt_of_le hb.1 hy), h.below.trans (hb.mono hB)⟩
theorem MkP.rows_lt {S : List Se} {M : Nat → Nat → Nat} (h : MkP w gm N rows sv fv S M B0) : ∀ b ∈ rows, b < w.heap.size := fun b hb => by
  obtain ⟨i, hi, e⟩ := List.getElem_of_mem hb
  exact (h.maps i b (by rw [List.getElem?_eq_getElem hi, e])).lt
/-- A call after another. -/
theorem MkN.trans (h : MkN gm N B0 rows sv fv y rows' sv' fv' s' w) (hy : y.heap.size ≤ w.heap.size) (k : MkN gm N B0 rows' sv' fv' w rows2 sv2 fv2 s2 w') : MkN gm N B0 rows sv fv y rows2 sv2 fv2 s2 w' := by
  obtain ⟨m1, e1, h1⟩ := h.pre
  obtain ⟨m2, e2, h2⟩ := k.pre
  refine ⟨k.st, ⟨m1 ++ m2, by rw [e2, e1, List.append_assoc], fun b hb => ?_⟩, fun q hq => ?_, fun q hq => ?_, h.same.trans (k.same.mono fun b hb => ?_), h.below.trans k.below⟩
  · rcases List.mem_append.1 hb with h3 | h3
    · exact h1 b h3
    · exact Nat.le_trans hy (h2 b h3)
  · rcases k.svb q hq with h3 | h3
    · exact h.svb q h3
    · exact .inr (Nat.le_trans hy h3)
  · rcases k.fvb q hq with h3 | h3
    · exact h.fvb q h3
    · exact .inr (Nat.le_trans hy h3)
  · obtain ⟨a1, a2, a3, a4, a5⟩ := hb
    refine ⟨Nat.lt_of_lt_of_le a1 hy, a2, fun hm => ?_, fun e => ?_, fun e => ?_⟩
    · rw [e1] at hm
      rcases List.mem_append.1 hm with h3 | h3
      · exact a3 h3
      · have := h1 b h3; omega
    · rcases h.svb b e with h3 | h3
      · exact a4 h3
      · omega
    · rcases h.fvb b e with h3 | h3
      · exact a5 h3
      · omega
theorem MapsAt.same {ok : Nat → Prop} (h : MapsAt N lo x f l rows w) (hs : Same ok w w') (h1 : ok f) (h2 : ok l) : MapsAt N lo x f l rows w' := ⟨h.fst.same hs h1, h.lst.same hs h2, h.ne, h.fr, h.lr, h.fy, h.ly⟩
theorem MapsAt.next (h : MapsAt N lo x f l rows w) (hb : Below w.heap.size w w') : MapsAt N lo x f l rows w' := h.same (same_of_below hb) h.fst.lt h.lst.lt
/-- Maps that are apart from the maker's stay over a call. -/
theorem MapsAt.over {S : List Se} {M : Nat → Nat → Nat} (h : MapsAt N lo x f l rows w) (hm : MkP w gm N rows sv fv S M B0) (k : MkN gm N B0 rows sv fv w rows' sv' fv' s' w') : MapsAt N lo x f l rows' w' := by
  have hfr : ∀ {b N' : Nat} {g : Nat → Nat}, WMap w b N' g → b ∉ rows → FrP w gm rows sv fv b := fun hb hn => ⟨hb.lt, fun e => hb.ne_blk hm.box e.symm, hn, own_ne_map hm.sets hb, own_ne_map hm.fol hb⟩
  obtain ⟨m, e, h1⟩ := k.pre
  refine ⟨h.fst.same k.same (hfr h.fst h.fr), h.lst.same k.same (hfr h.lst h.lr), h.ne, fun hm => ?_, fun hm => ?_, h.fy, h.ly⟩
  · rw [e] at hm
    rcases List.mem_append.1 hm with h3 | h3
    · exact h.fr h3
    · have := h1 _ h3; have := h.fst.lt; omega
  · rw [e] at hm
    rcases List.mem_append.1 hm with h3 | h3
    · exact h.lr h3
    · have := h1 _ h3; have := h.lst.lt; omega
/-- A block of another type stays over a call. -/
theorem blk_over {S : List Se} {M : Nat → Nat → Nat} {g : Nat} {t : TypeId} {cs : Array Value} (h : Blk w g t cs) (hm : MkP w gm N rows sv fv S M B0) (k : MkN gm N B0 rows sv fv w rows' sv' fv' s' w') (h1 : t ≠ 113) (h2 : t ≠ 24) (h3 : t ≠ 114) : Blk w' g t cs := by
  have hne : ∀ {E : TypeId} {size n : Nat} {v : Value} {l : List Value}, w.ownsRow B0 E size v n l → t ≠ E → v.ownBlock ≠ some g := fun ho ht e => by
    rcases ho.2 with ⟨e1, _⟩ | ⟨g2, cap, cur, e1, _, hg2, _⟩
    · rw [e1] at e; cases e
    · rw [e1] at e
      obtain rfl : g2 = g := by simpa [Value.ownBlock] using e
      exact Blk.ne_type h (show Blk w g2 _ cur from hg2) ht rfl
  refine h.same k.same ⟨h.lt, fun e => h.ne_type hm.box h1 e, fun hr => ?_, hne hm.sets h2, hne hm.fol h3⟩
  obtain ⟨i, hi, e⟩ := List.getElem_of_mem hr
  exact (hm.maps i g (by rw [List.getElem?_eq_getElem hi, e])).ne_blk h rfl
theorem own_ne_own {w : World} {b1 b2 z1 z2 n1 n2 : Nat} {E1 E2 : TypeId} {v1 v2 : Value} {l1 l2 : List Value} (h1 : w.ownsRow b1 E1 z1 v1 n1 l1) (h2 : w.ownsRow b2 E2 z2 v2 n2 l2) (hE : E1 ≠ E2) : ∀ g, v1.ownBlock = some g → v2.ownBlock ≠ some g := fun g e1 e2 => by
  rcases h1.2 with ⟨a, _⟩ | ⟨g1, cap, cur, a, _, hg1, _⟩
  · rw [a] at e1; cases e1
  · rw [a] at e1
    obtain rfl : g1 = g := by simpa [Value.ownBlock] using e1
    rcases h2.2 with ⟨c, _⟩ | ⟨g2, cap2, cur2, c, _, hg2, _⟩
    · rw [c] at e2; cases e2
    · rw [c] at e2
      obtain rfl : g2 = g1 := by simpa [Value.ownBlock] using e2
      exact Blk.ne_type (show Blk w g2 E1 cur from hg1) (show Blk w g2 E2 cur2 from hg2) hE rfl
theorem own_ne_blk {w : World} {b1 z1 n1 g : Nat} {E1 t : TypeId} {v1 : Value} {l1 : List Value} {cs : Array Value} (h1 : w.ownsRow b1 E1 z1 v1 n1 l1) (hb : Blk w g t cs) (hE : E1 ≠ t) : v1.ownBlock ≠ some g := fun e1 => by
  rcases h1.2 with ⟨a, _⟩ | ⟨g1, cap, cur, a, _, hg1, _⟩
  · rw [a] at e1; cases e1
  · rw [a] at e1
    obtain rfl : g1 = g := by simpa [Value.ownBlock] using e1
    exact Blk.ne_type (show Blk w g1 E1 cur from hg1) hb hE rfl
/-- A set more. -/
theorem MkN.pushS (h : MkN gm N B0 rows sv fv y rows' sv' fv' s' w) (hy : y.heap.size ≤ w.heap.size) {v' : Value} {e : Se} (hs5 : Same (fun b => b < w.heap.size ∧ sv'.ownBlock ≠ some b) w w') (hown : w'.ownsRow B0 24 4 v' (s'.S ++ [e]).length ((s'.S ++ [e]).flatMap Se.cells)) (hv : v'.ownBlock = sv'.ownBlock ∨ ∀ g, v'.ownBlock = some g → w.heap.size ≤ g) (hb : Below B0 w w') :
    MkN gm N B0 rows sv fv y rows' v' fv' ⟨s'.S ++ [e], s'.M⟩ (w'.setCell ⟨gm, 0, none⟩ v') := by
  have hbx := h.st.box.same hs5 ⟨h.st.box.lt, own_ne_blk h.st.sets h.st.box (by decide)⟩
  have hset : Same (· ≠ gm) w' (w'.setCell ⟨gm, 0, none⟩ v') := (Same.refl _ _).set (fun h => h rfl) _
  have hfol := MkP.same.ownP_same h.st.fol hs5 (fun g hg => ⟨(World.ownsRow.lt h.st.fol g hg).2, fun e => own_ne_own h.st.fol h.st.sets (by decide) g hg e⟩)
  refine ⟨⟨heap_setCell_same w' gm 0 _ _ _ hbx, MkP.same.ownP_same hown hset (fun g hg e => own_ne_blk hown hbx (by decide) (by rw [hg, e])), MkP.same.ownP_same hfol hset (fun g hg e => own_ne_blk hfol hbx (by decide) (by rw [hg, e])), ?_, fun i b hi => ?_, h.st.nodup, h.st.base, h.st.gmb, fun i q hi => ?_⟩, h.pre, fun g hg => ?_, h.fvb, ?_, (h.below.trans hb).setCell h.st.gmb _⟩
  · have := h.st.len
    simp only [List.length_append]
    omega
  · have h1 := (h.st.maps i b hi).same hs5 ⟨(h.st.maps i b hi).lt, own_ne_map h.st.sets (h.st.maps i b hi)⟩
    exact h1.same hset (fun e => h1.ne_blk hbx e.symm)
  · simp only [List.length_append] at hi
    exact h.st.zero i q (by omega)
  · rcases hv with e | e
    · rw [e] at hg; exact h.svb g hg
    · have := e g hg; exact .inr (by omega)
  · refine (h.same.trans (hs5.mono fun b hb' => ⟨by have := hb'.1; omega, fun e => ?_⟩)).set (fun hf => hf.2.1 rfl) _
    rcases h.svb b e with h9 | h9
    · exact hb'.2.2.2.1 h9
    · have := hb'.1; omega
/-- A map more. -/
theorem MkN.pushF (h : MkN gm N B0 rows sv fv y rows' sv' fv' s' w) (hy : y.heap.size ≤ w.heap.size) (hB : B0 ≤ y.heap.size) {v' : Value} {b : Nat} (hs5 : Same (fun b => b < w.heap.size ∧ fv'.ownBlock ≠ some b) w w') (hown : w'.ownsRow B0 114 1 v' (rows' ++ [b]).length (mapVals (rows' ++ [b]))) (hv : v'.ownBlock = fv'.ownBlock ∨ ∀ g, v'.ownBlock = some g → w.heap.size ≤ g) (hb : Below B0 w w')
    (hm : WMap w' b N (fun _ => 0)) (hbw : w.heap.size ≤ b) (hlt : rows'.length < s'.S.length) (hz : ∀ q, s'.M rows'.length q = 0) :
    MkN gm N B0 rows sv fv y (rows' ++ [b]) sv' v' s' (w'.setCell ⟨gm, 1, none⟩ v') := by
  have hbx := h.st.box.same hs5 ⟨h.st.box.lt, own_ne_blk h.st.fol h.st.box (by decide)⟩
  have hset : Same (· ≠ gm) w' (w'.setCell ⟨gm, 1, none⟩ v') := (Same.refl _ _).set (fun h => h rfl) _
  have hsets := MkP.same.ownP_same h.st.sets hs5 (fun g hg => ⟨(World.ownsRow.lt h.st.sets g hg).2, fun e => own_ne_own h.st.sets h.st.fol (by decide) g hg e⟩)
  have hnr : b ∉ rows' := fun hr => by have := h.st.rows_lt b hr; omega
  refine ⟨⟨heap_setCell_same w' gm 1 _ _ _ hbx, MkP.same.ownP_same hsets hset (fun g hg e => own_ne_blk hsets hbx (by decide) (by rw [hg, e])), MkP.same.ownP_same hown hset (fun g hg e => own_ne_blk hown hbx (by decide) (by rw [hg, e])), ?_, fun i c hi => ?_, ?_, fun c hc => ?_, h.st.gmb, h.st.zero⟩, ?_, h.svb, fun g hg => ?_, ?_, (h.below.trans hb).setCell h.st.gmb _⟩
  · simp only [List.length_append, List.length_cons, List.length_nil]
    omega
  · rcases Nat.lt_or_ge i rows'.length with h1 | h1
    · rw [List.getElem?_append_left h1] at hi
      have h2 := (h.st.maps i c hi).same hs5 ⟨(h.st.maps i c hi).lt, own_ne_map h.st.fol (h.st.maps i c hi)⟩
      exact h2.same hset (fun e => h2.ne_blk hbx e.symm)
    · rw [List.getElem?_append_right h1] at hi
      have h3 : i - rows'.length = 0 := by
        have := (List.getElem?_eq_some_iff.1 hi).1
        simp at this
        omega
      rw [h3] at hi
      obtain rfl : b = c := by simpa using hi
      obtain rfl : i = rows'.length := by omega
      exact (hm.same hset (fun e => hm.ne_blk hbx e.symm)).congr fun q => (hz q).symm
  · rw [List.nodup_append]
    refine ⟨h.st.nodup, by simp, fun c hc d hd e => ?_⟩
    obtain rfl : d = b := by simpa using hd
    exact hnr (e ▸ hc)
  · rcases List.mem_append.1 hc with h1 | h1
    · exact h.st.base c h1
    · obtain rfl : c = b := by simpa using h1
      omega
  · obtain ⟨m, e, h1⟩ := h.pre
    refine ⟨m ++ [b], by rw [e, List.append_assoc], fun c hc => ?_⟩
    rcases List.mem_append.1 hc with h2 | h2
    · exact h1 c h2
    · obtain rfl : c = b := by simpa using h2
      omega
  · rcases hv with e | e
    · rw [e] at hg; exact h.fvb g hg
    · have := e g hg; exact .inr (by omega)
  · refine (h.same.trans (hs5.mono fun b hb' => ⟨by have := hb'.1; omega, fun e => ?_⟩)).set (fun hf => hf.2.1 rfl) _
    rcases h.fvb b e with h9 | h9
    · exact hb'.2.2.2.2 h9
    · have := hb'.1; omega
end
end Go.Proofs.YtbbhobojghmkpaaDoor
