/- Owned: As the rule for regions that make memory in any order (Made), and each new block belongs to the operation that made it.
OwnMade: Dues of the operations that make trees, boxes and numbers, under the rule Owned: trees lie in no box's memory.
OwnTail: The region rule for trees and boxes (OwnMade), and the stores that close such a region.
Stored: The rule Owned, some of whose operations store into boxes of their own region at any time.
StoreMade: Trees, lists, boxes and stores under the rule Stored.
Stores: The region rule for trees, boxes and stores (StoreMade): a region whose stores into its own boxes may come up at any time. -/
import Derived.Test.YtkghlebfmggidaaDoorMade
import Derived.Great.Walk
set_option linter.unusedSimpArgs false
set_option linter.unusedVariables false
set_option linter.unnecessarySimpa false

/-! ## OwnMade -/
namespace Go.Proofs.YtkghlebfmggidaaDoor
open Go.RowKit

/-- Memory that is no box's. -/
def okO (bx : Nat → Bool) (A : Nat → Nat) (w : World) (b : Nat) : Prop := b < w.heap.size ∧ bx (A b) = false

inductive Ko | kt (t : T) | kl (l : List T) | kb | ki (n : Int)

def Ko.At (bx : Nat → Bool) (i : Nat) : Ko → (Nat → Nat) → World → Value → Prop
  | .kt t, A, w, v => ∃ B c, v = .agg (t.hd.cells (.slice B t.subs.length c)).toArray ∧ T.In w (okO bx A w) t B
  | .kl l, A, w, v => ∃ g, v = .slice (some ⟨g, 0, none⟩) l.length l.length ∧ TL.In w (okO bx A w) l (some ⟨g, 0, none⟩)
  | .kb, A, w, v => ∃ g, v = .pointer (some ⟨g, 0, none⟩) ∧ A g = i ∧ Blk w g 27 zeroCells
  | .ki n, _, _, v => v = .int .i64 n
def koV (bx : Nat → Bool) (kinds : List Ko) (i : Nat) (A : Nat → Nat) (w : World) (v : Value) : Prop := ∀ k, kinds[i]? = some k → k.At bx i A w v

theorem okO.same {bx : Nat → Bool} {A : Nat → Nat} {w w' : World} (hb : Below w.heap.size w w') : Same (okO bx A w) w w' := (same_of_below hb).mono fun b hb => hb.1
theorem okO.next {bx : Nat → Bool} {A A' : Nat → Nat} {w w' : World} (hb : Below w.heap.size w w') (hA : ∀ b, b < w.heap.size → A' b = A b) : ∀ b, okO bx A w b → okO bx A' w' b :=
  fun b h => ⟨Nat.lt_of_lt_of_le h.1 hb.size, by rw [hA b h.1]; exact h.2⟩
theorem okO.lt {bx : Nat → Bool} {A : Nat → Nat} {w : World} : ∀ b, okO bx A w b → b < w.heap.size := fun b h => h.1

theorem Ko.At.next {bx : Nat → Bool} {i : Nat} : ∀ {k : Ko} {A A' : Nat → Nat} {w w' : World} {v : Value}, k.At bx i A w v → Below w.heap.size w w' → (∀ b, b < w.heap.size → A' b = A b) → k.At bx i A' w' v
  | .kt t, _, _, _, _, _, ⟨B, c, h1, h2⟩, hb, hA => ⟨B, c, h1, h2.same (okO.same hb) (okO.next hb hA)⟩
  | .kl l, _, _, _, _, _, ⟨g, h1, h2⟩, hb, hA => ⟨g, h1, TL.In.same (okO.same hb) (okO.next hb hA) h2⟩
  | .kb, _, _, _, _, _, ⟨g, h1, h2, h3⟩, hb, hA => ⟨g, h1, by rw [hA g h3.lt, h2], h3.next hb⟩
  | .ki n, _, _, _, _, _, h, _, _ => h

inductive So | ld (x : Nat) | lst (js : List Nat) | seq (j : Nat) | alt (j : Nat) | group (j : Nat) | rep (j k l : Nat) | box | mv (x : Nat) | sub1 (j : Nat) | add (j k : Nat)

def So.deps : So → List Nat
  | .ld _ | .box | .mv _ => []
  | .lst js => js
  | .seq j | .alt j | .group j | .sub1 j => [j]
  | .rep j k l => [j, k, l]
  | .add j k => [j, k]
/-- Operation i, with slots ds. -/
def So.op (ds : List Nat) : So → Op
  | .ld x => .load 27 (.tmp x)
  | .lst js => .buildSlice 25 js.length ((js.zipIdx 0).map fun x => (x.2, Operand.tmp (ds.getD x.1 0))).toArray
  | .seq j => .call { callee := .value (.func 10), args := #[.tmp (ds.getD j 0)], argTypes := #[25] }
  | .alt j => .call { callee := .value (.func 11), args := #[.tmp (ds.getD j 0)], argTypes := #[25] }
  | .group j => .call { callee := .value (.func 12), args := #[.const (.int .i64 1), .tmp (ds.getD j 0)], argTypes := #[3, 27] }
  | .rep j k l => .call { callee := .value (.func 16), args := #[.tmp (ds.getD j 0), .tmp (ds.getD k 0), .tmp (ds.getD l 0)], argTypes := #[27, 3, 3] }
  | .box => .alloc 27
  | .mv x => .move (.tmp x)
  | .sub1 j => .binOp .sub 3 (.tmp (ds.getD j 0)) (.const (.int .i64 1)) 3
  | .add j k => .binOp .add 3 (.tmp (ds.getD j 0)) (.tmp (ds.getD k 0)) 3

def AllO (kinds : List Ko) : List Nat → List T → Prop
  | [], [] => True
  | j :: js, x :: xs => kinds[j]? = some (.kt x) ∧ AllO kinds js xs
  | _, _ => False
theorem AllO.length {kinds : List Ko} : ∀ {js : List Nat} {xs : List T}, AllO kinds js xs → js.length = xs.length
  | [], [], _ => rfl
  | _ :: _, _ :: _, h => congrArg (· + 1) h.2.length
theorem AllO.get {kinds : List Ko} : ∀ {js : List Nat} {xs : List T} {k : Nat} {x : T}, AllO kinds js xs → xs[k]? = some x → ∃ j, js[k]? = some j ∧ kinds[j]? = some (.kt x)
  | [], [], _, _, _, e => by simp at e
  | j :: js, x :: xs, 0, y, h, e => by obtain rfl : x = y := by simpa using e
                                       exact ⟨j, rfl, h.1⟩
  | j :: js, x :: xs, k + 1, y, h, e => h.2.get (by simpa using e)

def AgreeO (kinds : List Ko) (a0 : Act) (w0 : World) (i : Nat) : So → Prop
  | .ld x => ∃ t, kinds[i]? = some (.kt t) ∧ Box a0 w0 x t
  | .lst js => ∃ l, kinds[i]? = some (.kl l) ∧ l ≠ [] ∧ l.length ≤ 1000 ∧ AllO kinds js l
  | .seq j => ∃ l, kinds[i]? = some (.kt (T.seq l)) ∧ kinds[j]? = some (.kl l) ∧ TL.nodes l ≤ 1000000
  | .alt j => ∃ l, kinds[i]? = some (.kt (T.alt l)) ∧ kinds[j]? = some (.kl l) ∧ TL.nodes l ≤ 1000000
  | .group j => ∃ t, kinds[i]? = some (.kt (.mk ⟨7, 0, 0, 0, 0, 1, 0, 0, false⟩ [t])) ∧ kinds[j]? = some (.kt t) ∧ t.nodes ≤ 1000000
  | .rep j k l => ∃ t mn mx, kinds[i]? = some (.kt (trep t mn mx)) ∧ kinds[j]? = some (.kt t) ∧ kinds[k]? = some (.ki mn) ∧ kinds[l]? = some (.ki mx) ∧ t.nodes ≤ 1000000
  | .box => kinds[i]? = some .kb
  | .mv x => ∃ n, kinds[i]? = some (.ki n) ∧ a0.eval (.tmp x) = .int .i64 n
  | .sub1 j => ∃ n, kinds[i]? = some (.ki (n - 1)) ∧ kinds[j]? = some (.ki n) ∧ IsI64 (n - 1)
  | .add j k => ∃ m n, kinds[i]? = some (.ki (m + n)) ∧ kinds[j]? = some (.ki m) ∧ kinds[k]? = some (.ki n) ∧ IsI64 (m + n)

theorem wrap_own {n : Int} (h1 : -9223372036854775808 ≤ n) (h2 : n ≤ 9223372036854775807) : IntKind.i64.wrap n = n := by
  rw [show IntKind.i64.wrap n = (n + 9223372036854775808) % 18446744073709551616 - 9223372036854775808 by simp [IntKind.wrap, IntKind.bits, IntKind.signed]; omega]
  omega

/-- One call that hands back a new tree. -/
theorem dueO_fresh {ops : Array Oper} {Q : Exit → Act → World → Prop} {bx : Nat → Bool} {kinds : List Ko} {i : Nat} {o : Oper} {a : Act} {w : World} {A : Nat → Nat} (hg : o.guard = none) (f : FuncId) (args : Array Value) (t : T)
    (hrun : (execOp a.eval o).run Tryd.prog w = .ok (.enter f args) w) (hk : kinds[i]? = some (.kt t)) (hbx : bx i = false) (hc : Calls Tryd.prog f args w (Fresh t w)) :
    wpList Tryd.prog ops (Exit.then (fun a' w' => ∃ v, a' = a.put o.dst v ∧ Below w.heap.size w w' ∧ koV bx kinds i (fun b => if b < w.heap.size then A b else i) w' v) Q) [o] a w := by
  refine wpList_plain hg fun K hK => ?_
  unfold Oper.wp
  rw [hrun, Oper.upon_enter]
  refine hc.mono fun e w'' hh => ?_
  obtain ⟨B, c, bs, rfl, hown, _, hfr, hb⟩ := hh
  refine hK _ _ ⟨_, rfl, hb, fun k hk' => ?_⟩
  obtain rfl := Option.some.inj (hk.symm.trans hk')
  exact ⟨B, c, rfl, hown.in_ (ok := okO bx _ w'') fun b hb => ⟨(hfr b hb).2, by show bx (if b < _ then _ else _) = false; rw [if_neg (by have := (hfr b hb).1; omega)]; exact hbx⟩⟩

/-- One operation that yields a number and leaves the world. -/
theorem dueO_int {ops : Array Oper} {Q : Exit → Act → World → Prop} {bx : Nat → Bool} {kinds : List Ko} {i : Nat} {o : Oper} {a : Act} {w : World} {A : Nat → Nat} (hg : o.guard = none) (n : Int)
    (hrun : (execOp a.eval o).run Tryd.prog w = .ok (.value (.int .i64 n)) w) (hk : kinds[i]? = some (.ki n)) :
    wpList Tryd.prog ops (Exit.then (fun a' w' => ∃ v, a' = a.put o.dst v ∧ Below w.heap.size w w' ∧ koV bx kinds i (fun b => if b < w.heap.size then A b else i) w' v) Q) [o] a w := by
  refine wpList_plain hg fun K hK => ?_
  unfold Oper.wp
  rw [hrun, Oper.upon_value]
  refine hK _ _ ⟨_, rfl, Below.refl _ _, fun k hk' => ?_⟩
  obtain rfl := Option.some.inj (hk.symm.trans hk')
  rfl

/-- The cells of values side by side, the list's own block among what is let in. -/
theorem TL.In.of_cellsO {w : World} {g : Nat} {ok : Nat → Prop} : ∀ (l : List T) (vs : List Value) (off : Nat), vs.length = l.length →
    (∀ (k : Nat) (t : T), l[k]? = some t → ∃ v, vs[k]? = some v ∧ ∃ B c, v = .agg (t.hd.cells (.slice B t.subs.length c)).toArray ∧ T.In w ok t B) → (∀ (k : Nat) (v : Value), vs[k]? = some v → CellsAt w ⟨g, off + k * 10, none⟩ v.cells.toList) → ok g → TL.In w ok l (some ⟨g, off, none⟩)
  | [], _, _, _, _, _, _ => trivial
  | t :: l, [], _, hl, _, _, _ => by simp at hl
  | t :: l, v :: vs, off, hl, h1, h2, hg => by
    obtain ⟨v', e, B, c, h3, h4⟩ := h1 0 t rfl
    obtain rfl : v = v' := by simpa using e
    refine ⟨g, off, B, c, rfl, hg, ?_, h4, TL.In.of_cellsO l vs (off + 10) (by simpa using hl) (fun k u hk => h1 (k + 1) u (by simpa using hk)) (fun k u hk => ?_) hg⟩
    · have := h2 0 v rfl
      rw [h3] at this
      simpa [Value.cells] using this
    · have := h2 (k + 1) u (by simpa using hk)
      rwa [show off + (k + 1) * 10 = off + 10 + k * 10 by omega] at this
theorem parts_tmpO (a : Act) (σ : Nat → Nat) : ∀ (js : List Nat) (s : Nat), ((js.zipIdx s).map fun x => ((x.2, Operand.tmp (σ x.1)) : Nat × Operand)).map (fun x => (x.1, a.eval x.2)) = ((js.map fun j => a.eval (.tmp (σ j))).zipIdx s).map fun x => (x.2, x.1) := by
  intro js s
  rw [List.zipIdx_map, List.map_map, List.map_map]
  rfl

/-- Values of s cells go side by side into a new block. -/
theorem run_build_valuesO {o : Oper} {a : Act} {w : World} {ops : Array Oper} {Q : Exit → Act → World → Prop} (hg : o.guard = none) (t e s : Nat) (σ : Nat → Nat) (js : List Nat) (ho : o.op = .buildSlice t js.length ((js.zipIdx 0).map fun x => (x.2, Operand.tmp (σ x.1))).toArray)
    (hu : Tryd.prog.underlying t = some (.slice e)) (hi : (Tryd.prog.info? e).map (fun i => (i.zero.map (·.cells.size), i.size)) = some (some s, s)) (hs : 0 < s) (hs2 : s ≤ 100) (hn : js ≠ []) (hl : js.length ≤ 1000)
    (hv : ∀ j ∈ js, (a.eval (.tmp (σ j))).cells.size = s)
    (h : Q .normal (a.put o.dst (.slice (some ⟨w.heap.size, 0, none⟩) js.length js.length)) (w.alloc (.cells ((js.map fun j => a.eval (.tmp (σ j))).flatMap fun (v : Value) => v.cells.toList).toArray e))) : wpList Tryd.prog ops Q [o] a w := by
  cases hie : Tryd.prog.info? e with
  | none => simp [hie] at hi
  | some ie =>
    rw [hie] at hi
    simp only [Option.map_some, Option.some.injEq, Prod.mk.injEq] at hi
    cases hz : ie.zero with
    | none => simp [hz] at hi
    | some z =>
      rw [hz] at hi
      obtain ⟨h1, h2⟩ := hi
      have hpos : 0 < js.length := List.length_pos_iff.2 hn
      have hmul : js.length * s ≤ 1000 * 100 := Nat.mul_le_mul hl hs2
      have hmul0 : 0 < js.length * s := Nat.mul_pos hpos hs
      refine wpList_buildSlice hg t e js.length _ ho ((js.map fun j => a.eval (.tmp (σ j))).flatMap fun (v : Value) => v.cells.toList).toArray ie z hu hie hz (by rw [h2]; omega) (by rw [h2]; omega) ?_ h
      rw [h2, Array.toList_map]
      have := parts_tmpO a σ js 0
      simp only [List.toList_toArray] at *
      rw [this]
      refine Great.fill_whole hs _ _ (fun v hv' => ?_) (by simp)
      obtain ⟨j, hj, rfl⟩ := List.mem_map.1 hv'
      exact hv j hj

theorem core_dueO {ops : Array Oper} {Q : Exit → Act → World → Prop} {ds : List Nat} {kinds : List Ko} {bx : Nat → Bool} {a0 : Act} {w0 : World} {i : Nat} {o : Oper} {s : So} {a : Act} {w : World} {A : Nat → Nat}
    (hos : o.op = s.op ds) (hg : o.guard = none) (hA : AgreeO kinds a0 w0 i s) (hval : ∀ j ∈ s.deps, ∀ k, kinds[j]? = some k → k.At bx j A w (a.eval (.tmp (ds.getD j 0)))) (hbelow : Below w0.heap.size w0 w)
    (hold : ∀ b, b < w0.heap.size → bx (A b) = false) (heval : ∀ x, (s = .ld x ∨ s = .mv x) → a.eval (.tmp x) = a0.eval (.tmp x)) (hb0 : s ≠ .box → bx i = false) :
    wpList Tryd.prog ops (Exit.then (fun a' w' => ∃ v, a' = a.put o.dst v ∧ Below w.heap.size w w' ∧ koV bx kinds i (fun b => if b < w.heap.size then A b else i) w' v) Q) [o] a w := by
  cases s with
  | ld x =>
    obtain ⟨t, hk, g, AA, c, h1, h2, h3⟩ := hA
    have hb := h2.next hbelow
    refine wpList_load_cells hg 27 (.tmp x) hos ⟨g, 0, none⟩ (by rw [heval x (.inl rfl), h1]) (t.hd.cells (.slice AA t.subs.length c)) _ Tryd.underlying27 rfl (by rw [Tryd.sizeNode]; simp [Hd.cells_length]) (fun j u hu => ?_) ?_
    · rw [Addr.add_lit, Nat.zero_add, hb.cell, List.getElem?_toArray]
      exact hu
    · refine ⟨_, rfl, Below.refl _ _, fun k hk' => ?_⟩
      obtain rfl := Option.some.inj (hk.symm.trans hk')
      refine ⟨AA, c, rfl, h3.same (same_of_below hbelow) fun b hb => ⟨Nat.lt_of_lt_of_le hb hbelow.size, ?_⟩⟩
      show bx (if b < _ then _ else _) = false
      rw [if_pos (Nat.lt_of_lt_of_le hb hbelow.size)]
      exact hold b hb
  | seq j =>
    obtain ⟨l, hk, hj, hn⟩ := hA
    obtain ⟨g, h1, h2⟩ := hval j (by simp [So.deps]) _ hj
    exact dueO_fresh hg _ _ _ (by unfold execOp; simp [hos, So.op, go_sem] at h1 ⊢; simp [h1]) hk (hb0 (by simp)) (seq_any l _ l.length w hn (TL.In.same (Same.refl _ _) okO.lt h2))
  | alt j =>
    obtain ⟨l, hk, hj, hn⟩ := hA
    obtain ⟨g, h1, h2⟩ := hval j (by simp [So.deps]) _ hj
    exact dueO_fresh hg _ _ _ (by unfold execOp; simp [hos, So.op, go_sem] at h1 ⊢; simp [h1]) hk (hb0 (by simp)) (alt_any l _ l.length w hn (TL.In.same (Same.refl _ _) okO.lt h2))
  | group j =>
    obtain ⟨t, hk, hj, hn⟩ := hA
    obtain ⟨B, c, h1, h2⟩ := hval j (by simp [So.deps]) _ hj
    exact dueO_fresh hg _ _ _ (by unfold execOp; simp [hos, So.op, go_sem] at h1 ⊢; simp [h1]) hk (hb0 (by simp)) (group_any t B c 1 w hn (h2.same (Same.refl _ _) okO.lt))
  | rep j k l =>
    obtain ⟨t, mn, mx, hk, hj, hkk, hkl, hn⟩ := hA
    obtain ⟨B, c, h1, h2⟩ := hval j (by simp [So.deps]) _ hj
    have h3 : a.eval (.tmp (ds.getD k 0)) = .int .i64 mn := hval k (by simp [So.deps]) _ hkk
    have h4 : a.eval (.tmp (ds.getD l 0)) = .int .i64 mx := hval l (by simp [So.deps]) _ hkl
    exact dueO_fresh hg _ _ _ (by unfold execOp; simp [hos, So.op, go_sem] at h1 h3 h4 ⊢; simp [h1, h3, h4]) hk (hb0 (by simp)) (rep_any t B c mn mx w hn (h2.same (Same.refl _ _) okO.lt))
  | box =>
    have hk : kinds[i]? = some .kb := hA
    obtain ⟨ie, hi, hz0, hz1, hz2⟩ := info_parts Tryd.infoNode
    have hbl := (Below.refl w.heap.size w).alloc (Nat.le_refl _) (.cells zeroCells 27)
    refine Great.wpList_allocTo hg o.dst rfl (.pointer (some ⟨w.heap.size, 0, none⟩)) (.cells zeroCells 27) ?_ ⟨_, rfl, hbl, fun k hk' => ?_⟩
    · unfold execOp
      simp [hos, So.op, go_sem, zeroValue, typeInfo, hi, hz0, Value.cells]
    · obtain rfl := Option.some.inj (hk.symm.trans hk')
      exact ⟨w.heap.size, rfl, by simp, Blk.new _ _ _⟩
  | mv x =>
    obtain ⟨n, hk, hv⟩ := hA
    refine dueO_int hg n ?_ hk
    unfold execOp
    simp only [hos, So.op, heval x (.inr rfl), hv]
    rfl
  | sub1 j =>
    obtain ⟨n, hk, hj, hn⟩ := hA
    have h1 : a.eval (.tmp (ds.getD j 0)) = .int .i64 n := hval j (by simp [So.deps]) _ hj
    refine dueO_int hg _ ?_ hk
    unfold execOp
    obtain ⟨g1, g2⟩ := hn
    simp only [hos, So.op, h1]
    simp [go_sem]
    exact wrap_own (by omega) (by omega)
  | add j k =>
    obtain ⟨m, n, hk, hj, hkk, hn⟩ := hA
    have h1 : a.eval (.tmp (ds.getD j 0)) = .int .i64 m := hval j (by simp [So.deps]) _ hj
    have h2 : a.eval (.tmp (ds.getD k 0)) = .int .i64 n := hval k (by simp [So.deps]) _ hkk
    refine dueO_int hg _ ?_ hk
    unfold execOp
    obtain ⟨g1, g2⟩ := hn
    simp only [hos, So.op, h1, h2]
    simp [go_sem]
    exact wrap_own (by omega) (by omega)
  | lst js =>
    obtain ⟨l, hk, hne, hlen, hall⟩ := hA
    have hl := hall.length
    refine run_build_valuesO hg _ 27 10 (fun j => ds.getD j 0) js hos Tryd.underNodes (by kernel_rfl) (by decide) (by decide) (fun e => hne (List.eq_nil_of_length_eq_zero (by rw [← hl, e]; rfl))) (by omega) (fun j hj => ?_) ?_
    · obtain ⟨k, hk1⟩ := List.getElem?_of_mem hj
      have hkl := (List.getElem?_eq_some_iff.1 hk1).1
      obtain ⟨j', hj', hkd⟩ := hall.get (List.getElem?_eq_getElem (show k < l.length by omega))
      obtain rfl : j = j' := by rw [hk1] at hj'; exact Option.some.inj hj'
      obtain ⟨B, c, h1, _⟩ := hval j hj _ hkd
      rw [h1]; simp [Value.cells, Hd.cells_length]
    · have hbl := (Below.refl w.heap.size w).alloc (Nat.le_refl _) (.cells ((js.map fun j => a.eval (.tmp (ds.getD j 0))).flatMap fun (v : Value) => v.cells.toList).toArray 27)
      refine ⟨_, rfl, hbl, fun k hk' => ?_⟩
      obtain rfl := Option.some.inj (hk.symm.trans hk')
      refine ⟨w.heap.size, by rw [hl], TL.In.of_cellsO l (js.map fun j => a.eval (.tmp (ds.getD j 0))) 0 (by simpa using hl) (fun k t ht => ?_) (fun k v hv j u hu => ?_) ⟨by simp, ?_⟩⟩
      · obtain ⟨j, hj, hkd⟩ := hall.get ht
        refine ⟨_, by rw [List.getElem?_map, hj]; rfl, ?_⟩
        exact Ko.At.next (i := j) (k := .kt t) (hval j (List.mem_of_getElem? hj) _ hkd) hbl (fun b hb => if_pos hb)
      · rw [Addr.add_lit, Nat.zero_add, (Blk.new w 27 _).cell, List.getElem?_toArray]
        refine flat_cells _ (fun v hv => ?_) k v hv j u hu
        obtain ⟨j, hj, rfl⟩ := List.mem_map.1 hv
        obtain ⟨k, hk1⟩ := List.getElem?_of_mem hj
        have hkl := (List.getElem?_eq_some_iff.1 hk1).1
        obtain ⟨j', hj', hkd⟩ := hall.get (List.getElem?_eq_getElem (show k < l.length by omega))
        obtain rfl : j = j' := by rw [hk1] at hj'; exact Option.some.inj hj'
        obtain ⟨B, c, h1, _⟩ := hval j hj _ hkd
        rw [h1]; simp [Value.cells, Hd.cells_length]
      · show bx (if w.heap.size < _ then _ else _) = false
        rw [if_neg (Nat.lt_irrefl _)]
        exact hb0 (by simp)

theorem made_dueO {ops : Array Oper} {Q : Exit → Act → World → Prop} {ds : List Nat} {specs : List So} {kinds : List Ko} {bx : Nat → Bool} {a0 : Act} {w0 : World} (hds : ds.length = specs.length)
    (hop : ∀ i o, i < specs.length → ops[i]? = some o → ∃ s, specs[i]? = some s ∧ o.op = s.op ds ∧ o.guard = none ∧ ∀ j ∈ s.deps, ∃ e ∈ o.after, Region.binds .any e = true ∧ e.on = j)
    (hag : ∀ (i : Nat) (s : So), specs[i]? = some s → AgreeO kinds a0 w0 i s) (hdep : ∀ (i : Nat) (s : So), specs[i]? = some s → ∀ j ∈ s.deps, j < specs.length)
    (hx : ∀ x, (So.ld x ∈ specs ∨ So.mv x ∈ specs) → x ∉ ds) (hbx : ∀ (i : Nat) (s : So), specs[i]? = some s → (bx i = true ↔ s = .box)) (hbn : bx ds.length = false) :
    ∀ i o, i < ds.length → ops[i]? = some o → DueOwn Tryd.prog ops Q ds (koV bx kinds) a0 w0 i o := by
  intro i o hi ho listed a w A hf haft
  obtain ⟨s, hsi, hos, hg, hed⟩ := hop i o (by omega) ho
  have hval : ∀ j ∈ s.deps, ∀ k, kinds[j]? = some k → k.At bx j A w (a.eval (.tmp (ds.getD j 0))) := by
    intro j hj k hk
    have hjl := hdep i s hsi _ hj
    obtain ⟨e, he, hb, rfl⟩ := hed j hj
    have h1 : ds[e.on]? = some (ds.getD e.on 0) := by
      rw [List.getD_eq_getElem?_getD, List.getElem?_eq_getElem (by omega)]; rfl
    exact hf.val e.on _ h1 (haft e he hb) k hk
  have hA := hag i s hsi
  have hb0 : s ≠ .box → bx i = false := fun hne => by
    cases h : bx i with
    | false => rfl
    | true => exact absurd ((hbx i s hsi).1 h) hne
  refine core_dueO hos hg hA hval hf.below (fun b hb => by rw [hf.old b hb]; exact hbn) (fun x hx' => hf.eval (hx x ?_)) hb0
  have hm := List.mem_of_getElem? hsi
  rcases hx' with e | e
  · rw [e] at hm; exact .inl hm
  · rw [e] at hm; exact .inr hm
end Go.Proofs.YtkghlebfmggidaaDoor

/-! ## OwnTail -/
namespace Go.Proofs.YtkghlebfmggidaaDoor
open Go.RowKit

def AgreeOFrom (kinds : List Ko) (a0 : Act) (w0 : World) : Nat → List So → Prop
  | _, [] => True
  | i, s :: ss => AgreeO kinds a0 w0 i s ∧ AgreeOFrom kinds a0 w0 (i + 1) ss
theorem AgreeOFrom.get {kinds : List Ko} {a0 : Act} {w0 : World} : ∀ {l : List So} {k : Nat}, AgreeOFrom kinds a0 w0 k l → ∀ i s, l[i]? = some s → AgreeO kinds a0 w0 (k + i) s
  | [], _, _, i, s, h => by simp at h
  | x :: l, k, h, 0, s, e => by obtain rfl : x = s := by simpa using e
                                exact h.1
  | x :: l, k, h, i + 1, s, e => by
    have := h.2.get i s (by simpa using e)
    rwa [show k + 1 + i = k + (i + 1) by omega] at this

def depsOB (ops : Array Oper) (specs : List So) : Bool :=
  (List.range specs.length).all fun i => match ops[i]?, specs[i]? with
    | some o, some s => o.guard.isNone && s.deps.all fun j => decide (j < specs.length) && o.after.any fun e => Region.binds .any e && e.on == j
    | _, _ => false
def slotsOB (ds : List Nat) (specs : List So) : Bool := specs.all fun s => match s with | .ld x | .mv x => !ds.contains x | _ => true
def boxAt (specs : List So) (i : Nat) : Bool := match specs[i]? with | some .box => true | _ => false

theorem wp_region_boxes {id : Nat} {ops : Array Oper} {Q : Exit → Act → World → Prop} {a0 : Act} {w0 : World} (ds : List Nat) (specs : List So) (kinds : List Ko)
    (hm : Tryd.prog.follows .mixedOrders = true) (hn : ds.length = specs.length) (hB : shapeB ops ds = true) (hop : (ops.toList.take specs.length).map (·.op) = specs.map (So.op ds)) (hd : depsOB ops specs = true) (hs : slotsOB ds specs = true)
    (hlt : ds.all (fun d => decide (d < a0.tmps.size)) = true) (hag : AgreeOFrom kinds a0 w0 0 specs) {k : Nat} (hk : ds.length + k = ops.size)
    (htail : ∀ (vals : Nat → Value) (w : World) (A : Nat → Nat), Below w0.heap.size w0 w → (∀ b, b < w0.heap.size → A b = ds.length) → (∀ (i d : Nat), ds[i]? = some d → ∀ (kd : Ko), kinds[i]? = some kd → kd.At (boxAt specs) i A w (vals d)) → wpAny Tryd.prog .any ops Q k (firstB ds.length ops.size) (putAll a0 ds vals) w) :
    (Code.region id ops true).wp Tryd.prog Q a0 w0 := by
  have hdd : ∀ i, i < specs.length → ∃ o s, ops[i]? = some o ∧ specs[i]? = some s ∧ o.guard = none ∧ ∀ j ∈ s.deps, j < specs.length ∧ ∃ e ∈ o.after, Region.binds .any e = true ∧ e.on = j := by
    intro i hi
    have := List.all_eq_true.1 hd i (by simpa using hi)
    cases ho : ops[i]? with
    | none => rw [ho] at this; cases this
    | some o =>
      cases hs : specs[i]? with
      | none => rw [ho, hs] at this; cases this
      | some s =>
        rw [ho, hs] at this
        simp only [Bool.and_eq_true, List.all_eq_true, decide_eq_true_eq, Option.isNone_iff_eq_none] at this
        refine ⟨o, s, rfl, rfl, this.1, fun j hj => ?_⟩
        obtain ⟨h1, h2⟩ := this.2 j hj
        obtain ⟨e, he, hb⟩ := Array.any_eq_true'.1 h2
        simp only [Bool.and_eq_true, beq_iff_eq] at hb
        exact ⟨h1, e, he, hb.1, hb.2⟩
  refine wp_region_owned (V := koV (boxAt specs) kinds) (k := k) hm (fun i A A' w w' v h hb hA kd hk => (h kd hk).next hb hA) hB hlt (made_dueO hn (fun i o hi ho => ?_) (fun i s h => by have := hag.get i s h; rwa [Nat.zero_add] at this) (fun i s h j hj => ?_) (fun x hx => ?_) (fun i s h => ?_) ?_) hk htail
  · obtain ⟨o', s, h1, h2, h3, h4⟩ := hdd i hi
    obtain rfl := Option.some.inj (ho.symm.trans h1)
    refine ⟨s, h2, ?_, h3, fun j hj => (h4 j hj).2⟩
    have e1 : ((ops.toList.take specs.length).map (·.op))[i]? = some o.op := by
      rw [List.getElem?_map, List.getElem?_take_of_lt hi, Array.getElem?_toList, ho]
      rfl
    rw [hop, List.getElem?_map, h2] at e1
    exact (Option.some.inj e1).symm
  · obtain ⟨o', s', h1, h2, h3, h4⟩ := hdd i (List.getElem?_eq_some_iff.1 h).1
    obtain rfl := Option.some.inj (h.symm.trans h2)
    exact (h4 j hj).1
  · rcases hx with hx | hx
    · have := List.all_eq_true.1 hs _ hx
      simpa using this
    · have := List.all_eq_true.1 hs _ hx
      simpa using this
  · unfold boxAt
    rw [h]
    cases s <;> simp
  · unfold boxAt
    rw [hn, List.getElem?_eq_none (Nat.le_refl _)]

/-- A store of a tree into a box, the only one that may come up. -/
theorem wpAny_boxed {ops : Array Oper} {Q : Exit → Act → World → Prop} {listed : Array Bool} {a : Act} {w : World} {o : Oper} {x y : Operand} (i : Nat) (hr : Region.ready .any ops listed = [i]) (ho : ops[i]? = some o) (hop : o.op = .store 27 x y) (hg : o.guard = none) (hd : o.dst = none)
    (g : Nat) (cur : Array Value) (hx : a.eval x = .pointer (some ⟨g, 0, none⟩)) (hb : Blk w g 27 cur) (hc : cur.size = 10) (t : T) (B : Option Addr) (c : Nat) (hy : a.eval y = .agg (t.hd.cells (.slice B t.subs.length c)).toArray) {k : Nat}
    (h : ∀ w', Blk w' g 27 (t.hd.cells (.slice B t.subs.length c)).toArray → w.grownBy w' (some g) → w'.heap.size = w.heap.size → wpAny Tryd.prog .any ops Q k (listed.setIfInBounds i true) a w') : wpAny Tryd.prog .any ops Q (k + 1) listed a w := by
  refine ⟨fun h0 => (by rw [hr] at h0; cases h0), fun j hj => ?_⟩
  rw [hr] at hj
  obtain rfl : j = i := by simpa using hj
  refine wpOp_mono (fun a' w' h => h) (wpOp_of_list ho (Q := Q) (wpList_store_row hg _ x y hop g 0 _ cur _ hx hy hb (by rw [Tryd.sizeNode]; simp [Hd.cells_length]) (by simp [Hd.cells_length, hc]) (fun u hu => cells_one t.hd B t.subs.length c u (by simpa using hu)) fun w' h1 h2 h3 => ?_))
  have h1' := h1.out
  rw [splice_all (by simp [Hd.cells_length, hc])] at h1'
  rw [hd]
  exact h w' h1' h2 h3

/-- No store into a box meets a tree. -/
theorem T.In.boxed {bx : Nat → Bool} {A : Nat → Nat} {w w' : World} {t : T} {B : Option Addr} {g i : Nat} (h : T.In w (okO bx A w) t B) (hg : w.grownBy w' (some g)) (hA : A g = i) (hbx : bx i = true) : T.In w' (okO bx A w') t B :=
  h.same (fun b hb => hg.block b hb.1 (fun e => by injection e with e; subst e; have := hb.2; rw [hA, hbx] at this; cases this)) fun b hb => ⟨Nat.lt_of_lt_of_le hb.1 hg.size, hb.2⟩
theorem Blk.boxed {w w' : World} {g g' : Nat} {t : TypeId} {cs : Array Value} (h : Blk w g t cs) (hg : w.grownBy w' (some g')) (hne : g ≠ g') : Blk w' g t cs :=
  h.same (ok := fun b => b = g) (fun b hb => by subst hb; exact hg.block b h.lt (fun e => by injection e with e; exact hne e)) rfl

theorem putAll_evalO {ds : List Nat} {vals : Nat → Value} {a : Act} {s : Nat} (h : (ds.contains s && decide (s < a.tmps.size)) = true) : (putAll a ds vals).eval (.tmp s) = vals s := by
  simp only [Bool.and_eq_true, decide_eq_true_eq, List.contains_iff_mem] at h
  have := (putAll_get vals ds a s).2.2
  rw [if_pos h] at this
  simp only [Act.eval, Array.getD_eq_getD_getElem?, this, Option.getD_some]

theorem wpAny_done {ops : Array Oper} {Q : Exit → Act → World → Prop} {listed : Array Bool} {a : Act} {w : World} (hr : Region.ready .any ops listed = []) (h : Q .normal a w) : wpAny Tryd.prog .any ops Q 0 listed a w := ⟨hr, h⟩
end Go.Proofs.YtkghlebfmggidaaDoor

/-! ## Stored -/
namespace Go.Proofs.YtkghlebfmggidaaDoor
open Go.RowKit

section
variable {P : Program} {ops : Array Oper} {Q : Exit → Act → World → Prop}

/-- A step that may change the blocks of one operation's making. -/
def Stp (tg : Option Nat) (A : Nat → Nat) (w w' : World) : Prop := Below 0 w w' ∧ (∀ b, b < w.heap.size → some (A b) ≠ tg → w'.heap[b]? = w.heap[b]?) ∧ ∀ g t cur, Blk w g t cur → ∃ cur', Blk w' g t cur' ∧ cur'.size = cur.size
theorem Stp.of_below {tg : Option Nat} {A : Nat → Nat} {w w' : World} (h : Below w.heap.size w w') : Stp tg A w w' := ⟨h.mono (Nat.zero_le _), fun b hb _ => h.block b hb, fun g t cur hb => ⟨cur, hb.next h, rfl⟩⟩
theorem Stp.below {tg : Option Nat} {A : Nat → Nat} {w0 w w' : World} {n : Nat} (h : Stp tg A w w') (hb : Below w0.heap.size w0 w) (hA : ∀ b, b < w0.heap.size → A b = n) (ht : tg ≠ some n) : Below w0.heap.size w0 w' :=
  ⟨h.1.os.trans hb.os, h.1.tape.trans hb.tape, h.1.output.trans hb.output, Nat.le_trans hb.size h.1.size, fun b h' => (h.2.1 b (Nat.lt_of_lt_of_le h' hb.size) (by rw [hA b h']; exact fun e => ht e.symm)).trans (hb.block b h')⟩

def slotV (a : Act) : Option Nat → Value
  | some d => a.tmps.getD d undef
  | none => undef
def dstV (d : Option Nat) (v : Value) : Value := match d with | some _ => v | none => undef
def apartB (ds : List (Option Nat)) : Bool := (List.range ds.length).all fun i => (List.range ds.length).all fun k => i == k || (ds.getD i none).isNone || ds.getD i none != ds.getD k none
def shapeSB (ops : Array Oper) (ds : List (Option Nat)) : Bool :=
  apartB ds && decide (ds.length ≤ ops.size) &&
  (List.range ds.length).all (fun i => match ops[i]? with | some o => o.dst == ds.getD i none && o.guard.isNone && o.after.all (fun e => decide (e.on < i)) | none => false) &&
  (List.range ops.size).all (fun t => decide (t < ds.length) || (match ops[t]? with | some o => (List.range ds.length).all (fun i => o.after.any (fun e => Region.binds .any e && e.on == i)) | none => true))
theorem apart_inj {ds : List (Option Nat)} (h : apartB ds = true) {i k d : Nat} (hi : ds[i]? = some (some d)) (hk : ds[k]? = some (some d)) : i = k := by
  have li := (List.getElem?_eq_some_iff.1 hi).1
  have lk := (List.getElem?_eq_some_iff.1 hk).1
  have := List.all_eq_true.1 (List.all_eq_true.1 h i (by simpa using li)) k (by simpa using lk)
  simpa [List.getD_eq_getElem?_getD, hi, hk] using this
def slotsOf (ds : List (Option Nat)) : List Nat := ds.filterMap fun x => x
theorem mem_slots {ds : List (Option Nat)} {s : Nat} : s ∈ slotsOf ds ↔ ∃ i : Nat, ds[i]? = some (some s) := by
  simp only [slotsOf, List.mem_filterMap]
  constructor
  · rintro ⟨x, hx, rfl⟩
    obtain ⟨i, hi⟩ := List.getElem?_of_mem hx
    exact ⟨i, hi⟩
  · rintro ⟨i, hi⟩
    exact ⟨_, List.mem_of_getElem? hi, rfl⟩

/-- The frame and the world while the operations come up: those that have, hold what they should. -/
structure Stored (ds : List (Option Nat)) (V : Nat → (Nat → Nat) → World → Value → Prop) (a0 : Act) (w0 : World) (listed : Nat → Bool) (a : Act) (w : World) (A : Nat → Nat) : Prop where
  fresh : ∀ i, i < ds.length → listed i = false → ∀ b, b < w.heap.size → A b ≠ i
  old : ∀ b, b < w0.heap.size → A b = ds.length
  below : Below w0.heap.size w0 w
  defers : a.defers = a0.defers
  size : a.tmps.size = a0.tmps.size
  val : ∀ i d, ds[i]? = some d → listed i = true → V i A w (slotV a d)
  rest : ∀ s, (∀ i, ds[i]? = some (some s) → listed i = false) → a.tmps[s]? = a0.tmps[s]?

theorem Stored.eval {ds : List (Option Nat)} {V : Nat → (Nat → Nat) → World → Value → Prop} {a0 : Act} {w0 : World} {listed : Nat → Bool} {a : Act} {w : World} {A : Nat → Nat} (h : Stored ds V a0 w0 listed a w A) {s : Nat} (hs : s ∉ slotsOf ds) : a.eval (.tmp s) = a0.eval (.tmp s) := by
  have := h.rest s fun i hi => absurd (mem_slots.2 ⟨i, hi⟩) hs
  simp only [Act.eval, Array.getD_eq_getD_getElem?, this]

theorem Stored.put {ds : List (Option Nat)} {tg : Nat → Option Nat} {V : Nat → (Nat → Nat) → World → Value → Prop} {a0 : Act} {w0 : World} {listed : Nat → Bool} {a : Act} {w w' : World} {A A' : Nat → Nat} {i : Nat} {d : Option Nat} {v : Value} (h : Stored ds V a0 w0 listed a w A)
    (hmono : ∀ k i A A' w w' v, k ≠ i → V k A w v → Stp (tg i) A w w' → (∀ b, b < w.heap.size → A' b = A b) → (∀ b, w.heap.size ≤ b → A' b = i) → V k A' w' v) (hap : apartB ds = true) (hd : ds[i]? = some d) (hlt : ∀ s, d = some s → s < a0.tmps.size) (htg : tg i ≠ some ds.length) (hb : Stp (tg i) A w w') (hA : ∀ b, b < w.heap.size → A' b = A b) (hA2 : ∀ b, w.heap.size ≤ b → A' b = i) (hv : V i A' w' (dstV d v)) :
    Stored ds V a0 w0 (fun k => k == i || listed k) (a.put d v) w' A' := by
  refine ⟨fun k hk hl b hb' => ?_, fun b hb' => (hA b (Nat.lt_of_lt_of_le hb' h.below.size)).trans (h.old b hb'), hb.below h.below h.old htg, by cases d <;> exact h.defers, by cases d <;> simpa [Act.put] using h.size, fun k e hk hl => ?_, fun s hs => ?_⟩
  · simp only [Bool.or_eq_false_iff, beq_eq_false_iff_ne] at hl
    by_cases hlt' : b < w.heap.size
    · rw [hA b hlt']; exact h.fresh k hk hl.2 b hlt'
    · rw [hA2 b (Nat.le_of_not_lt hlt')]; exact fun e => hl.1 e.symm
  · by_cases hki : k = i
    · subst hki
      obtain rfl := Option.some.inj (hd.symm.trans hk)
      cases d with
      | none => exact hv
      | some d =>
        have : d < a.tmps.size := by rw [h.size]; exact hlt d rfl
        simpa [slotV, dstV, Act.put, Array.getD_eq_getD_getElem?, this] using hv
    · have hl' : listed k = true := by simpa [hki] using hl
      have := hmono _ i _ _ _ _ _ hki (h.val k e hk hl') hb hA hA2
      cases e with
      | none => exact this
      | some e =>
        cases d with
        | none => exact this
        | some d =>
          have hne : d ≠ e := fun e' => by subst e'; exact hki (apart_inj hap hk hd)
          simpa [slotV, Act.put, Array.getD_eq_getD_getElem?, Array.getElem?_setIfInBounds_ne hne] using this
  · have hr := h.rest s fun k hk => by
      have := hs k hk
      simp only [Bool.or_eq_false_iff] at this
      exact this.2
    cases d with
    | none => exact hr
    | some d =>
      have hne : d ≠ s := fun e' => by
        subst e'
        have := hs i hd
        simp at this
      simpa [Act.put, Array.getElem?_setIfInBounds_ne hne] using hr

/-- One operation's due. -/
def DueStored (P : Program) (ops : Array Oper) (Q : Exit → Act → World → Prop) (ds : List (Option Nat)) (tg : Nat → Option Nat) (V : Nat → (Nat → Nat) → World → Value → Prop) (a0 : Act) (w0 : World) (i : Nat) (o : Oper) : Prop :=
  ∀ listed a w A, Stored ds V a0 w0 listed a w A → listed i = false → (∀ e ∈ o.after, Region.binds .any e = true → listed e.on = true) →
    wpOp P ops Q i (fun a' w' => ∃ v, a' = a.put o.dst v ∧ Stp (tg i) A w w' ∧ V i (fun b => if b < w.heap.size then A b else i) w' (dstV o.dst v)) a w

theorem stored_main {ds : List (Option Nat)} {tg : Nat → Option Nat} {V : Nat → (Nat → Nat) → World → Value → Prop} {a0 : Act} {w0 : World} (hmono : ∀ k i A A' w w' v, k ≠ i → V k A w v → Stp (tg i) A w w' → (∀ b, b < w.heap.size → A' b = A b) → (∀ b, w.heap.size ≤ b → A' b = i) → V k A' w' v) (htg : ∀ i, tg i ≠ some ds.length)
    (hB : shapeSB ops ds = true) (hlt : ∀ d ∈ slotsOf ds, d < a0.tmps.size) (hdue : ∀ i o, i < ds.length → ops[i]? = some o → DueStored P ops Q ds tg V a0 w0 i o) {k : Nat}
    (htail : ∀ vals w A, Below w0.heap.size w0 w → (∀ b, b < w0.heap.size → A b = ds.length) → (∀ i d, ds[i]? = some d → V i A w (match d with | some d => vals d | none => undef)) → wpAny P .any ops Q k (firstB ds.length ops.size) (putAll a0 (slotsOf ds) vals) w) :
    ∀ (m : Nat) (listed : Array Bool) (a : Act) (w : World) (A : Nat → Nat), ((List.range ds.length).filter fun i => !listed.getD i true).length = m → listed.size = ops.size → (∀ t, ds.length ≤ t → listed.getD t false = false) →
      Stored ds V a0 w0 (fun i => listed.getD i false) a w A → wpAny P .any ops Q (m + k) listed a w := by
  simp only [shapeSB, Bool.and_eq_true, decide_eq_true_eq, List.all_eq_true, List.mem_range, Bool.or_eq_true] at hB
  obtain ⟨⟨⟨hnd, hle⟩, hsh⟩, hwait⟩ := hB
  have hget : ∀ (listed : Array Bool) i, listed.size = ops.size → i < ops.size → listed.getD i true = listed.getD i false := fun listed i hs hi => by
    simp [Array.getD_eq_getD_getElem?, hs ▸ hi, show i < listed.size by omega]
  intro m
  induction m with
  | zero =>
    intro listed a w A hc hsz hoff hf
    have hall : ∀ i, i < ds.length → listed.getD i false = true := fun i hi => by
      have h0 := List.eq_nil_of_length_eq_zero hc
      have := List.filter_eq_nil_iff.1 h0 i (by simpa using hi)
      rw [← hget listed i hsz (by omega)]
      simpa using this
    have hl : listed = firstB ds.length ops.size := by
      refine Array.ext_getElem? fun i => ?_
      by_cases hi : i < ops.size
      · have e1 : listed[i]? = some (listed.getD i false) := by simp [Array.getD_eq_getD_getElem?, show i < listed.size by omega]
        rw [e1]
        simp only [firstB, List.getElem?_toArray, List.getElem?_map, List.getElem?_range hi, Option.map_some]
        by_cases hn : i < ds.length
        · rw [hall i hn]; simp [hn]
        · rw [hoff i (by omega)]; simp [hn]
      · rw [Array.getElem?_eq_none (by omega)]
        simp [firstB, List.getElem?_eq_none (show (List.range ops.size).length ≤ i by simp; omega)]
    have ha : a = putAll a0 (slotsOf ds) (fun s => a.tmps.getD s undef) := by
      obtain ⟨h1, h2, _⟩ := putAll_get (fun s => a.tmps.getD s undef) (slotsOf ds) a0 0
      have ht : a.tmps = (putAll a0 (slotsOf ds) (fun s => a.tmps.getD s undef)).tmps := by
        refine Array.ext_getElem? fun s => ?_
        rw [(putAll_get (fun s => a.tmps.getD s undef) (slotsOf ds) a0 s).2.2]
        by_cases hs : s ∈ slotsOf ds ∧ s < a0.tmps.size
        · rw [if_pos hs]
          simp [Array.getD_eq_getD_getElem?, show s < a.tmps.size by rw [hf.size]; exact hs.2]
        · rw [if_neg hs]
          by_cases hm : s ∈ slotsOf ds
          · have : ¬ s < a0.tmps.size := fun h => hs ⟨hm, h⟩
            rw [Array.getElem?_eq_none (by rw [hf.size]; omega), Array.getElem?_eq_none (by omega)]
          · exact hf.rest s fun i hi => absurd (mem_slots.2 ⟨i, hi⟩) hm
      cases a
      have hd := hf.defers
      generalize putAll a0 (slotsOf ds) _ = b at *
      cases b
      simp_all
    rw [hl, Nat.zero_add, ha]
    refine htail _ w A hf.below hf.old fun i d hi => ?_
    have := hf.val i d hi (hall i (List.getElem?_eq_some_iff.1 hi).1)
    cases d <;> exact this
  | succ m ih =>
    intro listed a w A hc hsz hoff hf
    have hun : ∃ i, i < ds.length ∧ listed.getD i false = false := by
      cases hl : (List.range ds.length).filter fun i => !listed.getD i true with
      | nil => rw [hl] at hc; simp at hc
      | cons i r =>
        have hi : i ∈ (List.range ds.length).filter fun i => !listed.getD i true := by rw [hl]; simp
        obtain ⟨h1, h2⟩ := List.mem_filter.1 hi
        have h1' : i < ds.length := by simpa using h1
        exact ⟨i, h1', by rw [← hget listed i hsz (by omega)]; simpa using h2⟩
    have hleast : ∃ i, i < ds.length ∧ listed.getD i false = false ∧ ∀ j, j < i → listed.getD j false = true := by
      obtain ⟨i, h1, h2⟩ := hun
      induction i using Nat.strongRecOn with
      | ind i ihi =>
        by_cases h : ∃ j, j < i ∧ listed.getD j false = false
        · obtain ⟨j, hj, hj2⟩ := h
          exact ihi j hj (by omega) hj2
        · exact ⟨i, h1, h2, fun j hj => by
            cases hb : listed.getD j false with
            | true => rfl
            | false => exact absurd ⟨j, hj, hb⟩ h⟩
    rw [show m + 1 + k = (m + k) + 1 by omega]
    refine ⟨fun h0 => ?_, fun i hi => ?_⟩
    · exfalso
      obtain ⟨i, h1, h2, h3⟩ := hleast
      have hsi := hsh i h1
      cases ho : ops[i]? with
      | none => rw [ho] at hsi; cases hsi
      | some o =>
        rw [ho] at hsi
        simp only [Bool.and_eq_true, Array.all_eq_true_iff_forall_mem, decide_eq_true_eq] at hsi
        have : i ∈ Region.ready .any ops listed := mem_ready.2 ⟨by rw [hget listed i hsz (by omega)]; exact h2, o, ho, fun e he _ => h3 e.on (hsi.2 e he)⟩
        rw [h0] at this
        cases this
    · obtain ⟨hnot, o, ho, hafter⟩ := mem_ready.1 hi
      have hio : i < ops.size := (Array.getElem?_eq_some_iff.1 ho).1
      have hin : i < ds.length := by
        rcases hwait i hio with h | h
        · exact h
        · exfalso
          obtain ⟨j, h1, h2⟩ := hun
          rw [ho] at h
          simp only [List.all_eq_true, List.mem_range] at h
          obtain ⟨e, he, hb⟩ := Array.any_eq_true'.1 (h j h1)
          simp only [Bool.and_eq_true, beq_iff_eq] at hb
          have := hafter e he hb.1
          rw [hb.2, h2] at this
          cases this
      have hsi := hsh i hin
      rw [ho] at hsi
      simp only [Bool.and_eq_true, beq_iff_eq, Array.all_eq_true_iff_forall_mem, decide_eq_true_eq] at hsi
      have hdi : ds[i]? = some ds[i] := List.getElem?_eq_getElem hin
      have hdst : o.dst = ds[i] := by rw [hsi.1.1, List.getD_eq_getElem?_getD, hdi]; rfl
      have hun_i : listed.getD i false = false := by rw [← hget listed i hsz hio]; exact hnot
      refine wpOp_mono (fun a' w' h => ?_) (id (hdue i o hin ho (fun i => listed.getD i false) a w A hf hun_i (fun e he hb => hafter e he hb)))
      obtain ⟨v, rfl, hb, hv⟩ := h
      rw [hdst] at hv ⊢
      have hcnt : ((List.range ds.length).filter fun j => !(listed.setIfInBounds i true).getD j true).length = m := by
        have e1 : ∀ j, j < ds.length → (!(listed.setIfInBounds i true).getD j true) = (!listed.getD j true && !(j == i)) := fun j hj => by
          by_cases hji : i = j
          · subst hji; simp [Array.getD_eq_getD_getElem?, show i < listed.size by omega]
          · rw [getD_set_ne true hji]
            simp [show ¬ j = i from fun e => hji e.symm]
        have e2 : (List.range ds.length).filter (fun j => !(listed.setIfInBounds i true).getD j true) = ((List.range ds.length).filter fun j => !listed.getD j true).filter fun j => !(j == i) := by
          rw [List.filter_filter]
          refine List.filter_congr fun j hj => ?_
          rw [e1 j (by simpa using hj), Bool.and_comm]
        have hmem : i ∈ (List.range ds.length).filter fun j => !listed.getD j true := List.mem_filter.2 ⟨by simpa using hin, by rw [hnot]; rfl⟩
        have hndf : ((List.range ds.length).filter fun j => !listed.getD j true).Nodup := List.nodup_range.sublist List.filter_sublist
        have e3 : ((List.range ds.length).filter fun j => !listed.getD j true).filter (fun j => !(j == i)) = ((List.range ds.length).filter fun j => !listed.getD j true).erase i := by
          rw [hndf.erase_eq_filter]
          rfl
        rw [e2, e3, List.length_erase_of_mem hmem, hc]
        rfl
      refine ih _ _ _ (fun b => if b < w.heap.size then A b else i) hcnt (by simpa using hsz) (fun t ht => ?_) ?_
      · rw [getD_set_ne false (by omega)]
        exact hoff t ht
      · have := hf.put (tg := tg) (A' := fun b => if b < w.heap.size then A b else i) hmono hnd hdi (fun s hs => hlt s (mem_slots.2 ⟨i, by rw [hdi, hs]⟩)) (htg i) hb (fun b hb => if_pos hb) (fun b hb => if_neg (Nat.not_lt.2 hb)) hv
        refine ⟨fun j hjl hl => this.fresh j hjl ?_, this.old, this.below, this.defers, this.size, fun j d hj hl => this.val j d hj ?_, fun s hs => this.rest s fun j hj => ?_⟩
        · by_cases hji : i = j
          · subst hji
            have h2 : (listed.setIfInBounds i true).getD i false = true := by simp [Array.getD_eq_getD_getElem?, show i < listed.size by omega]
            rw [h2] at hl
            cases hl
          · rw [getD_set_ne false hji] at hl
            simp [hl, show ¬ j = i from fun e => hji e.symm]
        · by_cases hji : i = j
          · simp [hji]
          · rw [getD_set_ne false hji] at hl
            simp [hl]
        · have h1 := hs j hj
          by_cases hji : i = j
          · subst hji
            have h2 : (listed.setIfInBounds i true).getD i false = true := by simp [Array.getD_eq_getD_getElem?, show i < listed.size by omega]
            rw [h2] at h1
            cases h1
          · rw [getD_set_ne false hji] at h1
            simp [h1, show ¬ j = i from fun e => hji e.symm]

/-- THE RULE. -/
theorem wp_region_stored {id : Nat} {ds : List (Option Nat)} {tg : Nat → Option Nat} {V : Nat → (Nat → Nat) → World → Value → Prop} {a0 : Act} {w0 : World} (hm : P.follows .mixedOrders = true) (hmono : ∀ k i A A' w w' v, k ≠ i → V k A w v → Stp (tg i) A w w' → (∀ b, b < w.heap.size → A' b = A b) → (∀ b, w.heap.size ≤ b → A' b = i) → V k A' w' v) (htg : ∀ i, tg i ≠ some ds.length)
    (hB : shapeSB ops ds = true) (hlt : (slotsOf ds).all (fun d => decide (d < a0.tmps.size)) = true) (hdue : ∀ i o, i < ds.length → ops[i]? = some o → DueStored P ops Q ds tg V a0 w0 i o) {k : Nat} (hk : ds.length + k = ops.size)
    (htail : ∀ vals w A, Below w0.heap.size w0 w → (∀ b, b < w0.heap.size → A b = ds.length) → (∀ i d, ds[i]? = some d → V i A w (match d with | some d => vals d | none => undef)) → wpAny P .any ops Q k (firstB ds.length ops.size) (putAll a0 (slotsOf ds) vals) w) :
    (Code.region id ops true).wp P Q a0 w0 := by
  refine wp_region_any hm ?_
  rw [← hk]
  have hlt' : ∀ d ∈ slotsOf ds, d < a0.tmps.size := fun d hd => by simpa using List.all_eq_true.1 hlt d hd
  refine stored_main hmono htg hB hlt' hdue htail ds.length _ a0 _ (fun _ => ds.length) ?_ (by simp [hk]) (fun t _ => ?_) ⟨fun i hi _ b _ e => by omega, fun _ _ => rfl, (Below.refl _ _).drew, rfl, rfl, fun i d _ hl => ?_, fun _ _ => rfl⟩
  · have : (List.range ds.length).filter (fun i => !(Array.replicate (ds.length + k) false).getD i true) = List.range ds.length := by
      refine List.filter_eq_self.2 fun i hi => ?_
      have : i < ds.length := by simpa using hi
      simp [Array.getD_eq_getD_getElem?, show i < ds.length + k by omega]
    rw [this]; simp
  · rcases Nat.lt_or_ge t (ds.length + k) with h | h
    · simp [Array.getD_eq_getD_getElem?, h]
    · simp [Array.getD_eq_getD_getElem?, Array.getElem?_eq_none (show (Array.replicate (ds.length + k) false).size ≤ t by simpa using h)]
  · exfalso
    rcases Nat.lt_or_ge i (ds.length + k) with h | h
    · simp [Array.getD_eq_getD_getElem?, h] at hl
    · simp [Array.getD_eq_getD_getElem?, Array.getElem?_eq_none (show (Array.replicate (ds.length + k) false).size ≤ i by simpa using h)] at hl
end
end Go.Proofs.YtkghlebfmggidaaDoor

/-! ## StoreMade -/
namespace Go.Proofs.YtkghlebfmggidaaDoor
open Go.RowKit

/-- What operation i yields: a value (o), a box (bx), a tree in box number bi (st). -/
inductive Ks | o (k : Ko) | bx | st (bi : Nat) (t : T)

def Ks.At (bx : Nat → Bool) (i : Nat) : Ks → (Nat → Nat) → World → Value → Prop
  | .o k, A, w, v => k ≠ .kb ∧ k.At bx i A w v
  | .bx, A, w, v => ∃ g cur, v = .pointer (some ⟨g, 0, none⟩) ∧ A g = i ∧ Blk w g 27 cur ∧ cur.size = 10 ∧ ∀ b, b < w.heap.size → A b = i → b = g
  | .st bi t, A, w, _ => ∃ g B c, A g = bi ∧ Blk w g 27 (t.hd.cells (.slice B t.subs.length c)).toArray ∧ T.In w (okO bx A w) t B
def ksV (bx : Nat → Bool) (kinds : List Ks) (i : Nat) (A : Nat → Nat) (w : World) (v : Value) : Prop := ∀ k, kinds[i]? = some k → k.At bx i A w v

section
variable {bx : Nat → Bool} {tg : Nat → Option Nat} {A A' : Nat → Nat} {w w' : World} {i k : Nat}
theorem Stp.same (h : Stp (tg i) A w w') (htb : ∀ i bi, tg i = some bi → bx bi = true) : Same (okO bx A w) w w' := fun b hb => h.2.1 b hb.1 fun e => by
  have := htb i _ e.symm
  rw [hb.2] at this
  cases this
theorem Stp.ok (h : Stp (tg i) A w w') (hA : ∀ b, b < w.heap.size → A' b = A b) : ∀ b, okO bx A w b → okO bx A' w' b := fun b hb => ⟨Nat.lt_of_lt_of_le hb.1 h.1.size, by rw [hA b hb.1]; exact hb.2⟩

theorem Ks.At.next {s : Ks} {v : Value} (h : s.At bx k A w v) (hst : ∀ bi t, s = .st bi t → tg k = some bi) (htb : ∀ i bi, tg i = some bi → bx bi = true) (hinj : ∀ i j bi, tg i = some bi → tg j = some bi → i = j)
    (hki : k ≠ i) (hs : Stp (tg i) A w w') (hA : ∀ b, b < w.heap.size → A' b = A b) (hA2 : ∀ b, w.heap.size ≤ b → A' b = i) : s.At bx k A' w' v := by
  cases s with
  | o s =>
    obtain ⟨hne, h⟩ := h
    refine ⟨hne, ?_⟩
    cases s with
    | kt t => obtain ⟨B, c, h1, h2⟩ := h; exact ⟨B, c, h1, h2.same (hs.same htb) (hs.ok hA)⟩
    | kl l => obtain ⟨g, h1, h2⟩ := h; exact ⟨g, h1, TL.In.same (hs.same htb) (hs.ok hA) h2⟩
    | kb => exact absurd rfl hne
    | ki n => exact h
  | bx =>
    obtain ⟨g, cur, h1, h2, h3, h4, h5⟩ := h
    obtain ⟨cur', h6, h7⟩ := hs.2.2 g _ cur h3
    refine ⟨g, cur', h1, by rw [hA g h3.lt, h2], h6, by rw [h7, h4], fun b hb hb2 => ?_⟩
    by_cases hlt : b < w.heap.size
    · exact h5 b hlt (by rw [← hA b hlt]; exact hb2)
    · exact absurd ((hA2 b (by omega)).symm.trans hb2).symm hki
  | st bi t =>
    obtain ⟨g, B, c, h1, h2, h3⟩ := h
    refine ⟨g, B, c, by rw [hA g h2.lt, h1], ?_, h3.same (hs.same htb) (hs.ok hA)⟩
    refine h2.same (ok := fun b => b = g) (fun b hb => ?_) rfl
    subst hb
    exact hs.2.1 b h2.lt fun e => hki (hinj _ _ _ (hst bi t rfl) (by rw [← e, h1]))
end

theorem due_store {ops : Array Oper} {Q : Exit → Act → World → Prop} {kinds : List Ks} {bx : Nat → Bool} {tg : Nat → Option Nat} {i bi x y : Nat} {o : Oper} {a : Act} {w : World} {A : Nat → Nat} {t : T} (hop : o.op = .store 27 (.tmp x) (.tmp y)) (hg : o.guard = none) (hd : o.dst = none)
    (hk : kinds[i]? = some (.st bi t)) (ht : tg i = some bi) (hbx : bx bi = true) (h1 : Ks.At bx bi .bx A w (a.eval (.tmp x))) (h2 : ∃ j, Ks.At bx j (.o (.kt t)) A w (a.eval (.tmp y))) :
    wpList Tryd.prog ops (Exit.then (fun a' w' => ∃ v, a' = a.put o.dst v ∧ Stp (tg i) A w w' ∧ ksV bx kinds i (fun b => if b < w.heap.size then A b else i) w' (dstV o.dst v)) Q) [o] a w := by
  obtain ⟨g, cur, e1, e2, e3, e4, e5⟩ := h1
  obtain ⟨j, _, B, c, f1, f2⟩ := h2
  refine wpList_store_row hg _ (.tmp x) (.tmp y) hop g 0 _ cur _ e1 f1 e3 (by rw [Tryd.sizeNode]; simp [Hd.cells_length]) (by simp [Hd.cells_length, e4]) (fun u hu => cells_one t.hd B t.subs.length c u (by simpa using hu)) fun w' b1 r1 z1 => ?_
  have b1' := b1.out
  rw [splice_all (by simp [Hd.cells_length, e4])] at b1'
  refine ⟨undef, rfl, ⟨⟨r1.os, r1.tape, r1.output, r1.size, fun b hb => absurd hb (Nat.not_lt_zero _)⟩, fun b hb hne => r1.block b hb (fun e => hne ?_), fun g' t' cur' hb' => ?_⟩, fun k hk' => ?_⟩
  · injection e with e
    rw [← e] at e2
    rw [ht, ← e2, e]
  · by_cases hgg : g' = g
    · subst hgg
      have := (show w.heap[g']? = _ from hb').symm.trans e3
      simp only [Option.some.injEq, Obj.cells.injEq] at this
      obtain ⟨rfl, rfl, _⟩ := this
      exact ⟨_, b1', by simp [Hd.cells_length, e4]⟩
    · exact ⟨cur', hb'.boxed r1 hgg, rfl⟩
  · obtain rfl := Option.some.inj (hk.symm.trans hk')
    refine ⟨g, B, c, ?_, b1', ?_⟩
    · show (if g < _ then _ else _) = bi
      rw [if_pos e3.lt, e2]
    · refine f2.same (fun b hb => r1.block b hb.1 fun e => ?_) fun b hb => ⟨Nat.lt_of_lt_of_le hb.1 r1.size, ?_⟩
      · injection e with e
        have := hb.2
        rw [e, e2, hbx] at this
        cases this
      · show bx (if b < _ then _ else _) = false
        rw [if_pos hb.1]
        exact hb.2

theorem due_box {ops : Array Oper} {Q : Exit → Act → World → Prop} {kinds : List Ks} {bx : Nat → Bool} {tg : Nat → Option Nat} {i d : Nat} {o : Oper} {a : Act} {w : World} {A : Nat → Nat} (hop : o.op = .alloc 27) (hg : o.guard = none) (hd : o.dst = some d)
    (hk : kinds[i]? = some .bx) (hfr : ∀ b, b < w.heap.size → A b ≠ i) :
    wpList Tryd.prog ops (Exit.then (fun a' w' => ∃ v, a' = a.put o.dst v ∧ Stp (tg i) A w w' ∧ ksV bx kinds i (fun b => if b < w.heap.size then A b else i) w' (dstV o.dst v)) Q) [o] a w := by
  obtain ⟨ie, hi, hz0, hz1, hz2⟩ := info_parts Tryd.infoNode
  have hbl := (Below.refl w.heap.size w).alloc (Nat.le_refl _) (.cells zeroCells 27)
  refine Great.wpList_allocTo hg o.dst rfl (.pointer (some ⟨w.heap.size, 0, none⟩)) (.cells zeroCells 27) ?_ ⟨_, rfl, Stp.of_below hbl, fun k hk' => ?_⟩
  · unfold execOp
    simp [hop, go_sem, zeroValue, typeInfo, hi, hz0, Value.cells]
  · obtain rfl := Option.some.inj (hk.symm.trans hk')
    rw [hd]
    refine ⟨w.heap.size, zeroCells, rfl, by simp, Blk.new _ _ _, rfl, fun b hb he => ?_⟩
    by_cases hlt : b < w.heap.size
    · have he' : (if b < w.heap.size then A b else i) = i := he
      rw [if_pos hlt] at he'
      exact absurd he' (hfr b hlt)
    · have : b < w.heap.size + 1 := by simpa using hb
      omega

def koOf : Ks → Ko
  | .o k => k
  | .bx => .kb
  | .st _ _ => .ki 0

theorem due_other {ops : Array Oper} {Q : Exit → Act → World → Prop} {ds : List Nat} {kinds : List Ks} {bx : Nat → Bool} {tg : Nat → Option Nat} {a0 : Act} {w0 : World} {i d : Nat} {o : Oper} {s : So} {a : Act} {w : World} {A : Nat → Nat} {kk : Ko}
    (ho : ops[i]? = some o) (hos : o.op = s.op ds) (hg : o.guard = none) (hd : o.dst = some d) (hk : kinds[i]? = some (.o kk)) (hkk : kk ≠ .kb) (hA : AgreeO (kinds.map koOf) a0 w0 i s) (hval : ∀ j ∈ s.deps, ∀ k, kinds[j]? = some k → k.At bx j A w (a.eval (.tmp (ds.getD j 0))))
    (hdo : ∀ j ∈ s.deps, ∃ k, kinds[j]? = some (.o k)) (hbelow : Below w0.heap.size w0 w)
    (hold : ∀ b, b < w0.heap.size → bx (A b) = false) (heval : ∀ x, (s = .ld x ∨ s = .mv x) → a.eval (.tmp x) = a0.eval (.tmp x)) (hb0 : bx i = false) :
    wpOp Tryd.prog ops Q i (fun a' w' => ∃ v, a' = a.put o.dst v ∧ Stp (tg i) A w w' ∧ ksV bx kinds i (fun b => if b < w.heap.size then A b else i) w' (dstV o.dst v)) a w := by
  refine wpOp_mono (fun a' w' h => ?_) (wpOp_of_list ho (core_dueO (ops := ops) (Q := Q) hos hg hA (fun j hj k hkj => ?_) hbelow hold heval (fun _ => hb0)))
  · obtain ⟨v, h1, h2, h3⟩ := h
    refine ⟨v, h1, Stp.of_below h2, fun k hk' => ?_⟩
    obtain rfl := Option.some.inj (hk.symm.trans hk')
    rw [hd]
    exact ⟨hkk, h3 kk (by rw [List.getElem?_map, hk]; rfl)⟩
  · obtain ⟨k', hk'⟩ := hdo j hj
    rw [List.getElem?_map, hk'] at hkj
    obtain rfl : k' = k := Option.some.inj hkj
    exact (hval j hj _ hk').2
end Go.Proofs.YtkghlebfmggidaaDoor

/-! ## Stores -/
namespace Go.Proofs.YtkghlebfmggidaaDoor
open Go.RowKit

/-- What operation i is: one that makes a value, a box, a store of value j in box bi. -/
inductive Ss | o (s : So) | bx | st (bi j : Nat)
def Ss.deps : Ss → List Nat
  | .o s => s.deps
  | .bx => []
  | .st bi j => [bi, j]
def Ss.op (ds : List Nat) : Ss → Op
  | .o s => s.op ds
  | .bx => .alloc 27
  | .st bi j => .store 27 (.tmp (ds.getD bi 0)) (.tmp (ds.getD j 0))
def dnat (ds : List (Option Nat)) : List Nat := ds.map fun d => d.getD 0
def boxS (specs : List Ss) (i : Nat) : Bool := match specs[i]? with | some .bx => true | _ => false
def tgS (specs : List Ss) (i : Nat) : Option Nat := match specs[i]? with | some (.st bi _) => some bi | _ => none

def AgreeS (kinds : List Ks) (a0 : Act) (w0 : World) (i : Nat) : Ss → Prop
  | .o s => s ≠ .box ∧ AgreeO (kinds.map koOf) a0 w0 i s ∧ ∃ kk, kinds[i]? = some (.o kk) ∧ kk ≠ .kb
  | .bx => kinds[i]? = some .bx
  | .st bi j => ∃ t, kinds[i]? = some (.st bi t) ∧ kinds[bi]? = some .bx ∧ kinds[j]? = some (.o (.kt t))
def AgreeSFrom (kinds : List Ks) (a0 : Act) (w0 : World) : Nat → List Ss → Prop
  | _, [] => True
  | i, s :: ss => AgreeS kinds a0 w0 i s ∧ AgreeSFrom kinds a0 w0 (i + 1) ss
theorem AgreeSFrom.get {kinds : List Ks} {a0 : Act} {w0 : World} : ∀ {l : List Ss} {k : Nat}, AgreeSFrom kinds a0 w0 k l → ∀ i s, l[i]? = some s → AgreeS kinds a0 w0 (k + i) s
  | [], _, _, i, s, h => by simp at h
  | x :: l, k, h, 0, s, e => by obtain rfl : x = s := by simpa using e
                                exact h.1
  | x :: l, k, h, i + 1, s, e => by
    have := h.2.get i s (by simpa using e)
    rwa [show k + 1 + i = k + (i + 1) by omega] at this

/-- The shape that a program checks. -/
def depsSB (ops : Array Oper) (ds : List (Option Nat)) (specs : List Ss) : Bool :=
  (List.range specs.length).all fun i => match ops[i]?, specs[i]? with
    | some o, some s => o.guard.isNone && (s.deps.all fun j => decide (j < specs.length) && (ds.getD j none).isSome && o.after.any fun e => Region.binds .any e && e.on == j) &&
        (match s with
          | .o s => (ds.getD i none).isSome && (s.deps.all fun j => match specs[j]? with | some (.o _) => true | _ => false) && (match s with | .ld x | .mv x => !(slotsOf ds).contains x | _ => true)
          | .bx => (ds.getD i none).isSome
          | .st bi _ => (ds.getD i none).isNone && boxS specs bi && (List.range specs.length).all fun k => k == i || tgS specs k != some bi)
    | _, _ => false

set_option maxHeartbeats 1000000 in
theorem wp_region_stores {id : Nat} {ops : Array Oper} {Q : Exit → Act → World → Prop} {a0 : Act} {w0 : World} (ds : List (Option Nat)) (specs : List Ss) (kinds : List Ks)
    (hm : Tryd.prog.follows .mixedOrders = true) (hn : ds.length = specs.length) (hkl : kinds.length = specs.length) (hB : shapeSB ops ds = true) (hop : (ops.toList.take specs.length).map (·.op) = specs.map (Ss.op (dnat ds))) (hd : depsSB ops ds specs = true)
    (hlt : (slotsOf ds).all (fun d => decide (d < a0.tmps.size)) = true) (hag : AgreeSFrom kinds a0 w0 0 specs) {k : Nat} (hk : ds.length + k = ops.size)
    (htail : ∀ (vals : Nat → Value) (w : World) (A : Nat → Nat), Below w0.heap.size w0 w → (∀ b, b < w0.heap.size → A b = ds.length) → (∀ (i : Nat) (d : Option Nat), ds[i]? = some d → ∀ (kd : Ks), kinds[i]? = some kd → kd.At (boxS specs) i A w (match d with | some d => vals d | none => undef)) → wpAny Tryd.prog .any ops Q k (firstB ds.length ops.size) (putAll a0 (slotsOf ds) vals) w) :
    (Code.region id ops true).wp Tryd.prog Q a0 w0 := by
  have hag' : ∀ i s, specs[i]? = some s → AgreeS kinds a0 w0 i s := fun i s h => by have := hag.get i s h; rwa [Nat.zero_add] at this
  have hdd : ∀ i, i < specs.length → ∃ o s, ops[i]? = some o ∧ specs[i]? = some s ∧ o.op = s.op (dnat ds) ∧ o.guard = none ∧ (∀ j ∈ s.deps, j < specs.length ∧ (ds.getD j none).isSome = true ∧ ∃ e ∈ o.after, Region.binds .any e = true ∧ e.on = j) ∧
      (match s with
          | .o s => (ds.getD i none).isSome && (s.deps.all fun j => match specs[j]? with | some (.o _) => true | _ => false) && (match s with | .ld x | .mv x => !(slotsOf ds).contains x | _ => true)
          | .bx => (ds.getD i none).isSome
          | .st bi _ => (ds.getD i none).isNone && boxS specs bi && (List.range specs.length).all fun k => k == i || tgS specs k != some bi) = true := by
    intro i hi
    have := List.all_eq_true.1 hd i (by simpa using hi)
    cases ho : ops[i]? with
    | none => rw [ho] at this; cases this
    | some o =>
      cases hs : specs[i]? with
      | none => rw [ho, hs] at this; cases this
      | some s =>
        rw [ho, hs] at this
        rw [Bool.and_eq_true, Bool.and_eq_true] at this
        obtain ⟨⟨h1, h2⟩, h3⟩ := this
        refine ⟨o, s, rfl, rfl, ?_, Option.isNone_iff_eq_none.1 h1, fun j hj => ?_, h3⟩
        · have e1 : ((ops.toList.take specs.length).map (·.op))[i]? = some o.op := by
            rw [List.getElem?_map, List.getElem?_take_of_lt hi, Array.getElem?_toList, ho]
            rfl
          rw [hop, List.getElem?_map, hs] at e1
          exact (Option.some.inj e1).symm
        · have h4 := List.all_eq_true.1 h2 j hj
          simp only [Bool.and_eq_true, decide_eq_true_eq] at h4
          obtain ⟨e, he, hb⟩ := Array.any_eq_true'.1 h4.2
          simp only [Bool.and_eq_true, beq_iff_eq] at hb
          exact ⟨h4.1.1, h4.1.2, e, he, hb.1, hb.2⟩
  have hst : ∀ i bi, tgS specs i = some bi → ∃ j, specs[i]? = some (.st bi j) := fun i bi h => by
    unfold tgS at h
    cases hs : specs[i]? with
    | none => rw [hs] at h; cases h
    | some s =>
      rw [hs] at h
      cases s with
      | st b j => obtain rfl := Option.some.inj h; exact ⟨j, rfl⟩
      | o s => cases h
      | bx => cases h
  have htb : ∀ i bi, tgS specs i = some bi → boxS specs bi = true := fun i bi h => by
    obtain ⟨j, hs⟩ := hst i bi h
    obtain ⟨o, s, h1, h2, _, _, _, h5⟩ := hdd i (List.getElem?_eq_some_iff.1 hs).1
    obtain rfl := Option.some.inj (hs.symm.trans h2)
    simp only [Bool.and_eq_true] at h5
    exact h5.1.2
  have hinj : ∀ i j bi, tgS specs i = some bi → tgS specs j = some bi → i = j := fun i j bi h h' => by
    obtain ⟨jj, hs⟩ := hst i bi h
    obtain ⟨jj', hs'⟩ := hst j bi h'
    obtain ⟨o, s, h1, h2, _, _, _, h5⟩ := hdd i (List.getElem?_eq_some_iff.1 hs).1
    obtain rfl := Option.some.inj (hs.symm.trans h2)
    simp only [Bool.and_eq_true] at h5
    have := List.all_eq_true.1 h5.2 j (by simpa using (List.getElem?_eq_some_iff.1 hs').1)
    simp [h'] at this
    exact this.symm
  have hbl : ∀ i, boxS specs i = true → i < ds.length := fun i h => by
    rw [hn]
    unfold boxS at h
    rcases Nat.lt_or_ge i specs.length with h' | h'
    · exact h'
    · rw [List.getElem?_eq_none h'] at h; cases h
  have hold : ∀ (w : World) (A : Nat → Nat), (∀ b, b < w0.heap.size → A b = ds.length) → ∀ b, b < w0.heap.size → boxS specs (A b) = false := fun w A hA b hb => by
    rw [hA b hb]
    cases h : boxS specs ds.length with
    | false => rfl
    | true => exact absurd (hbl _ h) (Nat.lt_irrefl _)
  refine wp_region_stored (V := ksV (boxS specs) kinds) (tg := tgS specs) (k := k) hm (fun k i A A' w w' v hki hv hs hA hA2 kd hkd => ?_) (fun i h => ?_) hB hlt (fun i o hi ho => ?_) hk htail
  · refine (hv kd hkd).next (fun bi t e => ?_) htb hinj hki hs hA hA2
    subst e
    have hlk : k < specs.length := by rw [← hkl]; exact (List.getElem?_eq_some_iff.1 hkd).1
    obtain ⟨o, s, h1, h2, _⟩ := hdd k hlk
    have hag2 := hag' k s h2
    cases s with
    | o s =>
      obtain ⟨_, _, kk, h3, _⟩ := hag2
      rw [hkd] at h3
      cases h3
    | bx =>
      have h3 : kinds[k]? = some .bx := hag2
      rw [hkd] at h3
      cases h3
    | st b j =>
      obtain ⟨t', h3, _⟩ := hag2
      rw [hkd] at h3
      injection h3 with h3
      injection h3 with h3 _
      subst h3
      show tgS specs k = _
      unfold tgS
      rw [h2]
  · exact absurd (hbl _ (htb i _ h)) (Nat.lt_irrefl _)
  · obtain ⟨o', s, h1, h2, h3, h4, h5, h6⟩ := hdd i (by rw [← hn]; exact hi)
    obtain rfl := Option.some.inj (ho.symm.trans h1)
    have hag2 := hag' i s h2
    have hdst : o.dst = ds.getD i none := by
      simp only [shapeSB, Bool.and_eq_true, List.all_eq_true, List.mem_range] at hB
      have := hB.1.2 i hi
      rw [ho] at this
      simp only [Bool.and_eq_true, beq_iff_eq] at this
      exact this.1.1
    intro listed a w A hf hli haft
    have hval : ∀ j ∈ s.deps, ∀ k, kinds[j]? = some k → k.At (boxS specs) j A w (a.eval (.tmp ((dnat ds).getD j 0))) := by
      intro j hj kd hkd
      obtain ⟨hjl, hsm, e, he, hb, rfl⟩ := h5 j hj
      obtain ⟨d, hd'⟩ := Option.isSome_iff_exists.1 hsm
      have h7 : ds[e.on]? = some (some d) := by
        rw [List.getD_eq_getElem?_getD, List.getElem?_eq_getElem (by omega)] at hd'
        rw [List.getElem?_eq_getElem (by omega)]
        exact congrArg some hd'
      have h8 : (dnat ds).getD e.on 0 = d := by
        rw [List.getD_eq_getElem?_getD]
        unfold dnat
        rw [List.getElem?_map, h7]
        rfl
      rw [h8]
      exact hf.val e.on _ h7 (haft e he hb) kd hkd
    cases s with
    | o s =>
      obtain ⟨hnb, hA, kk, hkk, hkb⟩ := hag2
      simp only [Bool.and_eq_true] at h6
      obtain ⟨d, hd'⟩ := Option.isSome_iff_exists.1 h6.1.1
      refine due_other (ds := dnat ds) ho h3 h4 (hdst.trans hd') hkk hkb hA hval (fun j hj => ?_) hf.below (hold w A hf.old) (fun x hx => hf.eval ?_) ?_
      · have h7 := List.all_eq_true.1 h6.1.2 j hj
        cases hs : specs[j]? with
        | none => rw [hs] at h7; cases h7
        | some s' =>
          rw [hs] at h7
          cases s' with
          | o s' =>
            obtain ⟨_, _, kk', h8, _⟩ := hag' j _ hs
            exact ⟨kk', h8⟩
          | bx => cases h7
          | st b j' => cases h7
      · rcases hx with hx | hx
        · subst hx
          simpa using h6.2
        · subst hx
          simpa using h6.2
      · unfold boxS
        rw [h2]
    | bx =>
      obtain ⟨d, hd'⟩ := Option.isSome_iff_exists.1 h6
      exact wpOp_of_list ho (due_box (tg := tgS specs) h3 h4 (hdst.trans hd') hag2 (hf.fresh i hi hli))
    | st bi j =>
      obtain ⟨t, hk1, hk2, hk3⟩ := hag2
      simp only [Bool.and_eq_true] at h6
      have hdn : o.dst = none := hdst.trans (Option.isNone_iff_eq_none.1 h6.1.1)
      have htgi : tgS specs i = some bi := by unfold tgS; rw [h2]
      exact wpOp_of_list ho (due_store (tg := tgS specs) h3 h4 hdn hk1 htgi h6.1.2 (hval bi (by simp [Ss.deps]) _ hk2) ⟨j, hval j (by simp [Ss.deps]) _ hk3⟩)
end Go.Proofs.YtkghlebfmggidaaDoor
