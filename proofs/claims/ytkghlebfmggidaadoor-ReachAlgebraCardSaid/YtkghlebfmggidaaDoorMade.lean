/- The operations of a drawn region that makes trees: what each asks and what it yields. -/
import Derived.Test.YtkghlebfmggidaaDoorAlgLaw
import Derived.Test.YtkghlebfmggidaaDoorPick
import Derived.Test.YtkghlebfmggidaaDoorOwned
import Derived.Great.BuildSlice
set_option linter.unusedSimpArgs false
set_option linter.unusedVariables false
namespace Go.Proofs.YtkghlebfmggidaaDoor
open Go.RowKit

inductive Kd | kt (t : T) | kl (l : List T) | kp (t u : T) | kall (l : List (T × T))

def IsTree (t : T) (w : World) (v : Value) : Prop := ∃ B c, v = .agg (t.hd.cells (.slice B t.subs.length c)).toArray ∧ T.In w (· < w.heap.size) t B
def IsPair (t u : T) (w : World) (v : Value) : Prop :=
  ∃ B c C d, v = .agg (t.hd.cells (.slice B t.subs.length c) ++ u.hd.cells (.slice C u.subs.length d)).toArray ∧ T.In w (· < w.heap.size) t B ∧ T.In w (· < w.heap.size) u C
def Kd.At : Kd → World → Value → Prop
  | .kt t, w, v => IsTree t w v
  | .kl l, w, v => ∃ g, v = .slice (some ⟨g, 0, none⟩) l.length l.length ∧ TL.In w (· < w.heap.size) l (some ⟨g, 0, none⟩)
  | .kp t u, w, v => IsPair t u w v
  | .kall l, w, v => ∃ g, v = .slice (some ⟨g, 0, none⟩) l.length l.length ∧ PairsIn w g l
def kdV (kinds : List Kd) (i : Nat) (w : World) (v : Value) : Prop := ∀ k, kinds[i]? = some k → k.At w v

theorem Kd.At.next : ∀ {k : Kd} {w w' : World} {v : Value}, k.At w v → Below w.heap.size w w' → k.At w' v
  | .kt t, _, _, _, ⟨B, c, h1, h2⟩, hb => ⟨B, c, h1, h2.next hb⟩
  | .kl l, _, _, _, ⟨g, h1, h2⟩, hb => ⟨g, h1, (show T.In _ _ (.mk ⟨0, 0, 0, 0, 0, 0, 0, 0, false⟩ l) _ from h2).next hb⟩
  | .kp t u, _, _, _, ⟨B, c, C, d, h1, h2, h3⟩, hb => ⟨B, c, C, d, h1, h2.next hb, h3.next hb⟩
  | .kall l, _, _, _, ⟨g, h1, h2⟩, hb => ⟨g, h1, h2.next hb⟩

inductive Sp | ld (x : Nat) | lst (js : List Nat) | seq (j : Nat) | alt (j : Nat) | seq0 | alt0 | rep (j : Nat) (mn mx : Int) | pr (j k : Nat) | al (js : List Nat)

def Sp.deps : Sp → List Nat
  | .ld _ | .seq0 | .alt0 => []
  | .lst js | .al js => js
  | .seq j | .alt j | .rep j _ _ => [j]
  | .pr j k => [j, k]
def Sp.op (b : Nat) : Sp → Op
  | .ld x => .load 27 (.tmp x)
  | .lst js => .buildSlice 25 js.length ((js.zipIdx 0).map fun x => (x.2, Operand.tmp (x.1 + b))).toArray
  | .seq j => .call { callee := .value (.func 10), args := #[.tmp (j + b)], argTypes := #[25] }
  | .alt j => .call { callee := .value (.func 11), args := #[.tmp (j + b)], argTypes := #[25] }
  | .seq0 => .call { callee := .value (.func 10), args := #[.const (.slice none 0 0)], argTypes := #[25] }
  | .alt0 => .call { callee := .value (.func 11), args := #[.const (.slice none 0 0)], argTypes := #[25] }
  | .rep j mn mx => .call { callee := .value (.func 16), args := #[.tmp (j + b), .const (.int .i64 mn), .const (.int .i64 mx)], argTypes := #[27, 3, 3] }
  | .pr j k => .build 50 #[(0, .tmp (j + b)), (1, .tmp (k + b))]
  | .al js => .buildSlice 51 js.length ((js.zipIdx 0).map fun x => (x.2, Operand.tmp (x.1 + b))).toArray

/-- A node's box as the region finds it. -/
def Box (a0 : Act) (w0 : World) (x : Nat) (t : T) : Prop :=
  ∃ g A c, a0.eval (.tmp x) = .pointer (some ⟨g, 0, none⟩) ∧ Blk w0 g 27 (t.hd.cells (.slice A t.subs.length c)).toArray ∧ T.In w0 (· < w0.heap.size) t A

def AllK {α : Type} (kinds : List Kd) (f : α → Kd) : List Nat → List α → Prop
  | [], [] => True
  | j :: js, x :: xs => kinds[j]? = some (f x) ∧ AllK kinds f js xs
  | _, _ => False

def Agree (kinds : List Kd) (a0 : Act) (w0 : World) (i : Nat) : Sp → Prop
  | .ld x => ∃ t, kinds[i]? = some (.kt t) ∧ Box a0 w0 x t
  | .lst js => ∃ l, kinds[i]? = some (.kl l) ∧ l ≠ [] ∧ l.length ≤ 1000 ∧ AllK kinds Kd.kt js l
  | .seq j => ∃ l, kinds[i]? = some (.kt (T.seq l)) ∧ kinds[j]? = some (.kl l) ∧ TL.nodes l ≤ 1000000
  | .alt j => ∃ l, kinds[i]? = some (.kt (T.alt l)) ∧ kinds[j]? = some (.kl l) ∧ TL.nodes l ≤ 1000000
  | .seq0 => kinds[i]? = some (.kt (T.seq []))
  | .alt0 => kinds[i]? = some (.kt (T.alt []))
  | .rep j mn mx => ∃ t, kinds[i]? = some (.kt (trep t mn mx)) ∧ kinds[j]? = some (.kt t) ∧ t.nodes ≤ 1000000
  | .pr j k => ∃ t u, kinds[i]? = some (.kp t u) ∧ kinds[j]? = some (.kt t) ∧ kinds[k]? = some (.kt u)
  | .al js => ∃ l, kinds[i]? = some (.kall l) ∧ l ≠ [] ∧ l.length ≤ 1000 ∧ AllK kinds (fun p : T × T => Kd.kp p.1 p.2) js l

theorem AllK.length {α : Type} {kinds : List Kd} {f : α → Kd} : ∀ {js : List Nat} {xs : List α}, AllK kinds f js xs → js.length = xs.length
  | [], [], _ => rfl
  | _ :: _, _ :: _, h => congrArg (· + 1) h.2.length
theorem AllK.get {α : Type} {kinds : List Kd} {f : α → Kd} : ∀ {js : List Nat} {xs : List α} {k : Nat} {x : α}, AllK kinds f js xs → xs[k]? = some x → ∃ j, js[k]? = some j ∧ kinds[j]? = some (f x)
  | [], [], _, _, _, e => by simp at e
  | j :: js, x :: xs, 0, y, h, e => by obtain rfl : x = y := by simpa using e
                                       exact ⟨j, rfl, h.1⟩
  | j :: js, x :: xs, k + 1, y, h, e => h.2.get (by simpa using e)

/-- One call that hands back a new tree. -/
theorem due_fresh {ops : Array Oper} {Q : Exit → Act → World → Prop} {kinds : List Kd} {i : Nat} {o : Oper} {a : Act} {w : World} (hg : o.guard = none) (f : FuncId) (args : Array Value) (t : T)
    (hrun : (execOp a.eval o).run Tryd.prog w = .ok (.enter f args) w) (hk : kinds[i]? = some (.kt t)) (hc : Calls Tryd.prog f args w (Fresh t w)) :
    wpList Tryd.prog ops (Exit.then (fun a' w' => ∃ v, a' = a.put o.dst v ∧ Below w.heap.size w w' ∧ kdV kinds i w' v) Q) [o] a w := by
  refine wpList_plain hg fun K hK => ?_
  unfold Oper.wp
  rw [hrun, Oper.upon_enter]
  refine hc.mono fun e w'' hh => ?_
  obtain ⟨B, c, bs, rfl, hown, _, hfr, hb⟩ := hh
  refine hK _ _ ⟨_, rfl, hb, fun k hk' => ?_⟩
  obtain rfl := Option.some.inj (hk.symm.trans hk')
  exact ⟨B, c, rfl, hown.in_ (ok := (· < w''.heap.size)) fun b hb => (hfr b hb).2⟩

/-- The cells of values side by side. -/
theorem TL.In.of_cells {w : World} {g : Nat} : ∀ (l : List T) (vs : List Value) (off : Nat), vs.length = l.length →
    (∀ (k : Nat) (t : T), l[k]? = some t → ∃ v, vs[k]? = some v ∧ IsTree t w v) → (∀ (k : Nat) (v : Value), vs[k]? = some v → CellsAt w ⟨g, off + k * 10, none⟩ v.cells.toList) → g < w.heap.size → TL.In w (· < w.heap.size) l (some ⟨g, off, none⟩)
  | [], _, _, _, _, _, _ => trivial
  | t :: l, [], _, hl, _, _, _ => by simp at hl
  | t :: l, v :: vs, off, hl, h1, h2, hg => by
    obtain ⟨v', e, B, c, h3, h4⟩ := h1 0 t rfl
    obtain rfl : v = v' := by simpa using e
    refine ⟨g, off, B, c, rfl, hg, ?_, h4, TL.In.of_cells l vs (off + 10) (by simpa using hl) (fun k u hk => h1 (k + 1) u (by simpa using hk)) (fun k u hk => ?_) hg⟩
    · have := h2 0 v rfl
      rw [h3] at this
      simpa [Value.cells] using this
    · have := h2 (k + 1) u (by simpa using hk)
      rwa [show off + (k + 1) * 10 = off + 10 + k * 10 by omega] at this

theorem parts_tmp (a : Act) (b : Nat) : ∀ (js : List Nat) (s : Nat), ((js.zipIdx s).map fun x => ((x.2, Operand.tmp (x.1 + b)) : Nat × Operand)).map (fun x => (x.1, a.eval x.2)) = ((js.map fun j => a.eval (.tmp (j + b))).zipIdx s).map fun x => (x.2, x.1) := by
  intro js s
  rw [List.zipIdx_map, List.map_map, List.map_map]
  rfl

theorem flat_cells {s : Nat} : ∀ (vs : List Value), (∀ v ∈ vs, v.cells.size = s) → ∀ k v, vs[k]? = some v → ∀ j u, v.cells.toList[j]? = some u → (vs.flatMap fun (v : Value) => v.cells.toList)[k * s + j]? = some u
  | [], _, k, v, h, _, _, _ => by simp at h
  | x :: vs, hs, 0, v, h, j, u, hj => by
    obtain rfl : x = v := by simpa using h
    rw [List.flatMap_cons, List.getElem?_append_left (by have := (List.getElem?_eq_some_iff.1 hj).1; omega)]
    simpa using hj
  | x :: vs, hs, k + 1, v, h, j, u, hj => by
    have hx : x.cells.toList.length = s := by simpa using hs x List.mem_cons_self
    rw [List.flatMap_cons, List.getElem?_append_right (by rw [hx, Nat.add_mul]; omega), hx]
    have := flat_cells vs (fun v hv => hs v (List.mem_cons_of_mem _ hv)) k v (by simpa using h) j u hj
    rwa [show (k + 1) * s + j - s = k * s + j by rw [Nat.add_mul]; omega]

theorem Tryd.infoTwo : (Tryd.prog.info? 50).map (fun i => (i.zero.map (·.cells.size), i.size)) = some (some 20, 20) := by kernel_rfl
theorem Tryd.sizeTwo : (Tryd.prog.info? 50).map (·.size) = some 20 := by kernel_rfl
theorem Tryd.underPairs : Tryd.prog.underlying 51 = some (.slice 50) := by kernel_rfl
theorem Tryd.underTwo : Tryd.prog.underlying 50 = some (.array 2 27) := by kernel_rfl
theorem Tryd.underNodes : Tryd.prog.underlying 25 = some (.slice 27) := by kernel_rfl

theorem built_arr {P : Program} {t e : TypeId} {n : Nat} {it ie : TypeInfo} {z : Value} {parts : List (Nat × Value)} (hit : P.info? t = some it) (hu : P.underlying t = some (.array n e)) (hz : it.zero = some z) (hie : P.info? e = some ie) :
    P.built t parts = Instr.fill (fun i => some (i * ie.size, ie.size)) z.cells parts := by
  unfold Program.built
  simp only [hit, hu, hz, hie]

/-- Values of s cells go side by side into a new block. -/
theorem run_build_values {o : Oper} {a : Act} {w : World} {ops : Array Oper} {Q : Exit → Act → World → Prop} (hg : o.guard = none) (t e s b : Nat) (js : List Nat) (ho : o.op = .buildSlice t js.length ((js.zipIdx 0).map fun x => (x.2, Operand.tmp (x.1 + b))).toArray)
    (hu : Tryd.prog.underlying t = some (.slice e)) (hi : (Tryd.prog.info? e).map (fun i => (i.zero.map (·.cells.size), i.size)) = some (some s, s)) (hs : 0 < s) (hs2 : s ≤ 100) (hn : js ≠ []) (hl : js.length ≤ 1000)
    (hv : ∀ j ∈ js, (a.eval (.tmp (j + b))).cells.size = s)
    (h : Q .normal (a.put o.dst (.slice (some ⟨w.heap.size, 0, none⟩) js.length js.length)) (w.alloc (.cells ((js.map fun j => a.eval (.tmp (j + b))).flatMap fun (v : Value) => v.cells.toList).toArray e))) : wpList Tryd.prog ops Q [o] a w := by
  cases hie : Tryd.prog.info? e with
  | none => simp [hie] at hi
  | some ie =>
    rw [hie] at hi
    simp only [Option.map_some, Option.some.injEq, Prod.mk.injEq] at hi
    cases hz : ie.zero with
    | none => simp [hz] at hi
    | some z =>
      rw [hz] at hi
      obtain ⟨h1, h2⟩ := hi
      have hpos : 0 < js.length := List.length_pos_iff.2 hn
      have hmul : js.length * s ≤ 1000 * 100 := Nat.mul_le_mul hl hs2
      have hmul0 : 0 < js.length * s := Nat.mul_pos hpos hs
      refine wpList_buildSlice hg t e js.length _ ho ((js.map fun j => a.eval (.tmp (j + b))).flatMap fun (v : Value) => v.cells.toList).toArray ie z hu hie hz (by rw [h2]; omega) (by rw [h2]; omega) ?_ h
      rw [h2, Array.toList_map]
      have := parts_tmp a b js 0
      simp only [List.toList_toArray] at *
      rw [this]
      refine Great.fill_whole hs _ _ (fun v hv' => ?_) (by simp)
      obtain ⟨j, hj, rfl⟩ := List.mem_map.1 hv'
      exact hv j hj

theorem made_due {ops : Array Oper} {Q : Exit → Act → World → Prop} {b : Nat} {ds : List Nat} {specs : List Sp} {kinds : List Kd} {a0 : Act} {w0 : World} (hds : ds = (List.range specs.length).map (· + b))
    (hop : ∀ i o, i < specs.length → ops[i]? = some o → ∃ s, specs[i]? = some s ∧ o.op = s.op b ∧ o.guard = none ∧ ∀ j ∈ s.deps, ∃ e ∈ o.after, Region.binds .any e = true ∧ e.on = j)
    (hag : ∀ (i : Nat) (s : Sp), specs[i]? = some s → Agree kinds a0 w0 i s) (hdep : ∀ (i : Nat) (s : Sp), specs[i]? = some s → ∀ j ∈ s.deps, j < specs.length) (hx : ∀ x, Sp.ld x ∈ specs → x ∉ ds) :
    ∀ i o, i < ds.length → ops[i]? = some o → Due Tryd.prog ops Q ds (kdV kinds) a0 w0 i o := by
  intro i o hi ho listed a w hf haft
  obtain ⟨s, hsi, hos, hg, hed⟩ := hop i o (by simpa [hds] using hi) ho
  have hval : ∀ j ∈ s.deps, ∀ k, kinds[j]? = some k → k.At w (a.eval (.tmp (j + b))) := by
    intro j hj k hk
    obtain ⟨e, he, hb, rfl⟩ := hed j hj
    refine hf.val e.on (e.on + b) ?_ (haft e he hb) k hk
    have := hdep i s hsi _ hj
    rw [hds]
    simp [this]
  have hA := hag i s hsi
  cases s with
  | ld x =>
    obtain ⟨t, hk, g, A, c, h1, h2, h3⟩ := hA
    have hb := h2.next hf.below
    refine wpList_load_cells hg 27 (.tmp x) hos ⟨g, 0, none⟩ (by rw [hf.eval (hx x (List.mem_of_getElem? hsi)), h1]) (t.hd.cells (.slice A t.subs.length c)) _ Tryd.underlying27 rfl (by rw [Tryd.sizeNode]; simp [Hd.cells_length]) (fun j u hu => ?_) ?_
    · rw [Addr.add_lit, Nat.zero_add, hb.cell, List.getElem?_toArray]
      exact hu
    · refine ⟨_, rfl, Below.refl _ _, fun k hk' => ?_⟩
      obtain rfl := Option.some.inj (hk.symm.trans hk')
      exact ⟨A, c, rfl, h3.next hf.below⟩
  | seq j =>
    obtain ⟨l, hk, hj, hn⟩ := hA
    obtain ⟨g, h1, h2⟩ := hval j (by simp [Sp.deps]) _ hj
    exact due_fresh hg _ _ _ (by unfold execOp; simp [hos, Sp.op, go_sem] at h1 ⊢; simp [h1]) hk (seq_any l _ l.length w hn h2)
  | alt j =>
    obtain ⟨l, hk, hj, hn⟩ := hA
    obtain ⟨g, h1, h2⟩ := hval j (by simp [Sp.deps]) _ hj
    exact due_fresh hg _ _ _ (by unfold execOp; simp [hos, Sp.op, go_sem] at h1 ⊢; simp [h1]) hk (alt_any l _ l.length w hn h2)
  | seq0 => exact due_fresh hg _ _ _ (by unfold execOp; simp [hos, Sp.op, go_sem]) hA (seq_nil none 0 w)
  | alt0 => exact due_fresh hg _ _ _ (by unfold execOp; simp [hos, Sp.op, go_sem]) hA (alt_nil none 0 w)
  | rep j mn mx =>
    obtain ⟨t, hk, hj, hn⟩ := hA
    obtain ⟨B, c, h1, h2⟩ := hval j (by simp [Sp.deps]) _ hj
    exact due_fresh hg _ _ _ (by unfold execOp; simp [hos, Sp.op, go_sem] at h1 ⊢; simp [h1]) hk (rep_any t B c mn mx w hn h2)
  | lst js =>
    obtain ⟨l, hk, hne, hlen, hall⟩ := hA
    have hl := hall.length
    refine run_build_values hg _ 27 10 b js hos Tryd.underNodes (by kernel_rfl) (by decide) (by decide) (fun e => hne (List.eq_nil_of_length_eq_zero (by rw [← hl, e]; rfl))) (by omega) (fun j hj => ?_) ?_
    · obtain ⟨k, hk1⟩ := List.getElem?_of_mem hj
      have hkl := (List.getElem?_eq_some_iff.1 hk1).1
      obtain ⟨j', hj', hkd⟩ := hall.get (List.getElem?_eq_getElem (show k < l.length by omega))
      obtain rfl : j = j' := by rw [hk1] at hj'; exact Option.some.inj hj'
      obtain ⟨B, c, h1, _⟩ := hval j hj _ hkd
      rw [h1]; simp [Value.cells, Hd.cells_length]
    · have hbl := (Below.refl w.heap.size w).alloc (Nat.le_refl _) (.cells ((js.map fun j => a.eval (.tmp (j + b))).flatMap fun (v : Value) => v.cells.toList).toArray 27)
      refine ⟨_, rfl, hbl, fun k hk' => ?_⟩
      obtain rfl := Option.some.inj (hk.symm.trans hk')
      refine ⟨w.heap.size, by rw [hl], TL.In.of_cells l (js.map fun j => a.eval (.tmp (j + b))) 0 (by simpa using hl) (fun k t ht => ?_) (fun k v hv j u hu => ?_) (by simp)⟩
      · obtain ⟨j, hj, hkd⟩ := hall.get ht
        refine ⟨_, by rw [List.getElem?_map, hj]; rfl, ?_⟩
        exact Kd.At.next (k := .kt t) (hval j (List.mem_of_getElem? hj) _ hkd) hbl
      · rw [Addr.add_lit, Nat.zero_add, (Blk.new w 27 _).cell, List.getElem?_toArray]
        refine flat_cells _ (fun v hv => ?_) k v hv j u hu
        obtain ⟨j, hj, rfl⟩ := List.mem_map.1 hv
        obtain ⟨k, hk1⟩ := List.getElem?_of_mem hj
        have hkl := (List.getElem?_eq_some_iff.1 hk1).1
        obtain ⟨j', hj', hkd⟩ := hall.get (List.getElem?_eq_getElem (show k < l.length by omega))
        obtain rfl : j = j' := by rw [hk1] at hj'; exact Option.some.inj hj'
        obtain ⟨B, c, h1, _⟩ := hval j hj _ hkd
        rw [h1]; simp [Value.cells, Hd.cells_length]
  | pr j k =>
    obtain ⟨t, u, hk, hj, hu⟩ := hA
    obtain ⟨B, c, h1, h2⟩ := hval j (by simp [Sp.deps]) _ hj
    obtain ⟨C, d, h3, h4⟩ := hval k (by simp [Sp.deps]) _ hu
    have hz := Tryd.infoTwo
    have hn := Tryd.sizeNode
    refine wpList_buildTo hg 50 _ hos o.dst rfl (t.hd.cells (.slice B t.subs.length c) ++ u.hd.cells (.slice C u.subs.length d)).toArray ?_ ?_
    · cases hit : Tryd.prog.info? 50 with
      | none => simp [hit] at hz
      | some it =>
        cases hin : Tryd.prog.info? 27 with
        | none => simp [hin] at hn
        | some inn =>
          simp only [hit, hin, Option.map_some, Option.some.injEq, Prod.mk.injEq] at hz hn
          cases hzz : it.zero with
          | none => simp [hzz] at hz
          | some z =>
            simp only [hzz, Option.map_some, Option.some.injEq] at hz
            rw [built_arr hit Tryd.underTwo hzz hin, hn]
            have := Great.fill_whole (s := 10) (by decide) [a.eval (.tmp (j + b)), a.eval (.tmp (k + b))] z.cells (by intro v hv; simp at hv; rcases hv with rfl | rfl <;> simp [h1, h3, Value.cells, Hd.cells_length]) (by simp [hz.1])
            simpa [h1, h3, Value.cells] using this
    · refine ⟨_, rfl, Below.refl _ _, fun k' hk' => ?_⟩
      obtain rfl := Option.some.inj (hk.symm.trans hk')
      exact ⟨B, c, C, d, rfl, h2, h4⟩
  | al js =>
    obtain ⟨l, hk, hne, hlen, hall⟩ := hA
    have hl := hall.length
    have h20 : ∀ j ∈ js, (a.eval (.tmp (j + b))).cells.size = 20 := by
      intro j hj
      obtain ⟨k, hk1⟩ := List.getElem?_of_mem hj
      have hkl := (List.getElem?_eq_some_iff.1 hk1).1
      obtain ⟨j', hj', hkd⟩ := hall.get (List.getElem?_eq_getElem (show k < l.length by omega))
      obtain rfl : j = j' := by rw [hk1] at hj'; exact Option.some.inj hj'
      obtain ⟨B, c, C, d, h1, _⟩ := hval j hj _ hkd
      rw [h1]; simp [Value.cells, Hd.cells_length]
    refine run_build_values hg _ 50 20 b js hos Tryd.underPairs Tryd.infoTwo (by decide) (by decide) (fun e => hne (List.eq_nil_of_length_eq_zero (by rw [← hl, e]; rfl))) (by omega) h20 ?_
    have hbl := (Below.refl w.heap.size w).alloc (Nat.le_refl _) (.cells ((js.map fun j => a.eval (.tmp (j + b))).flatMap fun (v : Value) => v.cells.toList).toArray 50)
    have hblk := Blk.new w 50 ((js.map fun j => a.eval (.tmp (j + b))).flatMap fun (v : Value) => v.cells.toList).toArray
    refine ⟨_, rfl, hbl, fun k hk' => ?_⟩
    obtain rfl := Option.some.inj (hk.symm.trans hk')
    refine ⟨w.heap.size, by rw [hl], by simp, fun k p hp => ?_⟩
    obtain ⟨j, hj, hkd⟩ := hall.get hp
    obtain ⟨B, c, C, d, h1, h2, h3⟩ := hval j (List.mem_of_getElem? hj) _ hkd
    have hcell : ∀ m x, (p.1.hd.cells (.slice B p.1.subs.length c) ++ p.2.hd.cells (.slice C p.2.subs.length d))[m]? = some x → (w.alloc (.cells ((js.map fun j => a.eval (.tmp (j + b))).flatMap fun (v : Value) => v.cells.toList).toArray 50)).cell? ⟨w.heap.size, k * 20 + m, none⟩ = some x := by
      intro m x hm
      rw [hblk.cell, List.getElem?_toArray]
      refine flat_cells _ (fun v hv => ?_) k _ (by rw [List.getElem?_map, hj]; rfl) m x ?_
      · obtain ⟨j, hj, rfl⟩ := List.mem_map.1 hv
        exact h20 j hj
      · show (a.eval (.tmp (j + b))).cells.toList[m]? = _
        rw [h1]; simpa [Value.cells] using hm
    refine ⟨B, c, C, d, fun m x hm => ?_, fun m x hm => ?_, h2.next hbl, h3.next hbl⟩
    · rw [Addr.add_lit]
      exact hcell m x (by rw [List.getElem?_append_left (List.getElem?_eq_some_iff.1 hm).1]; exact hm)
    · rw [Addr.add_lit, Nat.add_assoc]
      exact hcell (10 + m) x (by rw [List.getElem?_append_right (by simp [Hd.cells_length])]; simpa [Hd.cells_length] using hm)
end Go.Proofs.YtkghlebfmggidaaDoor
