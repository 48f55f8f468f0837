/- posit.Of: the positions of any tree. (Printed by gen_posmade.py.) -/
import Derived.Test.YtbbhobojghmkpaaDoorPosAll
import Derived.Test.YtbbhobojghmkpaaDoorExpand
import Derived.Test.YtbbhobojghmkpaaDoorOf17c
set_option linter.unusedSimpArgs false
set_option linter.unusedVariables false
namespace Go.Proofs.YtbbhobojghmkpaaDoor
open Go.RowKit Go.Maps

def T.posOf (t : T) : Pt × St := t.pos ⟨[], fun _ _ => 0⟩
/-- The positions that posit lays for a tree without counts. -/
def T.laid (t : T) : Po :=
  ⟨t.posOf.2.S, ((t.posOf.1.null : Nat) : Int), edgesOf t.posOf.2.S.length t.posOf.1.fst, edgesOf t.posOf.2.S.length t.posOf.1.lst, (List.range t.posOf.2.S.length).map fun i => edgesOf t.posOf.2.S.length (t.posOf.2.M i)⟩
mutual
theorem T.pos_len : ∀ (t : T) (s : St), (t.pos s).2.S.length ≤ s.S.length + t.nodes
  | .mk h l, s => by
    unfold T.pos
    simp only [T.nodes]
    split
    · simp <;> omega
    split
    · simp <;> omega
    split
    · simp <;> omega
    split
    · simp <;> omega
    split
    · have := TL.posSeq_len l (ptOf 15) s; omega
    split
    · have := TL.posRep_len l h.max s; omega
    · have := TL.posAlt_len l (ptOf 0) s; omega
theorem TL.posSeq_len : ∀ (l : List T) (x : Pt) (s : St), (TL.posSeq l x s).2.S.length ≤ s.S.length + TL.nodes l
  | [], x, s => by simp [TL.posSeq, TL.nodes]
  | t :: l, x, s => by
    have h1 := t.pos_len s
    have h2 := TL.posSeq_len l (seqPt x (t.pos s).1) ⟨(t.pos s).2.S, ledM (t.pos s).2.M x.lst (t.pos s).1.fst 15⟩
    simp only [TL.posSeq, TL.nodes] at h2 ⊢
    omega
theorem TL.posRep_len : ∀ (l : List T) (mx : Int) (s : St), (TL.posRep l mx s).2.S.length ≤ s.S.length + TL.nodes l
  | [], mx, s => by simp [TL.posRep, TL.nodes]
  | t :: l, mx, s => by
    have h1 := t.pos_len s
    simp only [TL.posRep, TL.nodes]
    split
    · show (t.pos s).2.S.length ≤ _; omega
    · omega
theorem TL.posAlt_len : ∀ (l : List T) (x : Pt) (s : St), (TL.posAlt l x s).2.S.length ≤ s.S.length + TL.nodes l
  | [], x, s => by simp [TL.posAlt, TL.nodes]
  | t :: l, x, s => by
    have h1 := t.pos_len s
    have h2 := TL.posAlt_len l (joinPt x (t.pos s).1) (t.pos s).2
    simp only [TL.posAlt, TL.nodes] at h2 ⊢
    omega
end

/-- Positions in memory of the call's own. -/
structure OwnPo (lo : Nat) (p : Po) (sv v1 v2 fv : Value) (vs : List Value) (w : World) : Prop where
  sets : w.ownsRow lo 24 4 sv p.sets.length (p.sets.flatMap Se.cells)
  e1 : OwnEd lo w v1 p.first
  e2 : OwnEd lo w v2 p.last
  own : w.ownsRow lo 72 1 fv vs.length vs
  len : vs.length = p.follow.length
  each : ∀ (i : Nat) (r : List Ed), p.follow[i]? = some r → ∃ v : Value, vs[i]? = some v ∧ OwnEd lo w v r
theorem OwnPo.turn {lo : Nat} {p : Po} {sv v1 v2 fv : Value} {vs : List Value} {w w' : World} (h : OwnPo lo p sv v1 v2 fv vs w) {g : Nat} {cs : Array Value} (hb : Blk w g 75 cs) (hs : Same (fun b => b < w.heap.size ∧ b ≠ g) w w') : OwnPo lo p sv v1 v2 fv vs w' := by
  have hed : ∀ {v : Value} {l : List Ed}, OwnEd lo w v l → OwnEd lo w' v l := fun {v l} h9 => h9.same hs fun q hq => ⟨(World.ownsRow.lt h9 q hq).2, fun e => own_ne_blk h9 hb (by decide) (e ▸ hq)⟩
  exact ⟨MkP.same.ownP_same h.sets hs (fun q hq => ⟨(World.ownsRow.lt h.sets q hq).2, fun e => own_ne_blk h.sets hb (by decide) (e ▸ hq)⟩), hed h.e1, hed h.e2, ownV_same h.own hs (fun q hq => ⟨(World.ownsRow.lt h.own q hq).2, fun e => own_ne_blk h.own hb (by decide) (e ▸ hq)⟩), h.len, fun i r hi => by
    obtain ⟨v, h1, h2⟩ := h.each i r hi
    exact ⟨v, h1, hed h2⟩⟩
theorem OwnPo.in_ {lo : Nat} {p : Po} {sv v1 v2 fv : Value} {vs : List Value} {w : World} (h : OwnPo lo p sv v1 v2 fv vs w) : ∃ a : PoA, #[sv, .int .i64 p.null, v1, v2, fv] = (p.cells a).toArray ∧ PoIn (fun b => lo ≤ b ∧ b < w.heap.size) w p a := by
  obtain ⟨As, cs, rfl, hs⟩ := sets_in h.sets
  obtain ⟨A1, c1, rfl, h1⟩ := h.e1.form
  obtain ⟨A2, c2, rfl, h2⟩ := h.e2.form
  have hlen := h.len
  rcases h.own.2 with ⟨rfl, h0⟩ | ⟨q, cap, cur, rfl, hb, hg, hn, hc, hz, hx⟩
  · have h3 : p.follow = [] := List.eq_nil_of_length_eq_zero (by omega)
    exact ⟨⟨As, A1, A2, none, cs, c1, c2, 0⟩, by simp [Po.cells, h3], ⟨hs, h1, h2, .inl h3⟩⟩
  · refine ⟨⟨As, A1, A2, some ⟨q, 0, none⟩, cs, c1, c2, cap⟩, by simp [Po.cells, hlen], ⟨hs, h1, h2, .inr ⟨q, 0, rfl, ⟨hb, (World.ownsRow.lt h.own q rfl).2⟩, fun i r hi => ?_⟩⟩⟩
    obtain ⟨u, hu, hou⟩ := h.each i r hi
    obtain ⟨B, c, rfl, hB⟩ := hou.form
    refine ⟨B, c, fun j u hj => ?_, hB⟩
    have h9 := World.ownsRow.cells h.own (g := q) rfl i _ hu
    have hj0 : j = 0 := by
      have := (List.getElem?_eq_some_iff.1 hj).1
      simp at this
      omega
    subst hj0
    obtain rfl := Option.some.inj hj
    rw [Addr.add_lit] at h9 ⊢
    simpa using h9

theorem own_lower17 {w : World} {b b' z n : Nat} {E : TypeId} {v : Value} {l : List Value} (h : w.ownsRow b E z v n l) (hb : b' ≤ b) : w.ownsRow b' E z v n l := by
  refine ⟨h.1, ?_⟩
  rcases h.2 with h | ⟨g, cap, cur, e, hg, r⟩
  · exact .inl h
  · exact .inr ⟨g, cap, cur, e, Nat.le_trans hb hg, r⟩
/-- The positions while the rows that follow are laid. -/
structure FolP (w : World) (gm N lo g : Nat) (rows : List Nat) (sv fvm : Value) (M : Nat → Nat → Nat) (S : List Se) (x : Pt) (v1 v2 : Value) (k : Nat) (vs : List Value) (fv : Value) (wr : World) : Prop where
  at_ : MkP wr gm N rows sv fvm S M gm
  box : Blk wr g 75 #[sv, .int .i64 ((x.null : Nat) : Int), v1, v2, fv]
  e1 : OwnEd lo wr v1 (edgesOf N x.fst)
  e2 : OwnEd lo wr v2 (edgesOf N x.lst)
  own : wr.ownsRow lo 72 1 fv vs.length vs
  len : vs.length = k
  each : ∀ i, i < k → ∃ v, vs[i]? = some v ∧ OwnEd lo wr v (edgesOf N (M i))
  res : Blk wr (w.heap.size + 1) 75 #[.slice none 0 0, .int .i64 0, .slice none 0 0, .slice none 0 0, .slice none 0 0]
  below : Below w.heap.size w wr
section
variable {w wr w' w2 : World} {gm N lo g : Nat} {rows : List Nat} {sv fvm : Value} {M : Nat → Nat → Nat} {S : List Se} {x : Pt} {v1 v2 : Value} {k : Nat} {vs : List Value} {fv : Value}
theorem FolP.next (h : FolP w gm N lo g rows sv fvm M S x v1 v2 k vs fv wr) (hb : Below wr.heap.size wr w') : FolP w gm N lo g rows sv fvm M S x v1 v2 k vs fv w' :=
  ⟨h.at_.next hb, h.box.nxt hb, h.e1.below hb (Nat.le_refl _), h.e2.below hb (Nat.le_refl _), ownV_same h.own (same_of_below hb) (fun q hq => (World.ownsRow.lt h.own q hq).2), h.len, fun i hi => by
    obtain ⟨v, h1, h2⟩ := h.each i hi
    exact ⟨v, h1, h2.below hb (Nat.le_refl _)⟩, h.res.nxt hb, h.below.trans (hb.mono h.below.size)⟩
theorem FolP.push (h : FolP w gm N lo g rows sv fvm M S x v1 v2 k vs fv wr) (hwl : w.heap.size + 2 ≤ lo) (hlg : lo ≤ g) {v fv' : Value} (hv : OwnEd lo wr v (edgesOf N (M k))) (ho : w2.ownsRow lo 72 1 fv' (vs ++ [v]).length (vs ++ [v])) (hg : wr.grownBy w2 fv.ownBlock) :
    FolP w gm N lo g rows sv fvm M S x v1 v2 (k + 1) (vs ++ [v]) fv' (w2.setCell ⟨g, 4, none⟩ fv') := by
  have hs : Same (fun b => b < wr.heap.size ∧ fv.ownBlock ≠ some b) wr w2 := fun b hb => hg.block b hb.1 (fun e => hb.2 e.symm)
  have hs2 : Same (fun b => b < w2.heap.size ∧ b ≠ g) w2 (w2.setCell ⟨g, 4, none⟩ fv') := same_set w2 ⟨g, 4, none⟩ fv'
  have hbx := h.box.same hs ⟨h.box.lt, own_ne_blk h.own h.box (by decide)⟩
  have hM2 := h.at_.same hs ⟨h.at_.box.lt, own_ne_blk h.own h.at_.box (by decide)⟩ (fun q hq => ⟨(World.ownsRow.lt h.at_.sets q hq).2, fun e => own_ne_own h.at_.sets h.own (by decide) q hq e⟩) (fun q hq => ⟨(World.ownsRow.lt h.at_.fol q hq).2, fun e => own_ne_own h.at_.fol h.own (by decide) q hq e⟩) (fun b hb => ⟨h.at_.rows_lt b hb, by
    obtain ⟨i, hi, e⟩ := List.getElem_of_mem hb
    exact own_ne_map h.own (h.at_.maps i b (by rw [List.getElem?_eq_getElem hi, e]))⟩)
  have hed : ∀ {v : Value} {l : List Ed}, OwnEd lo wr v l → OwnEd lo (w2.setCell ⟨g, 4, none⟩ fv') v l := fun {v l} h9 => by
    have h8 : OwnEd lo w2 v l := h9.same hs fun q hq => ⟨(World.ownsRow.lt h9 q hq).2, fun e => own_ne_own h9 h.own (by decide) q hq e⟩
    exact h8.same hs2 fun q hq => ⟨(World.ownsRow.lt h8 q hq).2, fun e => own_ne_blk h8 hbx (by decide) (e ▸ hq)⟩
  have hbel2 : Below w.heap.size w w2 := below_grew h.below hg (Nat.le_refl _) (fun q hq => by have := (World.ownsRow.lt h.own q hq).1; omega)
  have hres := h.res.same hs ⟨h.res.lt, own_ne_blk h.own h.res (by decide)⟩
  refine ⟨hM2.turn hbx (by decide) (by decide) (by decide) hs2, heap_setCell_same w2 g 4 _ _ _ hbx, hed h.e1, hed h.e2, ownV_same ho hs2 (fun q hq => ⟨(World.ownsRow.lt ho q hq).2, fun e => own_ne_blk ho hbx (by decide) (e ▸ hq)⟩), by rw [List.length_append, h.len]; rfl, fun i hi => ?_, hres.far (by show w.heap.size + 1 ≠ g; omega) _, hbel2.setCell (by show w.heap.size ≤ g; omega) _⟩
  by_cases hik : i < k
  · obtain ⟨u, h1, h2⟩ := h.each i hik
    exact ⟨u, by rw [List.getElem?_append_left (by rw [h.len]; exact hik)]; exact h1, hed h2⟩
  · obtain rfl : i = k := by omega
    exact ⟨v, by rw [List.getElem?_append_right (by rw [h.len]; exact Nat.le_refl _), h.len, Nat.sub_self]; rfl, hed hv⟩
theorem FolP.own_ (h : FolP w gm N lo g rows sv fvm M S x v1 v2 k vs fv wr) (hkN : k = N) (h1 : w.heap.size ≤ gm) (h2 : w.heap.size ≤ lo) : OwnPo w.heap.size (Po.mk S ((x.null : Nat) : Int) (edgesOf N x.fst) (edgesOf N x.lst) ((List.range N).map fun i => edgesOf N (M i))) sv v1 v2 fv vs wr := by
  rw [hkN] at h
  exact ⟨own_lower17 h.at_.sets h1, h.e1.lower h2, h.e2.lower h2, own_lower17 h.own h2, by rw [h.len]; simp, fun i r hi => by
    have hi2 : i < N := by
      have := (List.getElem?_eq_some_iff.1 hi).1
      simpa using this
    obtain ⟨u, hu, hou⟩ := h.each i hi2
    obtain rfl : edgesOf N (M i) = r := by simpa [List.getElem?_map, hi2] using hi
    exact ⟨u, hu, hou.lower h2⟩⟩
end

/-- What posit.Of answers. -/
def Made17 (t : T) (a : Nat → Addr) (w : World) (e : Ending) (w' : World) : Prop :=
  (∃ g, t.check = some g ∧ e = .returned (.tuple #[.agg #[.slice none 0 0, .int .i64 0, .slice none 0 0, .slice none 0 0, .slice none 0 0], errV (a g)]) ∧ Below w.heap.size w w') ∨
  (t.check = none ∧ ∃ sv v1 v2 fv vs, e = .returned (.tuple #[.agg #[sv, .int .i64 t.exp.laid.null, v1, v2, fv], .nilIface]) ∧ OwnPo w.heap.size t.exp.laid sv v1 v2 fv vs w' ∧ Below w.heap.size w w')

set_option maxRecDepth 100000 in
set_option maxHeartbeats 4000000 in
theorem posOfAll_any (t : T) (A : Option Addr) (c : Nat) (w : World) (a : Nat → Addr) (hN : t.nodes ≤ 1000000) (hin : T.In w (· < w.heap.size) t A) (he : Sent [0, 1, 2] w a) :
    Calls Tryd.prog 52 #[.agg (t.hd.cells (.slice A t.subs.length c)).toArray] w (Made17 t a w) := by
  have hne := fun y ad => run_neq_iface_nil (P := Tryd.prog) (w := y) 49 (by kernel_rfl) 169 (.pointer (some ad))
  have hnn := fun y => run_neq_nil_nil_at (P := Tryd.prog) (w := y) 49 (by kernel_rfl)
  have HC := hide (fun y (hy : Below w.heap.size w y) => expand_any t A c y a hN (hin.same (same_of_below hy) (fun b hb => Nat.lt_of_lt_of_le hb hy.size)) (he.below hy))
  clear hin he
  simp only [Hd.cells] at HC ⊢
  have hb2 := ((Below.refl w.heap.size w).alloc (Nat.le_refl _) (.cells #[.int .i64 t.hd.kind, .int .u64 t.hd.s0, .int .u64 t.hd.s1, .int .u64 t.hd.s2, .int .u64 t.hd.s3, .slice A t.subs.length c, .int .i64 t.hd.num, .int .i64 t.hd.min, .int .i64 t.hd.max, .bool t.hd.bare] 27)).alloc (by simp) (.cells #[.slice none 0 0, .int .i64 0, .slice none 0 0, .slice none 0 0, .slice none 0 0] 75)
  have hbt := (Blk.new w 27 #[.int .i64 t.hd.kind, .int .u64 t.hd.s0, .int .u64 t.hd.s1, .int .u64 t.hd.s2, .int .u64 t.hd.s3, .slice A t.subs.length c, .int .i64 t.hd.num, .int .i64 t.hd.min, .int .i64 t.hd.max, .bool t.hd.bare]).alloc (.cells #[.slice none 0 0, .int .i64 0, .slice none 0 0, .slice none 0 0, .slice none 0 0] 75)
  have hbr := Blk.new (w.alloc (.cells #[.int .i64 t.hd.kind, .int .u64 t.hd.s0, .int .u64 t.hd.s1, .int .u64 t.hd.s2, .int .u64 t.hd.s3, .slice A t.subs.length c, .int .i64 t.hd.num, .int .i64 t.hd.min, .int .i64 t.hd.max, .bool t.hd.bare] 27)) 75 #[.slice none 0 0, .int .i64 0, .slice none 0 0, .slice none 0 0, .slice none 0 0]
  rw [World.size_alloc] at hbr
  have hsz : w.heap.size + 1 < ((w.alloc (.cells #[.int .i64 t.hd.kind, .int .u64 t.hd.s0, .int .u64 t.hd.s1, .int .u64 t.hd.s2, .int .u64 t.hd.s3, .slice A t.subs.length c, .int .i64 t.hd.num, .int .i64 t.hd.min, .int .i64 t.hd.max, .bool t.hd.bare] 27)).alloc (.cells #[.slice none 0 0, .int .i64 0, .slice none 0 0, .slice none 0 0, .slice none 0 0] 75)).heap.size := by simp
  have H0 := hide (And.intro hb2 (And.intro hbt hbr))
  clear hb2 hbt hbr
  have c0 := H0.out.2.1.cell
  go_enter Tryd.func52, Tryd.ntmps52
  go_wp2_with fail
  generalize ((w.alloc (.cells #[.int .i64 t.hd.kind, .int .u64 t.hd.s0, .int .u64 t.hd.s1, .int .u64 t.hd.s2, .int .u64 t.hd.s3, .slice A t.subs.length c, .int .i64 t.hd.num, .int .i64 t.hd.min, .int .i64 t.hd.max, .bool t.hd.bare] 27)).alloc (.cells #[.slice none 0 0, .int .i64 0, .slice none 0 0, .slice none 0 0, .slice none 0 0] 75)) = W0 at *
  refine (HC.out _ H0.out.1).mono ?_
  rintro e w2 hex
  have HX := hide hex
  clear hex HC c0
  rcases HX.out with ⟨g, hck, rfl, hb2⟩ | ⟨hck, B, c2, he, hin2, hb2⟩
  case inl =>
    have HK := hide hck
    have hw2 := hb2.size
    have H1 := hide (And.intro (H0.out.1.trans (hb2.mono (by omega))) (And.intro (H0.out.2.1.nxt hb2) (H0.out.2.2.nxt hb2)))
    clear hck hb2 H0 HX
    simp only [errV]
    go_wp2_with (refine wpList_store_row rfl _ _ _ rfl w.heap.size 0 _ _ _ rfl rfl H1.out.2.1 Tryd.sizeNode (by simp) (by simp [Value.oneCell']) ?_)
    intro w3 hrow3 hg3 hz3
    have hbr3 := H1.out.2.2.grown hg3 (fun e => by have := Option.some.inj e; omega)
    have hb3 := below_grew H1.out.1 hg3 (Nat.le_refl _) (fun q hq => by rw [← Option.some.inj hq]; exact Nat.le_refl _)
    have H2 := hide (And.intro hb3 hbr3)
    clear hrow3 hg3 hz3 hbr3 hb3 H1
    go_wp2_with (refine wpList_store_row rfl _ _ _ rfl (w.heap.size + 1) 0 _ _ _ rfl rfl H2.out.2 Tryd.sizePo17 (by simp) (by simp [Value.oneCell']) ?_)
    intro w9 hrow2 hg9 hz9
    have hrow := hrow2.out
    rw [splice_full (by rfl)] at hrow
    have hb9 := below_grew H2.out.1 hg9 (Nat.le_refl _) (fun q hq => by rw [← Option.some.inj hq]; omega)
    have HF := hide hb9
    have c9 := hrow.cell
    clear hrow hrow2 hg9 hz9 hb9
    go_wp2_with fail
    refine bodyPost_ret (v := .tuple #[.agg #[.slice none 0 0, .int .i64 0, .slice none 0 0, .slice none 0 0, .slice none 0 0], .iface 169 (.pointer (some (a g)))]) (by simp [results, Tryd.results52, go_sem, c9]) rfl ?_
    exact .inl ⟨g, HK.out, rfl, HF.out⟩
  have HK := hide hck
  obtain ⟨hf, hs⟩ := T.check_none hck
  have hxn := T.exp_nodes t hf hs
  have hxr := T.exp_reps t hf
  have HPM := hide (fun e w' (h : ∃ sv v1 v2 fv vs, e = .returned (.tuple #[.agg #[sv, .int .i64 t.exp.laid.null, v1, v2, fv], .nilIface]) ∧ OwnPo w.heap.size t.exp.laid sv v1 v2 fv vs w' ∧ Below w.heap.size w w') => (show Made17 t a w e w' from .inr ⟨hck, h⟩))
  have hxK : t.exp.nodes ≤ 2000 := by omega
  generalize t.exp = x at *
  clear hck hf hs hxn HX
  simp only [Hd.cells] at he
  subst he
  have hw2 := hb2.size
  have H1 := hide (And.intro hin2 (And.intro (H0.out.1.trans (hb2.mono (by omega))) (And.intro (H0.out.2.1.nxt hb2) (H0.out.2.2.nxt hb2))))
  clear hin2 hb2 H0
  go_wp2_with (refine wpList_store_row rfl _ _ _ rfl w.heap.size 0 _ _ _ rfl rfl H1.out.2.2.1 Tryd.sizeNode (by simp) (by simp [Value.oneCell']) ?_)
  intro w3 hrow3 hg3 hz3
  have hrow := hrow3.out
  rw [splice_full (by rfl)] at hrow
  have hbr3 := H1.out.2.2.2.grown hg3 (fun e => by have := Option.some.inj e; omega)
  have hb3 := below_grew H1.out.2.1 hg3 (Nat.le_refl _) (fun q hq => by rw [← Option.some.inj hq]; exact Nat.le_refl _)
  have hz3' : w2.heap.size ≤ w3.heap.size := by omega
  have hin3 := H1.out.1.same (ok' := (· < w3.heap.size)) (fun b hb => hg3.block b hb.2 (fun e => by have := Option.some.inj e; have := hb.1; omega)) (fun b hb => by have := hb.2; omega)
  have H2 := hide (And.intro hin3 (And.intro hb3 (And.intro hrow hbr3)))
  clear hrow3 hg3 hz3 hbr3 hb3 hrow hin3 H1
  obtain ⟨N, hN9⟩ : ∃ N, N = x.posOf.2.S.length := ⟨_, rfl⟩
  have hNK := x.pos_len ⟨[], fun _ _ => 0⟩
  have hN900 : N ≤ 900000 := by rw [hN9]; unfold T.posOf; simp only [List.length_nil] at hNK; omega
  have HN9 := hide hN9
  clear hNK
  have hal := (Below.refl w3.heap.size w3).alloc (Nat.le_refl _) (.cells #[.slice none 0 0, .slice none 0 0] 113)
  have hmk : MkP (w3.alloc (.cells #[.slice none 0 0, .slice none 0 0] 113)) w3.heap.size N [] (.slice none 0 0) (.slice none 0 0) [] (fun _ _ => 0) w3.heap.size := ⟨Blk.new w3 _ _, World.ownsRow_nil _ _ _ _, World.ownsRow_nil _ _ _ _, Nat.le_refl _, fun i b hb => by simp at hb, List.nodup_nil, fun b hb => by simp at hb, Nat.le_refl _, fun _ _ _ => rfl⟩
  have HC := hide (posOf_any w3.heap.size N w3.heap.size hN900 (Nat.le_refl _) x.nodes x (Nat.le_refl _) (by omega) hxr B c2 (w3.alloc (.cells #[.slice none 0 0, .slice none 0 0] 113)) ⟨[], fun _ _ => 0⟩ [] (.slice none 0 0) (.slice none 0 0) (H2.out.1.same (ok' := (· < w3.heap.size)) (same_of_below hal) (fun b hb => hb)) (by simp) hmk rfl (Nat.le_of_eq hN9.symm))
  simp only [Hd.cells] at HC
  have H3 := hide (And.intro (H2.out.2.1.trans (hal.mono (by omega))) (And.intro (H2.out.2.2.1.nxt hal) (H2.out.2.2.2.nxt hal)))
  have hw4 : w3.heap.size < (w3.alloc (.cells #[.slice none 0 0, .slice none 0 0] 113)).heap.size := by simp
  clear hal hmk H2 hN9 hxr
  have c0 := H3.out.2.1.cell
  go_upto_region 5 with fail
  generalize (w3.alloc (.cells #[.slice none 0 0, .slice none 0 0] 113)) = W4 at *
  generalize hgm9 : w3.heap.size = gm at *
  clear hgm9
  go_wp2_with fail
  refine HC.out.mono ?_
  rintro e w5 ⟨f, l, rows, sv, fvm, he, hnx, hmp, heq⟩
  have hpr : x.pos ⟨[], fun _ _ => 0⟩ = x.posOf := rfl
  rw [hpr] at he hnx hmp heq
  clear hpr HC c0
  simp only [partCells] at he
  subst he
  go_upto_region 6 with fail
  have hw5 := hnx.below.size
  have hal := (Below.refl w5.heap.size w5).alloc (Nat.le_refl _) (.cells #[.int .i64 ((x.posOf.1.null : Nat) : Int), .map (some f), .map (some l)] 116)
  have hw6 : w5.heap.size < (w5.alloc (.cells #[.int .i64 ((x.posOf.1.null : Nat) : Int), .map (some f), .map (some l)] 116)).heap.size := by simp
  have hres5 := H3.out.2.2.same hnx.same ⟨H3.out.2.2.lt, fun e => by omega, by simp, by simp [Value.ownBlock], by simp [Value.ownBlock]⟩
  have H6 := hide (And.intro (hnx.st.next hal) (And.intro (hmp.next hal) (And.intro (Blk.new w5 116 #[.int .i64 ((x.posOf.1.null : Nat) : Int), .map (some f), .map (some l)]) (And.intro (hres5.nxt hal) ((H3.out.1.trans (hnx.below.mono (by omega))).trans (hal.mono (by omega)))))))
  have HEQ := hide heq
  clear hnx hmp hal hres5 heq H3
  generalize (w5.alloc (.cells #[.int .i64 ((x.posOf.1.null : Nat) : Int), .map (some f), .map (some l)] 116)) = W6 at *
  generalize w5.heap.size = gp at *
  obtain ⟨As, cs, hsv⟩ := sets_form H6.out.1.sets
  subst hsv
  rw [← HN9.out] at H6 HEQ
  have cg := H6.out.1.box.cell
  have cp := H6.out.2.2.1.cell
  go_upto_region 7 with fail
  clear cg cp
  go_cut [8] (fun p wx => ∃ g A1 c1 A2 c2, p = .pointer (some ⟨g, 0, none⟩) ∧ Blk wx g 75 #[.slice As N cs, .int .i64 ((x.posOf.1.null : Nat) : Int), .slice A1 (edgesOf N x.posOf.1.fst).length c1, .slice A2 (edgesOf N x.posOf.1.lst).length c2, .slice none 0 0] ∧ OwnEd W6.heap.size wx (.slice A1 (edgesOf N x.posOf.1.fst).length c1) (edgesOf N x.posOf.1.fst) ∧ OwnEd W6.heap.size wx (.slice A2 (edgesOf N x.posOf.1.lst).length c2) (edgesOf N x.posOf.1.lst) ∧ W6.heap.size ≤ g ∧ Below W6.heap.size W6 wx)
  case first =>
    refine wp_region_mix (fun z => Below W6.heap.size W6 z) [16] (by kernel_rfl) (fun hcl => ?_)
    have hS : Below W6.heap.size W6 W6.drew := (Below.refl _ _).drew
    have HE1 := hide (fun (z : World) (hz : Below W6.heap.size W6 z) => posEdges_any f N x.posOf.1.fst z hN900 (H6.out.2.1.fst.next hz))
    have HE2 := hide (fun (z : World) (hz : Below W6.heap.size W6 z) => posEdges_any l N x.posOf.1.lst z hN900 (H6.out.2.1.lst.next hz))
    refine wpAnyT_free (i := 0) hcl rfl (by kernel_rfl) (v := ?_) (fun _ _ _ h => h) hS (Or.inl ⟨rfl, fun w' _ => ?_⟩) (fun hcl => ?_)
    rotate_left
    · go_simp
      with_reducible rfl
    simp only [List.getElem_toArray, List.getElem_cons_zero, List.getElem_cons_succ, Act.put, List.setIfInBounds_toArray, List.set_cons_zero, List.set_cons_succ]
    refine wpAnyT_free (i := 1) hcl rfl (by kernel_rfl) (v := ?_) (fun _ _ _ h => h) hS (Or.inl ⟨rfl, fun w' _ => ?_⟩) (fun hcl => ?_)
    rotate_left
    · go_simp
      with_reducible rfl
    simp only [List.getElem_toArray, List.getElem_cons_zero, List.getElem_cons_succ, Act.put, List.setIfInBounds_toArray, List.set_cons_zero, List.set_cons_succ]
    refine wpAnyT_free (i := 2) hcl rfl (by kernel_rfl) (v := ?_) (fun _ _ _ h => h) hS (Or.inl ⟨rfl, fun w' _ => ?_⟩) (fun hcl => ?_)
    rotate_left
    · go_simp
      with_reducible rfl
    simp only [List.getElem_toArray, List.getElem_cons_zero, List.getElem_cons_succ, Act.put, List.setIfInBounds_toArray, List.set_cons_zero, List.set_cons_succ]
    refine wpAnyT_take (i := 3) hcl rfl (by kernel_rfl) (v := ?_) (fun _ _ _ h => h) hS (Or.inl ⟨rfl, fun w' hS => ?_⟩) (fun hcl => ?_)
    rotate_left
    · skip
      have cg := (H6.out.1.box.nxt hS).cell
      go_simp
      with_reducible rfl
    simp only [List.getElem_toArray, List.getElem_cons_zero, List.getElem_cons_succ, Act.put, List.setIfInBounds_toArray, List.set_cons_zero, List.set_cons_succ]
    refine wpAnyT_free (i := 4) hcl rfl (by kernel_rfl) (v := ?_) (fun _ _ _ h => h) hS (Or.inl ⟨rfl, fun w' _ => ?_⟩) (fun hcl => ?_)
    rotate_left
    · go_simp
      with_reducible rfl
    simp only [List.getElem_toArray, List.getElem_cons_zero, List.getElem_cons_succ, Act.put, List.setIfInBounds_toArray, List.set_cons_zero, List.set_cons_succ]
    refine wpAnyT_take (i := 5) hcl rfl (by kernel_rfl) (v := ?_) (fun _ _ _ h => h) hS (Or.inl ⟨rfl, fun w' hS => ?_⟩) (fun hcl => ?_)
    rotate_left
    · skip
      have cp := (H6.out.2.2.1.nxt hS).cell
      go_simp
      with_reducible rfl
    simp only [List.getElem_toArray, List.getElem_cons_zero, List.getElem_cons_succ, Act.put, List.setIfInBounds_toArray, List.set_cons_zero, List.set_cons_succ]
    refine wpAnyT_free (i := 6) hcl rfl (by kernel_rfl) (v := ?_) (fun _ _ _ h => h) hS (Or.inl ⟨rfl, fun w' _ => ?_⟩) (fun hcl => ?_)
    rotate_left
    · go_simp
      with_reducible rfl
    simp only [List.getElem_toArray, List.getElem_cons_zero, List.getElem_cons_succ, Act.put, List.setIfInBounds_toArray, List.set_cons_zero, List.set_cons_succ]
    refine wpAnyT_take (i := 7) hcl rfl (by kernel_rfl) (v := ?_) (fun _ _ _ h => h) hS (Or.inl ⟨rfl, fun w' hS => ?_⟩) (fun hcl => ?_)
    rotate_left
    · skip
      have cp := (H6.out.2.2.1.nxt hS).cell
      go_simp
      with_reducible rfl
    simp only [List.getElem_toArray, List.getElem_cons_zero, List.getElem_cons_succ, Act.put, List.setIfInBounds_toArray, List.set_cons_zero, List.set_cons_succ]
    refine wpAnyT_free (i := 8) hcl rfl (by kernel_rfl) (v := ?_) (fun _ _ _ h => h) hS (Or.inl ⟨rfl, fun w' _ => ?_⟩) (fun hcl => ?_)
    rotate_left
    · go_simp
      with_reducible rfl
    simp only [List.getElem_toArray, List.getElem_cons_zero, List.getElem_cons_succ, Act.put, List.setIfInBounds_toArray, List.set_cons_zero, List.set_cons_succ]
    refine wpAnyT_free (i := 10) hcl rfl (by kernel_rfl) (v := ?_) (fun _ _ _ h => h) hS (Or.inl ⟨rfl, fun w' _ => ?_⟩) (fun hcl => ?_)
    rotate_left
    · go_simp
      with_reducible rfl
    simp only [List.getElem_toArray, List.getElem_cons_zero, List.getElem_cons_succ, Act.put, List.setIfInBounds_toArray, List.set_cons_zero, List.set_cons_succ]
    refine wpAnyT_take (i := 11) hcl rfl (by kernel_rfl) (v := ?_) (fun _ _ _ h => h) hS (Or.inl ⟨rfl, fun w' hS => ?_⟩) (fun hcl => ?_)
    rotate_left
    · skip
      have cp := (H6.out.2.2.1.nxt hS).cell
      go_simp
      with_reducible rfl
    simp only [List.getElem_toArray, List.getElem_cons_zero, List.getElem_cons_succ, Act.put, List.setIfInBounds_toArray, List.set_cons_zero, List.set_cons_succ]
    refine wpAnyT_free (i := 12) hcl rfl (by kernel_rfl) (v := ?_) (fun _ _ _ h => h) hS (Or.inl ⟨rfl, fun w' _ => ?_⟩) (fun hcl => ?_)
    rotate_left
    · go_simp
      with_reducible rfl
    simp only [List.getElem_toArray, List.getElem_cons_zero, List.getElem_cons_succ, Act.put, List.setIfInBounds_toArray, List.set_cons_zero, List.set_cons_succ]
    have HS0 := hide hS
    clear hS
    refine wpAnyT_pick2 (i := 9) (j := 15) hcl rfl rfl (by kernel_rfl) (fun hcl => ?_) (fun hcl => ?_)
    · simp only [List.getElem_toArray, List.getElem_cons_zero, List.getElem_cons_succ, Act.put, List.setIfInBounds_toArray, List.set_cons_zero, List.set_cons_succ]
      go_wp2_with fail
      refine (HE1.out _ HS0.out).mono ?_
      rintro e z0 ⟨v1, rfl, ho1, hb⟩
      obtain ⟨Ae1, ce1, rfl, _⟩ := ho1.form
      have HS1 := hide (HS0.out.trans (hb.mono HS0.out.size))
      have HO1 := hide (ho1.lower HS0.out.size)
      clear ho1 hb HE1
      go_wp2_with fail
      refine ⟨HS1.out, ?_⟩
      refine wpAnyT_pick2 (i := 13) (j := 15) hcl rfl rfl (by kernel_rfl) (fun hcl => ?_) (fun hcl => ?_)
      · simp only [List.getElem_toArray, List.getElem_cons_zero, List.getElem_cons_succ, Act.put, List.setIfInBounds_toArray, List.set_cons_zero, List.set_cons_succ]
        go_wp2_with fail
        refine (HE2.out _ HS1.out).mono ?_
        rintro e z1 ⟨v2, rfl, ho2, hb⟩
        obtain ⟨Ae2, ce2, rfl, _⟩ := ho2.form
        have HS2 := hide (HS1.out.trans (hb.mono HS1.out.size))
        have HO2 := hide (ho2.lower HS1.out.size)
        replace HO1 := hide (HO1.out.below hb (Nat.le_refl _))
        clear ho2 hb HE2
        go_wp2_with fail
        refine ⟨HS2.out, ?_⟩
        have hS := HS2.out
        refine wpAnyT_free (i := 14) hcl rfl (by kernel_rfl) (v := ?_) (fun _ _ _ h => h) hS (Or.inl ⟨rfl, fun w' _ => ?_⟩) (fun hcl => ?_)
        rotate_left
        · go_simp
          with_reducible rfl
        simp only [List.getElem_toArray, List.getElem_cons_zero, List.getElem_cons_succ, Act.put, List.setIfInBounds_toArray, List.set_cons_zero, List.set_cons_succ]
        clear hS
        refine wpAnyT_step (i := 15) hcl rfl (by kernel_rfl) (fun hcl => ?_)
        simp only [List.getElem_toArray, List.getElem_cons_zero, List.getElem_cons_succ, Act.put, List.setIfInBounds_toArray, List.set_cons_zero, List.set_cons_succ]
        go_wp2_with fail
        have HS3 := hide (HS2.out.alloc HS2.out.size (.cells #[.slice none 0 0, .int .i64 0, .slice none 0 0, .slice none 0 0, .slice none 0 0] 75))
        refine ⟨HS3.out, ?_⟩
        have HB := hide (Blk.new z1 75 #[.slice none 0 0, .int .i64 0, .slice none 0 0, .slice none 0 0, .slice none 0 0])
        have HG := hide (HS2.out.size)
        replace HO1 := hide (HO1.out.below ((Below.refl _ z1).alloc (Nat.le_refl _) (.cells #[.slice none 0 0, .int .i64 0, .slice none 0 0, .slice none 0 0, .slice none 0 0] 75)) (Nat.le_refl _))
        replace HO2 := hide (HO2.out.below ((Below.refl _ z1).alloc (Nat.le_refl _) (.cells #[.slice none 0 0, .int .i64 0, .slice none 0 0, .slice none 0 0, .slice none 0 0] 75)) (Nat.le_refl _))
        generalize (z1.alloc (.cells #[.slice none 0 0, .int .i64 0, .slice none 0 0, .slice none 0 0, .slice none 0 0] 75)) = za at *
        refine wpAnyT_last (i := 16) hcl rfl (by kernel_rfl) (by kernel_rfl) (fun hcl => ?_)
        simp only [List.getElem_toArray, List.getElem_cons_zero, List.getElem_cons_succ, Act.put, List.setIfInBounds_toArray, List.set_cons_zero, List.set_cons_succ]
        go_wp2_with (refine wpList_store_row rfl _ _ _ rfl _ 0 _ _ _ rfl rfl HB.out Tryd.sizePo17 (by simp) (by simp [Value.oneCell']) ?_)
        intro z9 hrow2 hg9 hz9
        have hrow := hrow2.out
        rw [splice_full (by rfl)] at hrow
        have h1 := HO1.out.same (same_grew hg9) (fun q hq => ⟨(World.ownsRow.lt HO1.out q hq).2, fun e => own_ne_blk HO1.out HB.out (by decide) (e ▸ hq)⟩)
        have h2 := HO2.out.same (same_grew hg9) (fun q hq => ⟨(World.ownsRow.lt HO2.out q hq).2, fun e => own_ne_blk HO2.out HB.out (by decide) (e ▸ hq)⟩)
        have h3 := below_grew HS3.out hg9 (Nat.le_refl _) (fun q hq => by rw [← Option.some.inj hq]; exact HG.out)
        have HF := hide (And.intro hrow (And.intro h1 (And.intro h2 (And.intro HG.out h3))))
        clear hrow hrow2 hg9 hz9 h1 h2 h3 HO1 HO2 HB HG
        go_wp2_with fail
        refine wpAnyT_done (by kernel_rfl) ?_ _
        go_wp2_with fail
        go_meet
        case rel => exact ⟨_, _, _, _, _, rfl, HF.out⟩
      · simp only [List.getElem_toArray, List.getElem_cons_zero, List.getElem_cons_succ, Act.put, List.setIfInBounds_toArray, List.set_cons_zero, List.set_cons_succ]
        go_wp2_with fail
        have HS2 := hide (HS1.out.alloc HS1.out.size (.cells #[.slice none 0 0, .int .i64 0, .slice none 0 0, .slice none 0 0, .slice none 0 0] 75))
        refine ⟨HS2.out, ?_⟩
        have HB := hide (Blk.new z0 75 #[.slice none 0 0, .int .i64 0, .slice none 0 0, .slice none 0 0, .slice none 0 0])
        have HG := hide (HS1.out.size)
        replace HO1 := hide (HO1.out.below ((Below.refl _ z0).alloc (Nat.le_refl _) (.cells #[.slice none 0 0, .int .i64 0, .slice none 0 0, .slice none 0 0, .slice none 0 0] 75)) (Nat.le_refl _))
        generalize (z0.alloc (.cells #[.slice none 0 0, .int .i64 0, .slice none 0 0, .slice none 0 0, .slice none 0 0] 75)) = za at *
        refine wpAnyT_step (i := 13) hcl rfl (by kernel_rfl) (fun hcl => ?_)
        simp only [List.getElem_toArray, List.getElem_cons_zero, List.getElem_cons_succ, Act.put, List.setIfInBounds_toArray, List.set_cons_zero, List.set_cons_succ]
        go_wp2_with fail
        refine (HE2.out _ HS2.out).mono ?_
        rintro e z2 ⟨v2, rfl, ho2, hb⟩
        obtain ⟨Ae2, ce2, rfl, _⟩ := ho2.form
        have HS3 := hide (HS2.out.trans (hb.mono HS2.out.size))
        have HO2 := hide (ho2.lower HS2.out.size)
        replace HB := hide (HB.out.nxt hb)
        replace HO1 := hide (HO1.out.below hb (Nat.le_refl _))
        clear ho2 hb HE2
        go_wp2_with fail
        refine ⟨HS3.out, ?_⟩
        have hS := HS3.out
        refine wpAnyT_free (i := 14) hcl rfl (by kernel_rfl) (v := ?_) (fun _ _ _ h => h) hS (Or.inl ⟨rfl, fun w' _ => ?_⟩) (fun hcl => ?_)
        rotate_left
        · go_simp
          with_reducible rfl
        simp only [List.getElem_toArray, List.getElem_cons_zero, List.getElem_cons_succ, Act.put, List.setIfInBounds_toArray, List.set_cons_zero, List.set_cons_succ]
        clear hS
        refine wpAnyT_last (i := 16) hcl rfl (by kernel_rfl) (by kernel_rfl) (fun hcl => ?_)
        simp only [List.getElem_toArray, List.getElem_cons_zero, List.getElem_cons_succ, Act.put, List.setIfInBounds_toArray, List.set_cons_zero, List.set_cons_succ]
        go_wp2_with (refine wpList_store_row rfl _ _ _ rfl _ 0 _ _ _ rfl rfl HB.out Tryd.sizePo17 (by simp) (by simp [Value.oneCell']) ?_)
        intro z9 hrow2 hg9 hz9
        have hrow := hrow2.out
        rw [splice_full (by rfl)] at hrow
        have h1 := HO1.out.same (same_grew hg9) (fun q hq => ⟨(World.ownsRow.lt HO1.out q hq).2, fun e => own_ne_blk HO1.out HB.out (by decide) (e ▸ hq)⟩)
        have h2 := HO2.out.same (same_grew hg9) (fun q hq => ⟨(World.ownsRow.lt HO2.out q hq).2, fun e => own_ne_blk HO2.out HB.out (by decide) (e ▸ hq)⟩)
        have h3 := below_grew HS3.out hg9 (Nat.le_refl _) (fun q hq => by rw [← Option.some.inj hq]; exact HG.out)
        have HF := hide (And.intro hrow (And.intro h1 (And.intro h2 (And.intro HG.out h3))))
        clear hrow hrow2 hg9 hz9 h1 h2 h3 HO1 HO2 HB HG
        go_wp2_with fail
        refine wpAnyT_done (by kernel_rfl) ?_ _
        go_wp2_with fail
        go_meet
        case rel => exact ⟨_, _, _, _, _, rfl, HF.out⟩
    · simp only [List.getElem_toArray, List.getElem_cons_zero, List.getElem_cons_succ, Act.put, List.setIfInBounds_toArray, List.set_cons_zero, List.set_cons_succ]
      go_wp2_with fail
      have HS1 := hide ((Below.refl W6.heap.size W6).alloc (Nat.le_refl _) (.cells #[.slice none 0 0, .int .i64 0, .slice none 0 0, .slice none 0 0, .slice none 0 0] 75)).drew
      refine ⟨HS1.out, ?_⟩
      have HB := hide (show Blk (W6.alloc (.cells #[.slice none 0 0, .int .i64 0, .slice none 0 0, .slice none 0 0, .slice none 0 0] 75)).drew W6.heap.size 75 #[.slice none 0 0, .int .i64 0, .slice none 0 0, .slice none 0 0, .slice none 0 0] from Blk.new W6 _ _)
      have HG := hide (Nat.le_refl W6.heap.size)
      generalize (W6.alloc (.cells #[.slice none 0 0, .int .i64 0, .slice none 0 0, .slice none 0 0, .slice none 0 0] 75)).drew = za at *
      refine wpAnyT_step (i := 9) hcl rfl (by kernel_rfl) (fun hcl => ?_)
      simp only [List.getElem_toArray, List.getElem_cons_zero, List.getElem_cons_succ, Act.put, List.setIfInBounds_toArray, List.set_cons_zero, List.set_cons_succ]
      go_wp2_with fail
      refine (HE1.out _ HS1.out).mono ?_
      rintro e z1 ⟨v1, rfl, ho1, hb⟩
      obtain ⟨Ae1, ce1, rfl, _⟩ := ho1.form
      have HS2 := hide (HS1.out.trans (hb.mono HS1.out.size))
      have HO1 := hide (ho1.lower HS1.out.size)
      replace HB := hide (HB.out.nxt hb)
      clear ho1 hb HE1
      go_wp2_with fail
      refine ⟨HS2.out, ?_⟩
      refine wpAnyT_step (i := 13) hcl rfl (by kernel_rfl) (fun hcl => ?_)
      simp only [List.getElem_toArray, List.getElem_cons_zero, List.getElem_cons_succ, Act.put, List.setIfInBounds_toArray, List.set_cons_zero, List.set_cons_succ]
      go_wp2_with fail
      refine (HE2.out _ HS2.out).mono ?_
      rintro e z2 ⟨v2, rfl, ho2, hb⟩
      obtain ⟨Ae2, ce2, rfl, _⟩ := ho2.form
      have HS3 := hide (HS2.out.trans (hb.mono HS2.out.size))
      have HO2 := hide (ho2.lower HS2.out.size)
      replace HB := hide (HB.out.nxt hb)
      replace HO1 := hide (HO1.out.below hb (Nat.le_refl _))
      clear ho2 hb HE2
      go_wp2_with fail
      refine ⟨HS3.out, ?_⟩
      have hS := HS3.out
      refine wpAnyT_free (i := 14) hcl rfl (by kernel_rfl) (v := ?_) (fun _ _ _ h => h) hS (Or.inl ⟨rfl, fun w' _ => ?_⟩) (fun hcl => ?_)
      rotate_left
      · go_simp
        with_reducible rfl
      simp only [List.getElem_toArray, List.getElem_cons_zero, List.getElem_cons_succ, Act.put, List.setIfInBounds_toArray, List.set_cons_zero, List.set_cons_succ]
      clear hS
      refine wpAnyT_last (i := 16) hcl rfl (by kernel_rfl) (by kernel_rfl) (fun hcl => ?_)
      simp only [List.getElem_toArray, List.getElem_cons_zero, List.getElem_cons_succ, Act.put, List.setIfInBounds_toArray, List.set_cons_zero, List.set_cons_succ]
      go_wp2_with (refine wpList_store_row rfl _ _ _ rfl _ 0 _ _ _ rfl rfl HB.out Tryd.sizePo17 (by simp) (by simp [Value.oneCell']) ?_)
      intro z9 hrow2 hg9 hz9
      have hrow := hrow2.out
      rw [splice_full (by rfl)] at hrow
      have h1 := HO1.out.same (same_grew hg9) (fun q hq => ⟨(World.ownsRow.lt HO1.out q hq).2, fun e => own_ne_blk HO1.out HB.out (by decide) (e ▸ hq)⟩)
      have h2 := HO2.out.same (same_grew hg9) (fun q hq => ⟨(World.ownsRow.lt HO2.out q hq).2, fun e => own_ne_blk HO2.out HB.out (by decide) (e ▸ hq)⟩)
      have h3 := below_grew HS3.out hg9 (Nat.le_refl _) (fun q hq => by rw [← Option.some.inj hq]; exact HG.out)
      have HF := hide (And.intro hrow (And.intro h1 (And.intro h2 (And.intro HG.out h3))))
      clear hrow hrow2 hg9 hz9 h1 h2 h3 HO1 HO2 HB HG
      go_wp2_with fail
      refine wpAnyT_done (by kernel_rfl) ?_ _
      go_wp2_with fail
      go_meet
      case rel => exact ⟨_, _, _, _, _, rfl, HF.out⟩
  case rest =>
  obtain ⟨g8, Ae1, ce1, Ae2, ce2, hp, hbx, ho1, ho2, hge, hbel⟩ := hcut
  subst hp
  have hgml := H6.out.1.box.lt
  have hrl := H6.out.1.rows_lt
  have HF0 := hide (FolP.mk (w := w) (gm := gm) (N := N) (lo := W6.heap.size) (x := x.posOf.1) (k := 0) (vs := []) (H6.out.1.next hbel) hbx ho1 ho2 (World.ownsRow_nil _ _ _ _) rfl (fun i hi => (by omega)) (H6.out.2.2.2.1.nxt hbel) (H6.out.2.2.2.2.trans (hbel.mono (by have := H6.out.2.2.2.2.size; omega))))
  have hgmw : w.heap.size + 2 ≤ gm := by omega
  clear hbx ho1 ho2 hbel H6
  have hrl9 : rows.length ≤ 900000 := by have := HEQ.out; omega
  obtain ⟨FA, Fc, hfv⟩ := maps_form HF0.out.at_.fol
  subst hfv
  have cg := HF0.out.at_.box.cell
  go_wp2_with fail
  clear cg
  go_loopw [50] (fun kv wr => ∃ (k : Nat) (vs : List Value) (fv : Value), kv = .int .i64 k ∧ k ≤ rows.length ∧ FolP w gm N W6.heap.size g8 rows (.slice As N cs) (.slice FA rows.length Fc) x.posOf.2.M x.posOf.2.S x.posOf.1 (.slice Ae1 (edgesOf N x.posOf.1.fst).length ce1) (.slice Ae2 (edgesOf N x.posOf.1.lst).length ce2) k vs fv wr) (fun kv _ => rows.length - (intOf kv).toNat)
  case atStart => exact ⟨0, [], _, rfl, by omega, HF0.out⟩
  case round =>
    clear HF0
    obtain ⟨k, vs, fv, rfl, hk, hF⟩ := hrel
    have HF := hide hF
    clear hF
    obtain ⟨Av, Ac2, hv⟩ := ownV_form HF.out.own
    rw [HF.out.len] at hv
    subst hv
    have hgl8 := HF.out.box.lt
    by_cases hlt : k < rows.length
    case neg =>
      have g2 : decide ((k : Int) < (rows.length : Int)) = false := decide_eq_false (by omega)
      have hkN : k = N := by have := HEQ.out; omega
      have hown := HF.out.own_ hkN (by omega) (by omega)
      have hlaid : Po.mk x.posOf.2.S ((x.posOf.1.null : Nat) : Int) (edgesOf N x.posOf.1.fst) (edgesOf N x.posOf.1.lst) ((List.range N).map fun i => edgesOf N (x.posOf.2.M i)) = x.laid := by rw [HN9.out]; rfl
      rw [hlaid] at hown
      have HO := hide hown
      clear hown hlaid hkN
      have c8 := HF.out.box.cell
      go_wp2_with (refine wpList_store_row rfl _ _ _ rfl (w.heap.size + 1) 0 _ _ _ rfl rfl HF.out.res Tryd.sizePo17 (by simp) (by simp [Value.oneCell']) ?_)
      intro w9 hrow2 hg9 hz9
      have hrow := hrow2.out
      rw [splice_full (by rfl)] at hrow
      have HF9 := hide (And.intro (HO.out.turn HF.out.res (same_grew hg9)) (below_grew HF.out.below hg9 (Nat.le_refl _) (fun q hq => by rw [← Option.some.inj hq]; omega)))
      have c9 := hrow.cell
      clear hrow hrow2 hg9 hz9 c8
      go_wp2_with fail
      refine bodyPost_ret (v := .tuple #[.agg #[.slice As N cs, .int .i64 ((x.posOf.1.null : Nat) : Int), .slice Ae1 (edgesOf N x.posOf.1.fst).length ce1, .slice Ae2 (edgesOf N x.posOf.1.lst).length ce2, .slice Av k Ac2], .nilIface]) (by simp [results, Tryd.results52, go_sem, c9]) rfl ?_
      exact HPM.out _ _ ⟨_, _, _, _, vs, rfl, HF9.out.1, HF9.out.2⟩
    have g2 : decide ((k : Int) < (rows.length : Int)) = true := decide_eq_true (by omega)
    obtain ⟨b, hb⟩ : ∃ b, rows[k]? = some b := ⟨_, List.getElem?_eq_getElem hlt⟩
    have hm := HF.out.at_.maps k b hb
    obtain ⟨fb, fc, hfv, hcell⟩ := HF.out.at_.row hb
    injection hfv with hA hA2 hA3
    subst hA
    clear hA2 hA3
    have HE := hide (fun (z : World) (hz : Below wr.heap.size wr z) => posEdges_any b N (x.posOf.2.M k) z hN900 (hm.next hz))
    have hlen9 : vs.length < 1000000 := by rw [HF.out.len]; have := HEQ.out; omega
    have hwlo : W6.heap.size < wr.heap.size := by omega
    clear hm hb
    go_upto_region 11 with fail
    clear hcell
    refine wp_region_mix (fun z => Below wr.heap.size wr z) [6, 8] (by kernel_rfl) (fun hcl => ?_)
    have hS : Below wr.heap.size wr wr.drew := (Below.refl _ _).drew
    refine wpAnyT_free (i := 0) hcl rfl (by kernel_rfl) (v := ?_) (fun _ _ _ h => h) hS (Or.inl ⟨rfl, fun w' _ => ?_⟩) (fun hcl => ?_)
    rotate_left
    · go_simp
      with_reducible rfl
    simp only [List.getElem_toArray, List.getElem_cons_zero, List.getElem_cons_succ, Act.put, List.setIfInBounds_toArray, List.set_cons_zero, List.set_cons_succ]
    refine wpAnyT_take (i := 1) hcl rfl (by kernel_rfl) (v := ?_) (fun _ _ _ h => h) hS (Or.inl ⟨rfl, fun w' hS => ?_⟩) (fun hcl => ?_)
    rotate_left
    · skip
      have cb := (HF.out.box.nxt hS).cell
      go_simp
      with_reducible rfl
    simp only [List.getElem_toArray, List.getElem_cons_zero, List.getElem_cons_succ, Act.put, List.setIfInBounds_toArray, List.set_cons_zero, List.set_cons_succ]
    refine wpAnyT_free (i := 2) hcl rfl (by kernel_rfl) (v := ?_) (fun _ _ _ h => h) hS (Or.inl ⟨rfl, fun w' _ => ?_⟩) (fun hcl => ?_)
    rotate_left
    · go_simp
      with_reducible rfl
    simp only [List.getElem_toArray, List.getElem_cons_zero, List.getElem_cons_succ, Act.put, List.setIfInBounds_toArray, List.set_cons_zero, List.set_cons_succ]
    refine wpAnyT_free (i := 3) hcl rfl (by kernel_rfl) (v := ?_) (fun _ _ _ h => h) hS (Or.inl ⟨rfl, fun w' _ => ?_⟩) (fun hcl => ?_)
    rotate_left
    · go_simp
      with_reducible rfl
    simp only [List.getElem_toArray, List.getElem_cons_zero, List.getElem_cons_succ, Act.put, List.setIfInBounds_toArray, List.set_cons_zero, List.set_cons_succ]
    have HS0 := hide hS
    clear hS
    refine wpAnyT_step (i := 4) hcl rfl (by kernel_rfl) (fun hcl => ?_)
    simp only [List.getElem_toArray, List.getElem_cons_zero, List.getElem_cons_succ, Act.put, List.setIfInBounds_toArray, List.set_cons_zero, List.set_cons_succ]
    go_wp2_with fail
    refine (HE.out _ HS0.out).mono ?_
    rintro e z0 ⟨v, rfl, ho, hb⟩
    obtain ⟨Ae, ce, rfl, _⟩ := ho.form
    have HS1 := hide (HS0.out.trans (hb.mono HS0.out.size))
    have HO := hide (ho.lower (show W6.heap.size ≤ _ by have := HS0.out.size; omega))
    clear ho hb HE HS0
    go_wp2_with fail
    refine ⟨HS1.out, ?_⟩
    refine wpAnyT_step (i := 5) hcl rfl (by kernel_rfl) (fun hcl => ?_)
    simp only [List.getElem_toArray, List.getElem_cons_zero, List.getElem_cons_succ, Act.put, List.setIfInBounds_toArray, List.set_cons_zero, List.set_cons_succ]
    go_wp2_with fail
    have HS2 := hide (HS1.out.alloc HS1.out.size (.cells #[.slice Ae (edgesOf N (x.posOf.2.M k)).length ce] 72))
    refine ⟨HS2.out, ?_⟩
    have HOA := hide (HO.out.below ((Below.refl _ z0).alloc (Nat.le_refl _) (.cells #[.slice Ae (edgesOf N (x.posOf.2.M k)).length ce] 72)) (Nat.le_refl _))
    have HF2 := hide (HF.out.next HS2.out)
    have hz0 := HS1.out.size
    have hbn := hide (Blk.new z0 72 #[.slice Ae (edgesOf N (x.posOf.2.M k)).length ce])
    clear HO
    refine wpAnyT_last (i := 6) hcl rfl (by kernel_rfl) (by kernel_rfl) (fun hcl => ?_)
    simp only [List.getElem_toArray, List.getElem_cons_zero, List.getElem_cons_succ, Act.put, List.setIfInBounds_toArray, List.set_cons_zero, List.set_cons_succ]
    refine wpList_append_val 73 72 Tryd.underlying73 Tryd.infoEdges17 rfl _ _ rfl W6.heap.size _ vs rfl HF2.out.own (.slice Ae (edgesOf N (x.posOf.2.M k)).length ce) z0.heap.size 1 rfl rfl hbn.out hlen9 (by simp; omega) ?_
    intro v' w7 hown7 hg7 hat7 hform7
    obtain ⟨A7, c7, rfl⟩ := hform7
    refine wpList_nil ?_
    have hbx7 := HF2.out.box.same (fun q (hq : q < _ ∧ _ ≠ some q) => hg7.block q hq.1 (fun e => hq.2 e.symm)) ⟨HF2.out.box.lt, own_ne_blk HF2.out.own HF2.out.box (by decide)⟩
    have HF7 := hide (HF2.out.push (by omega) hge HOA.out hown7 hg7)
    have c8 := hbx7.cell
    have f8 := hbx7.frozen
    clear hown7 hg7 hat7 hbx7 HF2 HOA hbn
    refine wpAnyT_last (i := 7) hcl rfl (by kernel_rfl) (by kernel_rfl) (fun hcl => ?_)
    simp only [List.getElem_toArray, List.getElem_cons_zero, List.getElem_cons_succ, Act.put, List.setIfInBounds_toArray, List.set_cons_zero, List.set_cons_succ]
    go_wp2_with fail
    refine wpAnyT_last (i := 8) hcl rfl (by kernel_rfl) (by kernel_rfl) (fun hcl => ?_)
    simp only [List.getElem_toArray, List.getElem_cons_zero, List.getElem_cons_succ, Act.put, List.setIfInBounds_toArray, List.set_cons_zero, List.set_cons_succ]
    go_wp2_with fail
    refine wpAnyT_done (by kernel_rfl) ?_ _
    clear c8 f8
    go_wp2_with fail
    go_roundw
    case rel => first | exact ⟨k + 1, _, _, by go_num, hlt, HF7.out⟩ | ((repeat apply Exists.intro); refine ⟨?_, rfl⟩; exact ⟨k + 1, _, _, by go_num, hlt, HF7.out⟩)
    case measure => simp [intOf]; omega
end Go.Proofs.YtbbhobojghmkpaaDoor
