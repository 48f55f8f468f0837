/- PosOf: posit's maker.of: a node's part (rows apart). (Printed by gen_posof.py.)
PosBytes: posit's maker.of: a node of bytes. (Printed by gen_posof.py.)
PosRep: posit's maker.of: a repeat. (Printed by gen_posof.py.)
PosAlt: posit's maker.of: a group, alternatives. (Printed by gen_posof.py.)
PosSeq: posit's maker.seq: a row. (Printed by gen_posof.py.)
PosAll: posit's maker.of: a row; any tree. (Printed by gen_posof.py.) -/
import Derived.Test.YtbbhobojghmkpaaDoorPosDefs
import Derived.Test.YtbbhobojghmkpaaDoorOf17b
set_option linter.unusedSimpArgs false
set_option linter.unusedVariables false
set_option linter.unnecessarySimpa false

/-! ## PosOf -/
namespace Go.Proofs.YtbbhobojghmkpaaDoor
open Go.RowKit Go.Maps

theorem Tryd.infoWays : (Tryd.prog.info? 114).map (fun i => (i.zero, i.size, i.bytes)) = some (some (.map none), 1, 8) := by kernel_rfl
theorem Tryd.infoPosPart : (Tryd.prog.info? 116).map (fun i => (i.zero, i.size, i.bytes)) = some (some (.agg #[.int .i64 0, .map none, .map none]), 3, 24) := by kernel_rfl
theorem Tryd.sizePosPart : (Tryd.prog.info? 116).map (·.size) = some 3 := by kernel_rfl

section
variable {w : World} {ops : Array Oper} {rest : List Oper} {o : Oper} {a : Act} {Q : Exit → Act → World → Prop}
/-- To a list of maps one more. -/
theorem wpList_append_map (hgd : o.guard = none) (s x : Operand) (ho : o.op = .call { callee := .builtin .append, args := #[s, x], argTypes := #[111, 111] })
    (base : Nat) (v : Value) (rows : List Nat) (hs : a.eval s = v) (hg : w.ownsRow base 114 1 v rows.length (mapVals rows)) (b : Nat) (g cap : Nat)
    (hx : a.eval x = .slice (some ⟨g, 0, none⟩) 1 cap) (hb : Blk w g 114 #[.map (some b)]) (hl : rows.length < 1000000) (hbase : base ≤ w.heap.size)
    (h : ∀ v' w', w'.ownsRow base 114 1 v' (rows ++ [b]).length (mapVals (rows ++ [b])) → w.grownBy w' v.ownBlock → (v'.ownBlock = v.ownBlock ∨ v'.ownBlock = some w.heap.size) → wpList Tryd.prog ops Q rest (a.put o.dst v') w') : wpList Tryd.prog ops Q (o :: rest) a w := by
  obtain ⟨i, hi, hz0, hz1, hz2⟩ := info_parts Tryd.infoWays
  refine wpList_append_own_at w hgd s x 111 ho base 114 i _ 1 8 Tryd.underlying111 hi hz0 hz1 hz2 rfl (by decide) v rows.length _ hs hg ⟨g, 0, none⟩ 1 cap [.map (some b)] hx rfl ?_ (by simp [Value.oneCell']) (by simp only [maxLen]; omega) (by omega) hbase ?_
  · intro j u hu
    rw [Addr.add_lit, Nat.zero_add, hb.cell]
    simpa using hu
  intro v' w' hown hgr _ h4
  refine h v' w' ?_ hgr h4
  simpa [mapVals] using hown
end
theorem maps_form {w : World} {base n : Nat} {v : Value} {l : List Value} (h : w.ownsRow base 114 1 v n l) : ∃ A c, v = .slice A n c := by
  rcases h.2 with ⟨e, h0⟩ | ⟨g, cap, cur, e, _⟩
  · exact ⟨none, 0, by rw [e, h0]⟩
  · exact ⟨_, _, e⟩

/-- A contract of of, for one tree. -/
def PosC (gm N B0 : Nat) (t : T) : Prop := ∀ (A : Option Addr) (c : Nat) (y : World) (s : St) (rows : List Nat) (sv fv : Value), T.In y (· < B0) t A → B0 ≤ y.heap.size → MkP y gm N rows sv fv s.S s.M B0 → rows.length = s.S.length → (t.pos s).2.S.length ≤ N →
    Calls Tryd.prog 89 #[.pointer (some ⟨gm, 0, none⟩), .agg (t.hd.cells (.slice A t.subs.length c)).toArray] y (PosPost gm N B0 rows sv fv (t.pos s) y)

/-- The call's boxes: the node's, the result's, the part's. -/
structure XP (gm N B0 : Nat) (rows : List Nat) (sv fv : Value) (y : World) (ct : Array Value) (gt gr gx : Nat) (x : Pt) (f l : Nat) (rows' : List Nat) (sv' fv' : Value) (s' : St) (wr : World) : Prop where
  nx : MkN gm N B0 rows sv fv y rows' sv' fv' s' wr
  mp : MapsAt N y.heap.size x f l rows' wr
  bt : Blk wr gt 27 ct
  br : Blk wr gr 116 #[.int .i64 0, .map none, .map none]
  bx : Blk wr gx 116 (partCells x.null f l).toArray
  gty : y.heap.size ≤ gt
  gry : y.heap.size ≤ gr
  gxy : y.heap.size ≤ gx
  gne : gx ≠ gr
section
variable {gm N B0 : Nat} {rows rows' rows2 : List Nat} {sv fv sv' fv' sv2 fv2 : Value} {s' s2 : St} {y w w' : World} {x x2 : Pt} {f l gt gr gx : Nat} {ct : Array Value}
theorem XP.size (h : XP gm N B0 rows sv fv y ct gt gr gx x f l rows' sv' fv' s' w) : gx < w.heap.size := h.bx.lt
theorem XP.next (h : XP gm N B0 rows sv fv y ct gt gr gx x f l rows' sv' fv' s' w) (hB : B0 ≤ y.heap.size) (hb : Below w.heap.size w w') : XP gm N B0 rows sv fv y ct gt gr gx x f l rows' sv' fv' s' w' :=
  have h1 := h.size
  have h2 := h.gxy
  have h3 := h.gry
  have h4 := h.gne
  have h5 := h.gty
  ⟨h.nx.next (by omega) (by omega) hb, h.mp.next hb, h.bt.nxt hb, h.br.nxt hb, h.bx.nxt hb, h.gty, h.gry, h.gxy, h.gne⟩
theorem MkP.turn {g : Nat} {t : TypeId} {cs : Array Value} {S : List Se} {M : Nat → Nat → Nat} (h : MkP w gm N rows sv fv S M B0) (hb : Blk w g t cs) (h1 : t ≠ 113) (h2 : t ≠ 24) (h3 : t ≠ 114) (hs : Same (fun b => b < w.heap.size ∧ b ≠ g) w w') : MkP w' gm N rows sv fv S M B0 := by
  have hne : ∀ {E : TypeId} {size n : Nat} {v : Value} {l : List Value}, w.ownsRow B0 E size v n l → t ≠ E → ∀ k, v.ownBlock = some k → k < w.heap.size ∧ k ≠ g := fun ho ht k hk => by
    refine ⟨(World.ownsRow.lt ho k hk).2, fun e => ?_⟩
    subst e
    rcases ho.2 with ⟨e1, _⟩ | ⟨g2, cap, cur, e1, _, hg2, _⟩
    · rw [e1] at hk; cases hk
    · rw [e1] at hk
      obtain rfl : g2 = k := by simpa [Value.ownBlock] using hk
      exact Blk.ne_type hb (show Blk w g2 _ cur from hg2) ht rfl
  refine h.same hs ⟨h.box.lt, fun e => h.box.ne_type hb (fun e => h1 e.symm) e⟩ (hne h.sets h2) (hne h.fol h3) (fun b hr => ⟨h.rows_lt b hr, fun e => ?_⟩)
  subst e
  obtain ⟨i, hi, e⟩ := List.getElem_of_mem hr
  exact (h.maps i b (by rw [List.getElem?_eq_getElem hi, e])).ne_blk hb rfl
theorem MkP.but {b M' : Nat} {g : Nat → Nat} {S : List Se} {M : Nat → Nat → Nat} (h : MkP w gm N rows sv fv S M B0) (hm : WMap w b M' g) (hr : b ∉ rows) (hs : Same (fun c => c < w.heap.size ∧ c ≠ b) w w') : MkP w' gm N rows sv fv S M B0 :=
  h.same hs ⟨h.box.lt, hm.ne_blk h.box⟩ (fun q hq => ⟨(World.ownsRow.lt h.sets q hq).2, fun e => own_ne_map h.sets hm (e ▸ hq)⟩) (fun q hq => ⟨(World.ownsRow.lt h.fol q hq).2, fun e => own_ne_map h.fol hm (e ▸ hq)⟩) (fun c hc => ⟨h.rows_lt c hc, fun e => hr (e ▸ hc)⟩)
theorem MkN.turn {g : Nat} {t : TypeId} {cs : Array Value} (h : MkN gm N B0 rows sv fv y rows' sv' fv' s' w) (hb : Blk w g t cs) (h1 : t ≠ 113) (h2 : t ≠ 24) (h3 : t ≠ 114) (hy : y.heap.size ≤ g) (hs : Same (fun b => b < w.heap.size ∧ b ≠ g) w w') (hbel : Below B0 y w') : MkN gm N B0 rows sv fv y rows' sv' fv' s' w' :=
  ⟨h.st.turn hb h1 h2 h3 hs, h.pre, h.svb, h.fvb, h.same.trans (hs.mono fun b hb' => ⟨by have := hb'.1; have := hb.lt; omega, by have := hb'.1; omega⟩), hbel⟩
theorem MapsAt.turn {g lo : Nat} {t : TypeId} {cs : Array Value} (h : MapsAt N lo x f l rows w) (hb : Blk w g t cs) (hs : Same (fun b => b < w.heap.size ∧ b ≠ g) w w') : MapsAt N lo x f l rows w' :=
  h.same hs ⟨h.fst.lt, fun e => h.fst.ne_blk hb e.symm⟩ ⟨h.lst.lt, fun e => h.lst.ne_blk hb e.symm⟩
theorem same_set (w : World) (a : Addr) (v : Value) : Same (fun b => b < w.heap.size ∧ b ≠ a.block) w (w.setCell a v) := (Same.refl _ w).set (fun h => h.2 rfl) _
theorem same_grew {g : Nat} (hg : w.grownBy w' (some g)) : Same (fun b => b < w.heap.size ∧ b ≠ g) w w' := fun b hb => hg.block b hb.1 (fun e => hb.2 (Option.some.inj e))
/-- The part's null is written. -/
theorem XP.null (h : XP gm N B0 rows sv fv y ct gt gr gx x f l rows' sv' fv' s' w) (hB : B0 ≤ y.heap.size) (n : Nat) : XP gm N B0 rows sv fv y ct gt gr gx ⟨n, x.fst, x.lst⟩ f l rows' sv' fv' s' (w.setCell ⟨gx, 0, none⟩ (.int .i64 ((n : Nat) : Int))) := by
  have h1 := h.size
  have h2 := h.gxy
  have h3 := h.gry
  have h4 := h.gne
  have h5 := h.gty
  have hs := same_set w ⟨gx, 0, none⟩ (.int .i64 ((n : Nat) : Int))
  have hb := h.nx.below.setCell (p := ⟨gx, 0, none⟩) (by show B0 ≤ gx; omega) (.int .i64 ((n : Nat) : Int))
  refine ⟨h.nx.turn h.bx (by decide) (by decide) (by decide) (by omega) hs hb, ?_, h.bt.far (h.bt.ne_type h.bx (by decide)) _, h.br.far (fun e => h.gne e.symm) _, ?_, h.gty, h.gry, h.gxy, h.gne⟩
  · have := h.mp.turn h.bx hs
    exact ⟨this.fst, this.lst, this.ne, this.fr, this.lr, this.fy, this.ly⟩
  · have h9 := heap_setCell_same w gx 0 _ _ (.int .i64 ((n : Nat) : Int)) h.bx
    have e9 : (partCells x.null f l).toArray.setIfInBounds 0 (.int .i64 ((n : Nat) : Int)) = (partCells n f l).toArray := rfl
    rw [e9] at h9
    exact h9
/-- The maker's list of sets has one more. -/
theorem XP.pushS (h : XP gm N B0 rows sv fv y ct gt gr gx x f l rows' sv' fv' s' w) {v' : Value} {e : Se} (hs5 : Same (fun b => b < w.heap.size ∧ sv'.ownBlock ≠ some b) w w') (hown : w'.ownsRow B0 24 4 v' (s'.S ++ [e]).length ((s'.S ++ [e]).flatMap Se.cells)) (hv : v'.ownBlock = sv'.ownBlock ∨ ∀ g, v'.ownBlock = some g → w.heap.size ≤ g) (hb : Below B0 w w') :
    XP gm N B0 rows sv fv y ct gt gr gx x f l rows' v' fv' ⟨s'.S ++ [e], s'.M⟩ (w'.setCell ⟨gm, 0, none⟩ v') := by
  have h1 := h.size
  have h2 := h.gxy
  have h3 := h.gry
  have h4 := h.gne
  have h5 := h.gty
  have hset : Same (· ≠ gm) w' (w'.setCell ⟨gm, 0, none⟩ v') := (Same.refl _ _).set (fun h => h rfl) _
  have hbx := h.nx.st.box.same hs5 ⟨h.nx.st.box.lt, own_ne_blk h.nx.st.sets h.nx.st.box (by decide)⟩
  have hm : ∀ {b : Nat} {g : Nat → Nat}, WMap w b N g → WMap (w'.setCell ⟨gm, 0, none⟩ v') b N g := fun hm =>
    have h9 := hm.same hs5 ⟨hm.lt, own_ne_map h.nx.st.sets hm⟩
    h9.same hset (fun e => h9.ne_blk hbx e.symm)
  have hk : ∀ {b : Nat} {t : TypeId} {cs : Array Value}, Blk w b t cs → 24 ≠ t → t ≠ 113 → Blk (w'.setCell ⟨gm, 0, none⟩ v') b t cs := fun hk t1 t2 =>
    have h9 := hk.same hs5 ⟨hk.lt, own_ne_blk h.nx.st.sets hk t1⟩
    h9.same hset (h9.ne_type hbx t2)
  exact ⟨h.nx.pushS (by omega) hs5 hown hv hb, ⟨hm h.mp.fst, hm h.mp.lst, h.mp.ne, h.mp.fr, h.mp.lr, h.mp.fy, h.mp.ly⟩, hk h.bt (by decide) (by decide), hk h.br (by decide) (by decide), hk h.bx (by decide) (by decide), h.gty, h.gry, h.gxy, h.gne⟩
/-- Its list of maps has one more. -/
theorem XP.pushF (h : XP gm N B0 rows sv fv y ct gt gr gx x f l rows' sv' fv' s' w) (hB : B0 ≤ y.heap.size) {v' : Value} {b : Nat} (hs5 : Same (fun b => b < w.heap.size ∧ fv'.ownBlock ≠ some b) w w') (hown : w'.ownsRow B0 114 1 v' (rows' ++ [b]).length (mapVals (rows' ++ [b]))) (hv : v'.ownBlock = fv'.ownBlock ∨ ∀ g, v'.ownBlock = some g → w.heap.size ≤ g) (hb : Below B0 w w')
    (hmb : WMap w' b N (fun _ => 0)) (hbw : w.heap.size ≤ b) (hlt : rows'.length < s'.S.length) (hz : ∀ q, s'.M rows'.length q = 0) :
    XP gm N B0 rows sv fv y ct gt gr gx x f l (rows' ++ [b]) sv' v' s' (w'.setCell ⟨gm, 1, none⟩ v') := by
  have h1 := h.size
  have h2 := h.gxy
  have h3 := h.gry
  have h4 := h.gne
  have h5 := h.gty
  have hset : Same (· ≠ gm) w' (w'.setCell ⟨gm, 1, none⟩ v') := (Same.refl _ _).set (fun h => h rfl) _
  have hbx := h.nx.st.box.same hs5 ⟨h.nx.st.box.lt, own_ne_blk h.nx.st.fol h.nx.st.box (by decide)⟩
  have hm : ∀ {b : Nat} {g : Nat → Nat}, WMap w b N g → WMap (w'.setCell ⟨gm, 1, none⟩ v') b N g := fun hm =>
    have h9 := hm.same hs5 ⟨hm.lt, own_ne_map h.nx.st.fol hm⟩
    h9.same hset (fun e => h9.ne_blk hbx e.symm)
  have hk : ∀ {b : Nat} {t : TypeId} {cs : Array Value}, Blk w b t cs → 114 ≠ t → t ≠ 113 → Blk (w'.setCell ⟨gm, 1, none⟩ v') b t cs := fun hk t1 t2 =>
    have h9 := hk.same hs5 ⟨hk.lt, own_ne_blk h.nx.st.fol hk t1⟩
    h9.same hset (h9.ne_type hbx t2)
  have hnew : ∀ {c : Nat}, c < w.heap.size → c ∉ rows' → c ∉ rows' ++ [b] := fun hc hn hm => by
    rcases List.mem_append.1 hm with h3 | h3
    · exact hn h3
    · have := List.mem_singleton.1 h3; omega
  exact ⟨h.nx.pushF (by omega) hB hs5 hown hv hb hmb hbw hlt hz, ⟨hm h.mp.fst, hm h.mp.lst, h.mp.ne, hnew h.mp.fst.lt h.mp.fr, hnew h.mp.lst.lt h.mp.lr, h.mp.fy, h.mp.ly⟩, hk h.bt (by decide) (by decide), hk h.br (by decide) (by decide), hk h.bx (by decide) (by decide), h.gty, h.gry, h.gxy, h.gne⟩
/-- One of the part's maps is written. -/
theorem XP.putF (h : XP gm N B0 rows sv fv y ct gt gr gx x f l rows' sv' fv' s' w) (hB : B0 ≤ y.heap.size) {g : Nat → Nat} (hg : w.grownBy w' (some f)) (hm : WMap w' f N g) : XP gm N B0 rows sv fv y ct gt gr gx ⟨x.null, g, x.lst⟩ f l rows' sv' fv' s' w' := by
  have h1 := h.size
  have h2 := h.gxy
  have h3 := h.gry
  have h4 := h.gne
  have h5 := h.gty
  have hf := h.mp.fy
  have hs := same_grew hg
  have hb := below_grew h.nx.below hg hB (fun q hq => by rw [← Option.some.inj hq]; omega)
  have hk : ∀ {b : Nat} {t : TypeId} {cs : Array Value}, Blk w b t cs → Blk w' b t cs := fun hk => hk.same hs ⟨hk.lt, h.mp.fst.ne_blk hk⟩
  exact ⟨⟨h.nx.st.grown hg (fun b hb e => h.mp.fr (e ▸ hb)) (fun q t cs hq => h.mp.fst.ne_blk hq), h.nx.pre, h.nx.svb, h.nx.fvb, h.nx.same.trans (hs.mono fun b hb => ⟨by have := hb.1; omega, by have := hb.1; omega⟩), hb⟩, ⟨hm, h.mp.lst.same hs ⟨h.mp.lst.lt, h.mp.ne.symm⟩, h.mp.ne, h.mp.fr, h.mp.lr, h.mp.fy, h.mp.ly⟩, hk h.bt, hk h.br, hk h.bx, h.gty, h.gry, h.gxy, h.gne⟩
theorem XP.putL (h : XP gm N B0 rows sv fv y ct gt gr gx x f l rows' sv' fv' s' w) (hB : B0 ≤ y.heap.size) {g : Nat → Nat} (hg : w.grownBy w' (some l)) (hm : WMap w' l N g) : XP gm N B0 rows sv fv y ct gt gr gx ⟨x.null, x.fst, g⟩ f l rows' sv' fv' s' w' := by
  have h1 := h.size
  have h2 := h.gxy
  have h3 := h.gry
  have h4 := h.gne
  have h5 := h.gty
  have hl := h.mp.ly
  have hs := same_grew hg
  have hb := below_grew h.nx.below hg hB (fun q hq => by rw [← Option.some.inj hq]; omega)
  have hk : ∀ {b : Nat} {t : TypeId} {cs : Array Value}, Blk w b t cs → Blk w' b t cs := fun hk => hk.same hs ⟨hk.lt, h.mp.lst.ne_blk hk⟩
  exact ⟨⟨h.nx.st.grown hg (fun b hb e => h.mp.lr (e ▸ hb)) (fun q t cs hq => h.mp.lst.ne_blk hq), h.nx.pre, h.nx.svb, h.nx.fvb, h.nx.same.trans (hs.mono fun b hb => ⟨by have := hb.1; omega, by have := hb.1; omega⟩), hb⟩, ⟨h.mp.fst.same hs ⟨h.mp.fst.lt, h.mp.ne⟩, hm, h.mp.ne, h.mp.fr, h.mp.lr, h.mp.fy, h.mp.ly⟩, hk h.bt, hk h.br, hk h.bx, h.gty, h.gry, h.gxy, h.gne⟩
/-- One of the part's maps was written; what else is new may be anything. -/
theorem XP.outF (h : XP gm N B0 rows sv fv y ct gt gr gx x f l rows' sv' fv' s' w) (hs : Same (fun b => b < w.heap.size ∧ b ≠ f) w w') (hb : Below B0 w w') {g : Nat → Nat} (hm : WMap w' f N g) : XP gm N B0 rows sv fv y ct gt gr gx ⟨x.null, g, x.lst⟩ f l rows' sv' fv' s' w' := by
  have h1 := h.size
  have h2 := h.gxy
  have h3 := h.gry
  have h4 := h.gne
  have h5 := h.gty
  have hf := h.mp.fy
  have hk : ∀ {b : Nat} {t : TypeId} {cs : Array Value}, Blk w b t cs → Blk w' b t cs := fun hk => hk.same hs ⟨hk.lt, h.mp.fst.ne_blk hk⟩
  exact ⟨⟨h.nx.st.but h.mp.fst h.mp.fr hs, h.nx.pre, h.nx.svb, h.nx.fvb, h.nx.same.trans (hs.mono fun b hb => ⟨by have := hb.1; omega, by have := hb.1; omega⟩), h.nx.below.trans hb⟩, ⟨hm, h.mp.lst.same hs ⟨h.mp.lst.lt, h.mp.ne.symm⟩, h.mp.ne, h.mp.fr, h.mp.lr, h.mp.fy, h.mp.ly⟩, hk h.bt, hk h.br, hk h.bx, h.gty, h.gry, h.gxy, h.gne⟩
theorem XP.outL (h : XP gm N B0 rows sv fv y ct gt gr gx x f l rows' sv' fv' s' w) (hs : Same (fun b => b < w.heap.size ∧ b ≠ l) w w') (hb : Below B0 w w') {g : Nat → Nat} (hm : WMap w' l N g) : XP gm N B0 rows sv fv y ct gt gr gx ⟨x.null, x.fst, g⟩ f l rows' sv' fv' s' w' := by
  have h1 := h.size
  have h2 := h.gxy
  have h3 := h.gry
  have h4 := h.gne
  have h5 := h.gty
  have hl := h.mp.ly
  have hk : ∀ {b : Nat} {t : TypeId} {cs : Array Value}, Blk w b t cs → Blk w' b t cs := fun hk => hk.same hs ⟨hk.lt, h.mp.lst.ne_blk hk⟩
  exact ⟨⟨h.nx.st.but h.mp.lst h.mp.lr hs, h.nx.pre, h.nx.svb, h.nx.fvb, h.nx.same.trans (hs.mono fun b hb => ⟨by have := hb.1; omega, by have := hb.1; omega⟩), h.nx.below.trans hb⟩, ⟨h.mp.fst.same hs ⟨h.mp.fst.lt, h.mp.ne⟩, hm, h.mp.ne, h.mp.fr, h.mp.lr, h.mp.fy, h.mp.ly⟩, hk h.bt, hk h.br, hk h.bx, h.gty, h.gry, h.gxy, h.gne⟩
/-- A map that is none of the part's was written. -/
theorem XP.other (h : XP gm N B0 rows sv fv y ct gt gr gx x f l rows' sv' fv' s' w) {m M' : Nat} {g : Nat → Nat} (hm : WMap w m M' g) (hf : m ≠ f) (hl : m ≠ l) (hr : m ∉ rows') (hy : y.heap.size ≤ m) (hs : Same (fun b => b < w.heap.size ∧ b ≠ m) w w') (hb : Below B0 w w') : XP gm N B0 rows sv fv y ct gt gr gx x f l rows' sv' fv' s' w' := by
  have h1 := h.size
  have h2 := h.gxy
  have hk : ∀ {b : Nat} {t : TypeId} {cs : Array Value}, Blk w b t cs → Blk w' b t cs := fun hk => hk.same hs ⟨hk.lt, hm.ne_blk hk⟩
  exact ⟨⟨h.nx.st.but hm hr hs, h.nx.pre, h.nx.svb, h.nx.fvb, h.nx.same.trans (hs.mono fun b hb => ⟨by have := hb.1; omega, by have := hb.1; omega⟩), h.nx.below.trans hb⟩, h.mp.same hs ⟨h.mp.fst.lt, fun e => hf e.symm⟩ ⟨h.mp.lst.lt, fun e => hl e.symm⟩, hk h.bt, hk h.br, hk h.bx, h.gty, h.gry, h.gxy, h.gne⟩
/-- The part's lasts are another map. -/
theorem XP.lastTo (h : XP gm N B0 rows sv fv y ct gt gr gx x f l rows' sv' fv' s' w) (hB : B0 ≤ y.heap.size) {m : Nat} {g : Nat → Nat} (hm : WMap w m N g) (hf : m ≠ f) (hr : m ∉ rows') (hy : y.heap.size ≤ m) : XP gm N B0 rows sv fv y ct gt gr gx ⟨x.null, x.fst, g⟩ f m rows' sv' fv' s' (w.setCell ⟨gx, 2, none⟩ (.map (some m))) := by
  have h1 := h.size
  have h2 := h.gxy
  have hs := same_set w ⟨gx, 2, none⟩ (.map (some m))
  have hb := h.nx.below.setCell (p := ⟨gx, 2, none⟩) (by show B0 ≤ gx; omega) (.map (some m))
  refine ⟨h.nx.turn h.bx (by decide) (by decide) (by decide) (by omega) hs hb, ⟨(h.mp.turn h.bx hs).fst, hm.same hs ⟨hm.lt, fun e => hm.ne_blk h.bx e.symm⟩, fun e => hf e.symm, h.mp.fr, hr, h.mp.fy, hy⟩, h.bt.far (h.bt.ne_type h.bx (by decide)) _, h.br.far (fun e => h.gne e.symm) _, ?_, h.gty, h.gry, h.gxy, h.gne⟩
  have h9 := heap_setCell_same w gx 2 _ _ (.map (some m)) h.bx
  have e9 : (partCells x.null f l).toArray.setIfInBounds 2 (.map (some m)) = (partCells x.null f m).toArray := rfl
  rw [e9] at h9
  exact h9
theorem Linked.blk {S : List Se} {M M' : Nat → Nat → Nat} {b : Nat} {t : TypeId} {cs : Array Value} (k : Linked gm N rows sv fv S M' B0 w w') (h : MkP w gm N rows sv fv S M B0) (hb : Blk w b t cs) : Blk w' b t cs := hb.same k.same ⟨hb.lt, fun hr => by
  obtain ⟨i, hi, e⟩ := List.getElem_of_mem hr
  exact (h.maps i _ (by rw [List.getElem?_eq_getElem hi, e])).ne_blk hb rfl⟩
theorem XP.congr (h : XP gm N B0 rows sv fv y ct gt gr gx x f l rows' sv' fv' s' w) (h1 : x2.null = x.null) (h2 : ∀ q, x.fst q = x2.fst q) (h3 : ∀ q, x.lst q = x2.lst q) : XP gm N B0 rows sv fv y ct gt gr gx x2 f l rows' sv' fv' s' w :=
  ⟨h.nx, ⟨h.mp.fst.congr h2, h.mp.lst.congr h3, h.mp.ne, h.mp.fr, h.mp.lr, h.mp.fy, h.mp.ly⟩, h.bt, h.br, by rw [h1]; exact h.bx, h.gty, h.gry, h.gxy, h.gne⟩
/-- A call of the maker's. -/
theorem XP.call (h : XP gm N B0 rows sv fv y ct gt gr gx x f l rows' sv' fv' s' w) (hy : y.heap.size ≤ w.heap.size) (k : MkN gm N B0 rows' sv' fv' w rows2 sv2 fv2 s2 w') : XP gm N B0 rows sv fv y ct gt gr gx x f l rows2 sv2 fv2 s2 w' :=
  ⟨h.nx.trans hy k, h.mp.over h.nx.st k, blk_over h.bt h.nx.st k (by decide) (by decide) (by decide), blk_over h.br h.nx.st k (by decide) (by decide) (by decide), blk_over h.bx h.nx.st k (by decide) (by decide) (by decide), h.gty, h.gry, h.gxy, h.gne⟩
/-- The part is another's. -/
theorem XP.setX (h : XP gm N B0 rows sv fv y ct gt gr gx x f l rows' sv' fv' s' w) (hB : B0 ≤ y.heap.size) {lo f2 l2 : Nat} (hm : MapsAt N lo x2 f2 l2 rows' w) (hlo : y.heap.size ≤ lo) (hg : w.grownBy w' (some gx)) (hb : Blk w' gx 116 (partCells x2.null f2 l2).toArray) : XP gm N B0 rows sv fv y ct gt gr gx x2 f2 l2 rows' sv' fv' s' w' := by
  have h1 := h.size
  have h2 := h.gxy
  have h3 := h.gry
  have h4 := h.gne
  have h5 := h.gty
  have hs := same_grew hg
  have hm2 := hm.turn h.bx hs
  exact ⟨h.nx.turn h.bx (by decide) (by decide) (by decide) (by omega) hs (below_grew h.nx.below hg hB (fun q hq => by rw [← Option.some.inj hq]; omega)), ⟨hm2.fst, hm2.lst, hm2.ne, hm2.fr, hm2.lr, Nat.le_trans hlo hm2.fy, Nat.le_trans hlo hm2.ly⟩, h.bt.same hs ⟨h.bt.lt, h.bt.ne_type h.bx (by decide)⟩, h.br.same hs ⟨h.br.lt, fun e => h.gne e.symm⟩, hb, h.gty, h.gry, h.gxy, h.gne⟩
/-- Ways were linked. -/
theorem XP.link (h : XP gm N B0 rows sv fv y ct gt gr gx x f l rows' sv' fv' s' w) (hy : y.heap.size ≤ w.heap.size) {M' : Nat → Nat → Nat} (k : Linked gm N rows' sv' fv' s'.S M' B0 w w') : XP gm N B0 rows sv fv y ct gt gr gx x f l rows' sv' fv' ⟨s'.S, M'⟩ w' := by
  have hk : ∀ {b : Nat} {t : TypeId} {cs : Array Value}, Blk w b t cs → Blk w' b t cs := fun hb => hb.same k.same ⟨hb.lt, fun hr => by
    obtain ⟨i, hi, e⟩ := List.getElem_of_mem hr
    exact (h.nx.st.maps i _ (by rw [List.getElem?_eq_getElem hi, e])).ne_blk hb rfl⟩
  refine ⟨⟨k.st, h.nx.pre, h.nx.svb, h.nx.fvb, h.nx.same.trans (k.same.mono fun b hb => ⟨by have := hb.1; omega, fun hr => ?_⟩), h.nx.below.trans k.below⟩, h.mp.same k.same ⟨h.mp.fst.lt, h.mp.fr⟩ ⟨h.mp.lst.lt, h.mp.lr⟩, hk h.bt, hk h.br, hk h.bx, h.gty, h.gry, h.gxy, h.gne⟩
  obtain ⟨m, e, h1⟩ := h.nx.pre
  rw [e] at hr
  rcases List.mem_append.1 hr with h3 | h3
  · exact hb.2.2.1 h3
  · have := h1 b h3; have := hb.1; omega
/-- The result is laid. -/
theorem XP.fin (h : XP gm N B0 rows sv fv y ct gt gr gx x f l rows' sv' fv' s' w) (hB : B0 ≤ y.heap.size) (hg : w.grownBy w' (some gr)) : MkN gm N B0 rows sv fv y rows' sv' fv' s' w' ∧ MapsAt N y.heap.size x f l rows' w' := by
  have h1 := h.size
  have h2 := h.gxy
  have h3 := h.gry
  have h4 := h.gne
  have h5 := h.gty
  have hs := same_grew hg
  exact ⟨h.nx.turn h.br (by decide) (by decide) (by decide) (by omega) hs (below_grew h.nx.below hg hB (fun q hq => by rw [← Option.some.inj hq]; omega)), h.mp.turn h.br hs⟩
end

set_option maxRecDepth 100000 in
set_option maxHeartbeats 4000000 in
theorem posOf_leaf (gm N B0 : Nat) (hN : N ≤ 900000) (hgm : B0 ≤ gm) (kind s0 s1' s2 s3 num mn mx : Int) (bare : Bool) (l : List T) (hleaf : kind = 1 ∨ kind = 3 ∨ kind = 4) (hll : l.length ≤ 9223372036854775807) : PosC gm N B0 (.mk ⟨kind, s0, s1', s2, s3, num, mn, mx, bare⟩ l) := by
  intro A c y s rows sv fv hin hB0 hmk heq hlen
  have hmm := @run_makeMap Tryd.prog
  simp only [T.hd, T.subs, Hd.cells] at ⊢
  obtain ⟨R, hR⟩ : ∃ R, R = (T.mk ⟨kind, s0, s1', s2, s3, num, mn, mx, bare⟩ l).pos s := ⟨_, rfl⟩
  rw [← hR] at hlen ⊢
  have HR := hide hR
  clear hR
  have hb4 := ((((Below.refl y.heap.size y).alloc (Nat.le_refl _) (.cells #[.int .i64 kind, .int .u64 s0, .int .u64 s1', .int .u64 s2, .int .u64 s3, .slice A l.length c, .int .i64 num, .int .i64 mn, .int .i64 mx, .bool bare] 27)).alloc (by simp) (.cells #[.int .i64 0, .map none, .map none] 116)).alloc (by simp; omega) (.map #[] 0)).alloc (by simp; omega) (.map #[] 0)
  have hbt := (((Blk.new y 27 #[.int .i64 kind, .int .u64 s0, .int .u64 s1', .int .u64 s2, .int .u64 s3, .slice A l.length c, .int .i64 num, .int .i64 mn, .int .i64 mx, .bool bare]).alloc (.cells #[.int .i64 0, .map none, .map none] 116)).alloc (.map #[] 0)).alloc (.map #[] 0)
  have hbr := ((Blk.new (y.alloc (.cells #[.int .i64 kind, .int .u64 s0, .int .u64 s1', .int .u64 s2, .int .u64 s3, .slice A l.length c, .int .i64 num, .int .i64 mn, .int .i64 mx, .bool bare] 27)) 116 #[.int .i64 0, .map none, .map none]).alloc (.map #[] 0)).alloc (.map #[] 0)
  have hmf := (WMap.made ((y.alloc (.cells #[.int .i64 kind, .int .u64 s0, .int .u64 s1', .int .u64 s2, .int .u64 s3, .slice A l.length c, .int .i64 num, .int .i64 mn, .int .i64 mx, .bool bare] 27)).alloc (.cells #[.int .i64 0, .map none, .map none] 116)) N).same (same_of_below ((Below.refl _ _).alloc (Nat.le_refl _) (.map #[] 0))) (by simp)
  have hml := WMap.made (((y.alloc (.cells #[.int .i64 kind, .int .u64 s0, .int .u64 s1', .int .u64 s2, .int .u64 s3, .slice A l.length c, .int .i64 num, .int .i64 mn, .int .i64 mx, .bool bare] 27)).alloc (.cells #[.int .i64 0, .map none, .map none] 116)).alloc (.map #[] 0)) N
  simp only [World.size_alloc] at hbr hmf hml
  have hsz4 : y.heap.size + 4 ≤ ((((y.alloc (.cells #[.int .i64 kind, .int .u64 s0, .int .u64 s1', .int .u64 s2, .int .u64 s3, .slice A l.length c, .int .i64 num, .int .i64 mn, .int .i64 mx, .bool bare] 27)).alloc (.cells #[.int .i64 0, .map none, .map none] 116)).alloc (.map #[] 0)).alloc (.map #[] 0)).heap.size := by simp
  have hsz4' : ((((y.alloc (.cells #[.int .i64 kind, .int .u64 s0, .int .u64 s1', .int .u64 s2, .int .u64 s3, .slice A l.length c, .int .i64 num, .int .i64 mn, .int .i64 mx, .bool bare] 27)).alloc (.cells #[.int .i64 0, .map none, .map none] 116)).alloc (.map #[] 0)).alloc (.map #[] 0)).heap.size = y.heap.size + 1 + 1 + 1 + 1 := by simp
  have H0 := hide (And.intro ((MkN.refl (sv := sv) (fv := fv) hmk).next hB0 (Nat.le_refl _) hb4) (And.intro hbt (And.intro hbr (And.intro hmf hml))))
  have HEQ := hide heq
  clear heq
  have hry := hmk.rows_lt
  have HRY := hide hry
  have HIN := hide hin
  clear hb4 hbt hbr hmf hml hmk hry hin
  go_enter Tryd.func89, Tryd.ntmps89
  go_upto_region 2 with fail
  have hal := (Below.refl ((((y.alloc (.cells #[.int .i64 kind, .int .u64 s0, .int .u64 s1', .int .u64 s2, .int .u64 s3, .slice A l.length c, .int .i64 num, .int .i64 mn, .int .i64 mx, .bool bare] 27)).alloc (.cells #[.int .i64 0, .map none, .map none] 116)).alloc (.map #[] 0)).alloc (.map #[] 0)).heap.size ((((y.alloc (.cells #[.int .i64 kind, .int .u64 s0, .int .u64 s1', .int .u64 s2, .int .u64 s3, .slice A l.length c, .int .i64 num, .int .i64 mn, .int .i64 mx, .bool bare] 27)).alloc (.cells #[.int .i64 0, .map none, .map none] 116)).alloc (.map #[] 0)).alloc (.map #[] 0))).alloc (Nat.le_refl _) (.cells #[.int .i64 0, .map (some (y.heap.size + 1 + 1)), .map (some (y.heap.size + 1 + 1 + 1))] 116)
  have hbx := Blk.new ((((y.alloc (.cells #[.int .i64 kind, .int .u64 s0, .int .u64 s1', .int .u64 s2, .int .u64 s3, .slice A l.length c, .int .i64 num, .int .i64 mn, .int .i64 mx, .bool bare] 27)).alloc (.cells #[.int .i64 0, .map none, .map none] 116)).alloc (.map #[] 0)).alloc (.map #[] 0)) 116 #[.int .i64 0, .map (some (y.heap.size + 1 + 1)), .map (some (y.heap.size + 1 + 1 + 1))]
  rw [hsz4'] at hbx
  have HX := hide (XP.mk (gm := gm) (N := N) (B0 := B0) (rows := rows) (sv := sv) (fv := fv) (y := y) (x := ptOf 0) (f := y.heap.size + 1 + 1) (l := y.heap.size + 1 + 1 + 1) (H0.out.1.next (by omega) (by omega) hal) ⟨H0.out.2.2.2.1.next hal, H0.out.2.2.2.2.next hal, by omega, fun h => by have := HRY.out _ h; omega, fun h => by have := HRY.out _ h; omega, by omega, by omega⟩ (H0.out.2.1.nxt hal) (H0.out.2.2.1.nxt hal) hbx (by omega) (by omega) (by omega) (by omega))
  clear hal hbx H0 hsz4 hsz4'
  generalize (((((y.alloc (.cells #[.int .i64 kind, .int .u64 s0, .int .u64 s1', .int .u64 s2, .int .u64 s3, .slice A l.length c, .int .i64 num, .int .i64 mn, .int .i64 mx, .bool bare] 27)).alloc (.cells #[.int .i64 0, .map none, .map none] 116)).alloc (.map #[] 0)).alloc (.map #[] 0)).alloc (.cells #[.int .i64 0, .map (some (y.heap.size + 1 + 1)), .map (some (y.heap.size + 1 + 1 + 1))] 116)) = W0 at *
  generalize y.heap.size + 1 + 1 + 1 + 1 = gx at *
  generalize y.heap.size + 1 + 1 + 1 = gl at *
  generalize y.heap.size + 1 + 1 = gf at *
  rcases hleaf with hk | hk | hk
  · subst hk
    have c0 := HX.out.bt.cell
    have cx := HX.out.bx.cell
    have fx := HX.out.bx.frozen
    simp only [partCells, ptOf] at cx
    have HX2 := hide (HX.out.null hB0 15)
    go_upto_region 35 with fail
    clear c0 cx fx HX
    have e15 : ((15 : Nat) : Int) = 15 := rfl
    rw [e15] at HX2
    generalize (W0.setCell ⟨gx, 0, none⟩ (.int .i64 15)) = W1 at *
    have cx := HX2.out.bx.cell
    simp only [partCells] at cx
    go_wp2_with (refine wpList_store_row rfl _ _ _ rfl (y.heap.size + 1) 0 _ _ _ rfl rfl HX2.out.br Tryd.sizePosPart (by simp) (by simp [Value.oneCell']) ?_)
    intro w9 hrow2 hg9 hz9
    have hrow := hrow2.out
    rw [splice_full (by rfl)] at hrow
    have hfin := HX2.out.fin hB0 hg9
    have HF := hide (And.intro hrow hfin)
    clear hrow hrow2 hg9 hz9 hfin cx
    go_wp2_with fail
    refine bodyPost_ret (results_cell_row rfl _ _ (y.heap.size + 1) _ _ (0, 0) _ rfl HF.out.1 Tryd.underlying116 rfl Tryd.sizePosPart) rfl ?_
    have hR := HR.out
    have hRe : R = (ptOf 15, s) := by rw [hR]; simp [T.pos]
    rw [hRe]
    exact ⟨gf, gl, rows, sv, fv, rfl, HF.out.2.1, HF.out.2.2, HEQ.out⟩
  · subst hk
    have c0 := HX.out.bt.cell
    have cx := HX.out.bx.cell
    have fx := HX.out.bx.frozen
    simp only [partCells, ptOf] at cx
    have HX2 := hide (HX.out.null hB0 10)
    go_upto_region 35 with fail
    clear c0 cx fx HX
    have e15 : ((10 : Nat) : Int) = 10 := rfl
    rw [e15] at HX2
    generalize (W0.setCell ⟨gx, 0, none⟩ (.int .i64 10)) = W1 at *
    have cx := HX2.out.bx.cell
    simp only [partCells] at cx
    go_wp2_with (refine wpList_store_row rfl _ _ _ rfl (y.heap.size + 1) 0 _ _ _ rfl rfl HX2.out.br Tryd.sizePosPart (by simp) (by simp [Value.oneCell']) ?_)
    intro w9 hrow2 hg9 hz9
    have hrow := hrow2.out
    rw [splice_full (by rfl)] at hrow
    have hfin := HX2.out.fin hB0 hg9
    have HF := hide (And.intro hrow hfin)
    clear hrow hrow2 hg9 hz9 hfin cx
    go_wp2_with fail
    refine bodyPost_ret (results_cell_row rfl _ _ (y.heap.size + 1) _ _ (0, 0) _ rfl HF.out.1 Tryd.underlying116 rfl Tryd.sizePosPart) rfl ?_
    have hR := HR.out
    have hRe : R = (ptOf 10, s) := by rw [hR]; simp [T.pos]
    rw [hRe]
    exact ⟨gf, gl, rows, sv, fv, rfl, HF.out.2.1, HF.out.2.2, HEQ.out⟩
  · subst hk
    have c0 := HX.out.bt.cell
    have cx := HX.out.bx.cell
    have fx := HX.out.bx.frozen
    simp only [partCells, ptOf] at cx
    have HX2 := hide (HX.out.null hB0 12)
    go_upto_region 35 with fail
    clear c0 cx fx HX
    have e15 : ((12 : Nat) : Int) = 12 := rfl
    rw [e15] at HX2
    generalize (W0.setCell ⟨gx, 0, none⟩ (.int .i64 12)) = W1 at *
    have cx := HX2.out.bx.cell
    simp only [partCells] at cx
    go_wp2_with (refine wpList_store_row rfl _ _ _ rfl (y.heap.size + 1) 0 _ _ _ rfl rfl HX2.out.br Tryd.sizePosPart (by simp) (by simp [Value.oneCell']) ?_)
    intro w9 hrow2 hg9 hz9
    have hrow := hrow2.out
    rw [splice_full (by rfl)] at hrow
    have hfin := HX2.out.fin hB0 hg9
    have HF := hide (And.intro hrow hfin)
    clear hrow hrow2 hg9 hz9 hfin cx
    go_wp2_with fail
    refine bodyPost_ret (results_cell_row rfl _ _ (y.heap.size + 1) _ _ (0, 0) _ rfl HF.out.1 Tryd.underlying116 rfl Tryd.sizePosPart) rfl ?_
    have hR := HR.out
    have hRe : R = (ptOf 12, s) := by rw [hR]; simp [T.pos]
    rw [hRe]
    exact ⟨gf, gl, rows, sv, fv, rfl, HF.out.2.1, HF.out.2.2, HEQ.out⟩
end Go.Proofs.YtbbhobojghmkpaaDoor

/-! ## PosBytes -/
namespace Go.Proofs.YtbbhobojghmkpaaDoor
open Go.RowKit Go.Maps

set_option maxRecDepth 100000 in
set_option maxHeartbeats 4000000 in
theorem posOf_bytes (gm N B0 : Nat) (hN : N ≤ 900000) (hgm : B0 ≤ gm) (kind s0 s1' s2 s3 num mn mx : Int) (bare : Bool) (l : List T) (hk : kind = 2) (hll : l.length ≤ 9223372036854775807) : PosC gm N B0 (.mk ⟨kind, s0, s1', s2, s3, num, mn, mx, bare⟩ l) := by
  intro A c y s rows sv fv hin hB0 hmk heq hlen
  have hmm := @run_makeMap Tryd.prog
  have HKK := hide hk
  clear hk
  simp only [T.hd, T.subs, Hd.cells] at ⊢
  obtain ⟨R, hR⟩ : ∃ R, R = (T.mk ⟨kind, s0, s1', s2, s3, num, mn, mx, bare⟩ l).pos s := ⟨_, rfl⟩
  rw [← hR] at hlen ⊢
  have HR := hide hR
  clear hR
  have hb4 := ((((Below.refl y.heap.size y).alloc (Nat.le_refl _) (.cells #[.int .i64 kind, .int .u64 s0, .int .u64 s1', .int .u64 s2, .int .u64 s3, .slice A l.length c, .int .i64 num, .int .i64 mn, .int .i64 mx, .bool bare] 27)).alloc (by simp) (.cells #[.int .i64 0, .map none, .map none] 116)).alloc (by simp; omega) (.map #[] 0)).alloc (by simp; omega) (.map #[] 0)
  have hbt := (((Blk.new y 27 #[.int .i64 kind, .int .u64 s0, .int .u64 s1', .int .u64 s2, .int .u64 s3, .slice A l.length c, .int .i64 num, .int .i64 mn, .int .i64 mx, .bool bare]).alloc (.cells #[.int .i64 0, .map none, .map none] 116)).alloc (.map #[] 0)).alloc (.map #[] 0)
  have hbr := ((Blk.new (y.alloc (.cells #[.int .i64 kind, .int .u64 s0, .int .u64 s1', .int .u64 s2, .int .u64 s3, .slice A l.length c, .int .i64 num, .int .i64 mn, .int .i64 mx, .bool bare] 27)) 116 #[.int .i64 0, .map none, .map none]).alloc (.map #[] 0)).alloc (.map #[] 0)
  have hmf := (WMap.made ((y.alloc (.cells #[.int .i64 kind, .int .u64 s0, .int .u64 s1', .int .u64 s2, .int .u64 s3, .slice A l.length c, .int .i64 num, .int .i64 mn, .int .i64 mx, .bool bare] 27)).alloc (.cells #[.int .i64 0, .map none, .map none] 116)) N).same (same_of_below ((Below.refl _ _).alloc (Nat.le_refl _) (.map #[] 0))) (by simp)
  have hml := WMap.made (((y.alloc (.cells #[.int .i64 kind, .int .u64 s0, .int .u64 s1', .int .u64 s2, .int .u64 s3, .slice A l.length c, .int .i64 num, .int .i64 mn, .int .i64 mx, .bool bare] 27)).alloc (.cells #[.int .i64 0, .map none, .map none] 116)).alloc (.map #[] 0)) N
  simp only [World.size_alloc] at hbr hmf hml
  have hsz4 : y.heap.size + 4 ≤ ((((y.alloc (.cells #[.int .i64 kind, .int .u64 s0, .int .u64 s1', .int .u64 s2, .int .u64 s3, .slice A l.length c, .int .i64 num, .int .i64 mn, .int .i64 mx, .bool bare] 27)).alloc (.cells #[.int .i64 0, .map none, .map none] 116)).alloc (.map #[] 0)).alloc (.map #[] 0)).heap.size := by simp
  have hsz4' : ((((y.alloc (.cells #[.int .i64 kind, .int .u64 s0, .int .u64 s1', .int .u64 s2, .int .u64 s3, .slice A l.length c, .int .i64 num, .int .i64 mn, .int .i64 mx, .bool bare] 27)).alloc (.cells #[.int .i64 0, .map none, .map none] 116)).alloc (.map #[] 0)).alloc (.map #[] 0)).heap.size = y.heap.size + 1 + 1 + 1 + 1 := by simp
  have H0 := hide (And.intro ((MkN.refl (sv := sv) (fv := fv) hmk).next hB0 (Nat.le_refl _) hb4) (And.intro hbt (And.intro hbr (And.intro hmf hml))))
  have HEQ := hide heq
  clear heq
  have hry := hmk.rows_lt
  have HRY := hide hry
  have HIN := hide hin
  clear hb4 hbt hbr hmf hml hmk hry hin
  go_enter Tryd.func89, Tryd.ntmps89
  go_upto_region 2 with fail
  have hal := (Below.refl ((((y.alloc (.cells #[.int .i64 kind, .int .u64 s0, .int .u64 s1', .int .u64 s2, .int .u64 s3, .slice A l.length c, .int .i64 num, .int .i64 mn, .int .i64 mx, .bool bare] 27)).alloc (.cells #[.int .i64 0, .map none, .map none] 116)).alloc (.map #[] 0)).alloc (.map #[] 0)).heap.size ((((y.alloc (.cells #[.int .i64 kind, .int .u64 s0, .int .u64 s1', .int .u64 s2, .int .u64 s3, .slice A l.length c, .int .i64 num, .int .i64 mn, .int .i64 mx, .bool bare] 27)).alloc (.cells #[.int .i64 0, .map none, .map none] 116)).alloc (.map #[] 0)).alloc (.map #[] 0))).alloc (Nat.le_refl _) (.cells #[.int .i64 0, .map (some (y.heap.size + 1 + 1)), .map (some (y.heap.size + 1 + 1 + 1))] 116)
  have hbx := Blk.new ((((y.alloc (.cells #[.int .i64 kind, .int .u64 s0, .int .u64 s1', .int .u64 s2, .int .u64 s3, .slice A l.length c, .int .i64 num, .int .i64 mn, .int .i64 mx, .bool bare] 27)).alloc (.cells #[.int .i64 0, .map none, .map none] 116)).alloc (.map #[] 0)).alloc (.map #[] 0)) 116 #[.int .i64 0, .map (some (y.heap.size + 1 + 1)), .map (some (y.heap.size + 1 + 1 + 1))]
  rw [hsz4'] at hbx
  have HX := hide (XP.mk (gm := gm) (N := N) (B0 := B0) (rows := rows) (sv := sv) (fv := fv) (y := y) (x := ptOf 0) (f := y.heap.size + 1 + 1) (l := y.heap.size + 1 + 1 + 1) (H0.out.1.next (by omega) (by omega) hal) ⟨H0.out.2.2.2.1.next hal, H0.out.2.2.2.2.next hal, by omega, fun h => by have := HRY.out _ h; omega, fun h => by have := HRY.out _ h; omega, by omega, by omega⟩ (H0.out.2.1.nxt hal) (H0.out.2.2.1.nxt hal) hbx (by omega) (by omega) (by omega) (by omega))
  clear hal hbx H0 hsz4 hsz4'
  generalize (((((y.alloc (.cells #[.int .i64 kind, .int .u64 s0, .int .u64 s1', .int .u64 s2, .int .u64 s3, .slice A l.length c, .int .i64 num, .int .i64 mn, .int .i64 mx, .bool bare] 27)).alloc (.cells #[.int .i64 0, .map none, .map none] 116)).alloc (.map #[] 0)).alloc (.map #[] 0)).alloc (.cells #[.int .i64 0, .map (some (y.heap.size + 1 + 1)), .map (some (y.heap.size + 1 + 1 + 1))] 116)) = W0 at *
  generalize y.heap.size + 1 + 1 + 1 + 1 = gx at *
  generalize y.heap.size + 1 + 1 + 1 = gl at *
  generalize y.heap.size + 1 + 1 = gf at *
  have hk := HKK.out
  subst hk
  have hRe : R = (bytePt s.S.length, ⟨s.S ++ [(s0, s1', s2, s3)], s.M⟩) := by rw [HR.out]; simp [T.pos]
  have hnN : s.S.length < N := by rw [hRe] at hlen; simp at hlen; omega
  have HRE := hide hRe
  clear hRe hlen
  obtain ⟨SA, Sc, hsv⟩ := sets_form HX.out.nx.st.sets
  subst hsv
  have cg := HX.out.nx.st.box.cell
  have c0 := HX.out.bt.cell
  go_upto_region 25 with fail
  clear cg c0
  have hx1 := HX.out.size
  have hx2 := HX.out.gxy
  refine wp_region_mix (fun z => Below W0.heap.size W0 z) [8, 11] (by kernel_rfl) (fun hcl => ?_)
  have hS : Below W0.heap.size W0 W0.drew := (Below.refl _ _).drew
  refine wpAnyT_free (i := 0) hcl rfl (by kernel_rfl) (v := ?_) (fun _ _ _ h => h) hS (Or.inl ⟨rfl, fun w' _ => ?_⟩) (fun hcl => ?_)
  rotate_left
  · go_simp
    with_reducible rfl
  simp only [List.getElem_toArray, List.getElem_cons_zero, List.getElem_cons_succ, Act.put, List.setIfInBounds_toArray, List.set_cons_zero, List.set_cons_succ]
  refine wpAnyT_free (i := 1) hcl rfl (by kernel_rfl) (v := ?_) (fun _ _ _ h => h) hS (Or.inl ⟨rfl, fun w' _ => ?_⟩) (fun hcl => ?_)
  rotate_left
  · go_simp
    with_reducible rfl
  simp only [List.getElem_toArray, List.getElem_cons_zero, List.getElem_cons_succ, Act.put, List.setIfInBounds_toArray, List.set_cons_zero, List.set_cons_succ]
  refine wpAnyT_free (i := 2) hcl rfl (by kernel_rfl) (v := ?_) (fun _ _ _ h => h) hS (Or.inl ⟨rfl, fun w' _ => ?_⟩) (fun hcl => ?_)
  rotate_left
  · go_simp
    with_reducible rfl
  simp only [List.getElem_toArray, List.getElem_cons_zero, List.getElem_cons_succ, Act.put, List.setIfInBounds_toArray, List.set_cons_zero, List.set_cons_succ]
  refine wpAnyT_free (i := 3) hcl rfl (by kernel_rfl) (v := ?_) (fun _ _ _ h => h) hS (Or.inl ⟨rfl, fun w' _ => ?_⟩) (fun hcl => ?_)
  rotate_left
  · go_simp
    with_reducible rfl
  simp only [List.getElem_toArray, List.getElem_cons_zero, List.getElem_cons_succ, Act.put, List.setIfInBounds_toArray, List.set_cons_zero, List.set_cons_succ]
  refine wpAnyT_get (i := 4) hcl rfl (by kernel_rfl) (v := ?_) (fun _ _ _ h => h) hS (Or.inl ⟨rfl, fun w' hS => ?_⟩) (fun hcl => ?_)
  rotate_left
  · skip
    have cg := (HX.out.nx.st.box.nxt hS).cell
    go_simp
    with_reducible rfl
  simp only [List.getElem_toArray, List.getElem_cons_zero, List.getElem_cons_succ, Act.put, List.setIfInBounds_toArray, List.set_cons_zero, List.set_cons_succ]
  refine wpAnyT_free (i := 5) hcl rfl (by kernel_rfl) (v := ?_) (fun _ _ _ h => h) hS (Or.inl ⟨rfl, fun w' _ => ?_⟩) (fun hcl => ?_)
  rotate_left
  · go_simp
    with_reducible rfl
  simp only [List.getElem_toArray, List.getElem_cons_zero, List.getElem_cons_succ, Act.put, List.setIfInBounds_toArray, List.set_cons_zero, List.set_cons_succ]
  refine wpAnyT_get (i := 6) hcl rfl (by kernel_rfl) (v := ?_) (fun _ _ _ h => h) hS (Or.inl ⟨rfl, fun w' hS => ?_⟩) (fun hcl => ?_)
  rotate_left
  · skip
    have cb := (HX.out.bt.nxt hS).cell
    go_simp
    with_reducible rfl
  simp only [List.getElem_toArray, List.getElem_cons_zero, List.getElem_cons_succ, Act.put, List.setIfInBounds_toArray, List.set_cons_zero, List.set_cons_succ]
  refine wpAnyT_step (i := 7) hcl rfl (by kernel_rfl) (fun hcl => ?_)
  simp only [List.getElem_toArray, List.getElem_cons_zero, List.getElem_cons_succ, Act.put, List.setIfInBounds_toArray, List.set_cons_zero, List.set_cons_succ]
  go_wp2_with fail
  replace hS : Below W0.heap.size W0 (W0.alloc (.cells #[.int .u64 s0, .int .u64 s1', .int .u64 s2, .int .u64 s3] 24)).drew := ((Below.refl _ _).alloc (Nat.le_refl _) _).drew
  refine ⟨hS, ?_⟩
  refine wpAnyT_last (i := 8) hcl rfl (by kernel_rfl) (by kernel_rfl) (fun hcl => ?_)
  simp only [List.getElem_toArray, List.getElem_cons_zero, List.getElem_cons_succ, Act.put, List.setIfInBounds_toArray, List.set_cons_zero, List.set_cons_succ]
  have hoS := hide (HX.out.next hB0 hS).nx.st.sets
  have hbS := hide ((Blk.new W0 24 #[.int .u64 s0, .int .u64 s1', .int .u64 s2, .int .u64 s3]).nxt (Below.refl _ _).drew)
  have hHS := hide hS
  have hSz := hS.size
  generalize (W0.alloc (.cells #[.int .u64 s0, .int .u64 s1', .int .u64 s2, .int .u64 s3] 24)).drew = W at *
  clear hS
  refine wpList_append_set rfl _ _ rfl B0 _ s.S rfl hoS.out (s0, s1', s2, s3) W0.heap.size 1 rfl hbS.out (by omega) (by omega) ?_
  intro v' w5 hown5 hg5 hv5 hve
  obtain ⟨A5, c5, rfl⟩ := hve
  refine wpList_nil ?_
  have hs5 : Same (fun b => b < W0.heap.size ∧ (Value.slice SA s.S.length Sc).ownBlock ≠ some b) W0 w5 := fun b hb => (hg5.block b (by have := hb.1; omega) (fun e => hb.2 e.symm)).trans (same_of_below hHS.out b hb.1)
  have hb5 : Below B0 W0 w5 := below_grew (hHS.out.mono (by omega)) hg5 (by omega) (fun g hg => (World.ownsRow.lt hoS.out g hg).1)
  have hbg5 := HX.out.nx.st.box.same hs5 ⟨HX.out.nx.st.box.lt, own_ne_blk HX.out.nx.st.sets HX.out.nx.st.box (by decide)⟩
  have hX6 := HX.out.pushS hs5 hown5 (by rcases hv5 with e | e; exact .inl e; exact .inr fun g hg => by rw [e] at hg; have := Option.some.inj hg; omega) hb5
  have HX6 := hide hX6
  have hw5 := hb5.size
  have cg5 := hbg5.cell
  have fg5 := hbg5.frozen
  have HZ := hide (fun q => HX.out.nx.st.zero rows.length q (by rw [HEQ.out]; exact Nat.le_refl _))
  clear hX6 hown5 hg5 hv5 hs5 hb5 hbg5 hoS hbS hHS hSz HX
  refine wpAnyT_last (i := 9) hcl rfl (by kernel_rfl) (by kernel_rfl) (fun hcl => ?_)
  simp only [List.getElem_toArray, List.getElem_cons_zero, List.getElem_cons_succ, Act.put, List.setIfInBounds_toArray, List.set_cons_zero, List.set_cons_succ]
  go_wp2_with fail
  refine wpAnyT_last (i := 10) hcl rfl (by kernel_rfl) (by kernel_rfl) (fun hcl => ?_)
  simp only [List.getElem_toArray, List.getElem_cons_zero, List.getElem_cons_succ, Act.put, List.setIfInBounds_toArray, List.set_cons_zero, List.set_cons_succ]
  go_wp2_with fail
  refine wpAnyT_last (i := 11) hcl rfl (by kernel_rfl) (by kernel_rfl) (fun hcl => ?_)
  simp only [List.getElem_toArray, List.getElem_cons_zero, List.getElem_cons_succ, Act.put, List.setIfInBounds_toArray, List.set_cons_zero, List.set_cons_succ]
  go_wp2_with fail
  refine wpAnyT_done (by kernel_rfl) ?_ _
  clear cg5 fg5
  have HX7 := hide HX6.out
  clear HX6
  generalize (w5.setCell ⟨gm, 0, none⟩ (.slice A5 (s.S.length + 1) c5)) = W6 at *
  obtain ⟨FA, Fc, hfv⟩ := maps_form HX7.out.nx.st.fol
  subst hfv
  have cg := HX7.out.nx.st.box.cell
  have hx3 := HX7.out.size
  have hal6 := ((Below.refl W6.heap.size W6).alloc (Nat.le_refl _) (.map #[] 0)).alloc (by simp) (.cells #[.map (some W6.heap.size)] 114)
  have hoF := hide (HX7.out.next hB0 hal6).nx.st.fol
  have hbF := Blk.new (W6.alloc (.map #[] 0)) 114 #[.map (some W6.heap.size)]
  rw [World.size_alloc] at hbF
  have hrl := HEQ.out
  have hr9 : rows.length < 1000000 := by omega
  clear hrl
  go_wp2_with (at_builtin; refine wpList_append_map rfl _ _ rfl B0 _ rows rfl hoF.out W6.heap.size (W6.heap.size + 1) 1 rfl hbF hr9 (by simp; omega) ?_)
  intro v' w7 hown7 hg7 hv7
  obtain ⟨A7, c7, rfl⟩ := maps_form hown7
  have hs7 : Same (fun b => b < W6.heap.size ∧ (Value.slice FA rows.length Fc).ownBlock ≠ some b) W6 w7 := fun b hb => (hg7.block b (by simp; omega) (fun e => hb.2 e.symm)).trans (same_of_below hal6 b hb.1)
  have hb7 : Below B0 W6 w7 := below_grew (hal6.mono (by omega)) hg7 (by omega) (fun g hg => (World.ownsRow.lt hoF.out g hg).1)
  have hm6 := (WMap.made W6 N).same (same_of_below ((Below.refl _ _).alloc (Nat.le_refl _) (.cells #[.map (some W6.heap.size)] 114))) (by simp)
  have hm7 := hm6.kept hg7 (fun e => own_ne_map hoF.out hm6 e.symm)
  have hbx7 := HX7.out.nx.st.box.same hs7 ⟨HX7.out.nx.st.box.lt, own_ne_blk HX7.out.nx.st.fol HX7.out.nx.st.box (by decide)⟩
  have hX8 := HX7.out.pushF hB0 hs7 (by simpa using hown7) (by rcases hv7 with e | e; exact .inl e; exact .inr fun g hg => by rw [e] at hg; have := Option.some.inj hg; omega) hb7 hm7 (Nat.le_refl _) (by have := HEQ.out; simp; omega) HZ.out
  have HX8 := hide hX8
  have cg7 := hbx7.cell
  have fg7 := hbx7.frozen
  clear hX8 hown7 hg7 hv7 hs7 hb7 hm6 hm7 hbx7 hoF hbF hal6 cg HX7 hr9
  go_upto_region 27 with fail
  clear cg7 fg7
  generalize (w7.setCell ⟨gm, 1, none⟩ (.slice A7 (rows.length + 1) c7)) = W8 at *
  refine wp_region_mix (fun z => Blk z gx 116 (partCells (ptOf 0).null gf gl).toArray) [7] (by kernel_rfl) (fun hcl => ?_)
  have hS : Blk W8.drew gx 116 (partCells (ptOf 0).null gf gl).toArray := HX8.out.bx.nxt (Below.refl _ _).drew
  refine wpAnyT_free (i := 0) hcl rfl (by kernel_rfl) (v := ?_) (fun _ _ _ h => h) hS (Or.inl ⟨rfl, fun w' _ => ?_⟩) (fun hcl => ?_)
  rotate_left
  · go_simp
    with_reducible rfl
  simp only [List.getElem_toArray, List.getElem_cons_zero, List.getElem_cons_succ, Act.put, List.setIfInBounds_toArray, List.set_cons_zero, List.set_cons_succ]
  refine wpAnyT_take (i := 1) hcl rfl (by kernel_rfl) (v := ?_) (fun _ _ _ h => h) hS (Or.inl ⟨rfl, fun w' hS => ?_⟩) (fun hcl => ?_)
  rotate_left
  · skip
    have cx := hS.cell
    simp only [partCells] at cx
    go_simp
    with_reducible rfl
  simp only [List.getElem_toArray, List.getElem_cons_zero, List.getElem_cons_succ, Act.put, List.setIfInBounds_toArray, List.set_cons_zero, List.set_cons_succ]
  refine wpAnyT_free (i := 2) hcl rfl (by kernel_rfl) (v := ?_) (fun _ _ _ h => h) hS (Or.inl ⟨rfl, fun w' _ => ?_⟩) (fun hcl => ?_)
  rotate_left
  · go_simp
    with_reducible rfl
  simp only [List.getElem_toArray, List.getElem_cons_zero, List.getElem_cons_succ, Act.put, List.setIfInBounds_toArray, List.set_cons_zero, List.set_cons_succ]
  refine wpAnyT_free (i := 3) hcl rfl (by kernel_rfl) (v := ?_) (fun _ _ _ h => h) hS (Or.inl ⟨rfl, fun w' _ => ?_⟩) (fun hcl => ?_)
  rotate_left
  · go_simp
    with_reducible rfl
  simp only [List.getElem_toArray, List.getElem_cons_zero, List.getElem_cons_succ, Act.put, List.setIfInBounds_toArray, List.set_cons_zero, List.set_cons_succ]
  refine wpAnyT_take (i := 4) hcl rfl (by kernel_rfl) (v := ?_) (fun _ _ _ h => h) hS (Or.inl ⟨rfl, fun w' hS => ?_⟩) (fun hcl => ?_)
  rotate_left
  · skip
    have cx := hS.cell
    simp only [partCells] at cx
    go_simp
    with_reducible rfl
  simp only [List.getElem_toArray, List.getElem_cons_zero, List.getElem_cons_succ, Act.put, List.setIfInBounds_toArray, List.set_cons_zero, List.set_cons_succ]
  refine wpAnyT_free (i := 5) hcl rfl (by kernel_rfl) (v := ?_) (fun _ _ _ h => h) hS (Or.inl ⟨rfl, fun w' _ => ?_⟩) (fun hcl => ?_)
  rotate_left
  · go_simp
    with_reducible rfl
  simp only [List.getElem_toArray, List.getElem_cons_zero, List.getElem_cons_succ, Act.put, List.setIfInBounds_toArray, List.set_cons_zero, List.set_cons_succ]
  clear hS
  have HXd := hide (HX8.out.next hB0 (Below.refl _ _).drew)
  refine wpAnyT_step (i := 6) hcl rfl (by kernel_rfl) (fun hcl => ?_)
  simp only [List.getElem_toArray, List.getElem_cons_zero, List.getElem_cons_succ, Act.put, List.setIfInBounds_toArray, List.set_cons_zero, List.set_cons_succ]
  refine wpList_way_put rfl _ _ _ rfl gf s.S.length 15 rfl rfl rfl HXd.out.mp.fst (by omega) hnN (by omega) (by omega) ?_
  intro w9 hm9 hg9
  refine wpList_nil ?_
  have HX9 := hide (HXd.out.putF hB0 hg9 hm9)
  clear hm9 hg9
  refine ⟨HX9.out.bx, ?_⟩
  refine wpAnyT_last (i := 7) hcl rfl (by kernel_rfl) (by kernel_rfl) (fun hcl => ?_)
  simp only [List.getElem_toArray, List.getElem_cons_zero, List.getElem_cons_succ, Act.put, List.setIfInBounds_toArray, List.set_cons_zero, List.set_cons_succ]
  refine wpList_way_put rfl _ _ _ rfl gl s.S.length 15 rfl rfl rfl HX9.out.mp.lst (by omega) hnN (by omega) (by omega) ?_
  intro w10 hm10 hg10
  refine wpList_nil ?_
  refine wpAnyT_done (by kernel_rfl) ?_ _
  have HX10 := hide (HX9.out.putL hB0 hg10 hm10)
  clear hm10 hg10 HX9 HXd HX8
  have cx := HX10.out.bx.cell
  simp only [partCells] at cx
  go_wp2_with (refine wpList_store_row rfl _ _ _ rfl (y.heap.size + 1) 0 _ _ _ rfl rfl HX10.out.br Tryd.sizePosPart (by simp) (by simp [Value.oneCell']) ?_)
  intro w9 hrow2 hg9 hz9
  have hrow := hrow2.out
  rw [splice_full (by rfl)] at hrow
  have hfin := HX10.out.fin hB0 hg9
  have HF := hide (And.intro hrow hfin)
  clear hrow hrow2 hg9 hz9 hfin cx
  go_wp2_with fail
  refine bodyPost_ret (results_cell_row rfl _ _ (y.heap.size + 1) _ _ (0, 0) _ rfl HF.out.1 Tryd.underlying116 rfl Tryd.sizePosPart) rfl ?_
  have hR := HR.out
  have hRe := HRE.out
  rw [hRe]
  exact ⟨gf, gl, rows ++ [W6.heap.size], _, _, rfl, HF.out.2.1, HF.out.2.2, by simp [HEQ.out]⟩
end Go.Proofs.YtbbhobojghmkpaaDoor

/-! ## PosRep -/
namespace Go.Proofs.YtbbhobojghmkpaaDoor
open Go.RowKit Go.Maps

set_option maxRecDepth 100000 in
set_option maxHeartbeats 4000000 in
theorem posOf_rep (gm N B0 : Nat) (hN : N ≤ 900000) (hgm : B0 ≤ gm) (kind s0 s1' s2 s3 num mn mx : Int) (bare : Bool) (l : List T) (hk : kind = 8) (hnl : l ≠ []) (ih : ∀ t ∈ l, PosC gm N B0 t) (hll : l.length ≤ 9223372036854775807) : PosC gm N B0 (.mk ⟨kind, s0, s1', s2, s3, num, mn, mx, bare⟩ l) := by
  intro A c y s rows sv fv hin hB0 hmk heq hlen
  have hmm := @run_makeMap Tryd.prog
  have HKK := hide hk
  have HNL := hide hnl
  clear hk hnl
  simp only [T.hd, T.subs, Hd.cells] at ⊢
  obtain ⟨R, hR⟩ : ∃ R, R = (T.mk ⟨kind, s0, s1', s2, s3, num, mn, mx, bare⟩ l).pos s := ⟨_, rfl⟩
  rw [← hR] at hlen ⊢
  have HR := hide hR
  clear hR
  have hb4 := ((((Below.refl y.heap.size y).alloc (Nat.le_refl _) (.cells #[.int .i64 kind, .int .u64 s0, .int .u64 s1', .int .u64 s2, .int .u64 s3, .slice A l.length c, .int .i64 num, .int .i64 mn, .int .i64 mx, .bool bare] 27)).alloc (by simp) (.cells #[.int .i64 0, .map none, .map none] 116)).alloc (by simp; omega) (.map #[] 0)).alloc (by simp; omega) (.map #[] 0)
  have hbt := (((Blk.new y 27 #[.int .i64 kind, .int .u64 s0, .int .u64 s1', .int .u64 s2, .int .u64 s3, .slice A l.length c, .int .i64 num, .int .i64 mn, .int .i64 mx, .bool bare]).alloc (.cells #[.int .i64 0, .map none, .map none] 116)).alloc (.map #[] 0)).alloc (.map #[] 0)
  have hbr := ((Blk.new (y.alloc (.cells #[.int .i64 kind, .int .u64 s0, .int .u64 s1', .int .u64 s2, .int .u64 s3, .slice A l.length c, .int .i64 num, .int .i64 mn, .int .i64 mx, .bool bare] 27)) 116 #[.int .i64 0, .map none, .map none]).alloc (.map #[] 0)).alloc (.map #[] 0)
  have hmf := (WMap.made ((y.alloc (.cells #[.int .i64 kind, .int .u64 s0, .int .u64 s1', .int .u64 s2, .int .u64 s3, .slice A l.length c, .int .i64 num, .int .i64 mn, .int .i64 mx, .bool bare] 27)).alloc (.cells #[.int .i64 0, .map none, .map none] 116)) N).same (same_of_below ((Below.refl _ _).alloc (Nat.le_refl _) (.map #[] 0))) (by simp)
  have hml := WMap.made (((y.alloc (.cells #[.int .i64 kind, .int .u64 s0, .int .u64 s1', .int .u64 s2, .int .u64 s3, .slice A l.length c, .int .i64 num, .int .i64 mn, .int .i64 mx, .bool bare] 27)).alloc (.cells #[.int .i64 0, .map none, .map none] 116)).alloc (.map #[] 0)) N
  simp only [World.size_alloc] at hbr hmf hml
  have hsz4 : y.heap.size + 4 ≤ ((((y.alloc (.cells #[.int .i64 kind, .int .u64 s0, .int .u64 s1', .int .u64 s2, .int .u64 s3, .slice A l.length c, .int .i64 num, .int .i64 mn, .int .i64 mx, .bool bare] 27)).alloc (.cells #[.int .i64 0, .map none, .map none] 116)).alloc (.map #[] 0)).alloc (.map #[] 0)).heap.size := by simp
  have hsz4' : ((((y.alloc (.cells #[.int .i64 kind, .int .u64 s0, .int .u64 s1', .int .u64 s2, .int .u64 s3, .slice A l.length c, .int .i64 num, .int .i64 mn, .int .i64 mx, .bool bare] 27)).alloc (.cells #[.int .i64 0, .map none, .map none] 116)).alloc (.map #[] 0)).alloc (.map #[] 0)).heap.size = y.heap.size + 1 + 1 + 1 + 1 := by simp
  have H0 := hide (And.intro ((MkN.refl (sv := sv) (fv := fv) hmk).next hB0 (Nat.le_refl _) hb4) (And.intro hbt (And.intro hbr (And.intro hmf hml))))
  have HEQ := hide heq
  clear heq
  have hry := hmk.rows_lt
  have HRY := hide hry
  have HIN := hide hin
  clear hb4 hbt hbr hmf hml hmk hry hin
  go_enter Tryd.func89, Tryd.ntmps89
  go_upto_region 2 with fail
  have hal := (Below.refl ((((y.alloc (.cells #[.int .i64 kind, .int .u64 s0, .int .u64 s1', .int .u64 s2, .int .u64 s3, .slice A l.length c, .int .i64 num, .int .i64 mn, .int .i64 mx, .bool bare] 27)).alloc (.cells #[.int .i64 0, .map none, .map none] 116)).alloc (.map #[] 0)).alloc (.map #[] 0)).heap.size ((((y.alloc (.cells #[.int .i64 kind, .int .u64 s0, .int .u64 s1', .int .u64 s2, .int .u64 s3, .slice A l.length c, .int .i64 num, .int .i64 mn, .int .i64 mx, .bool bare] 27)).alloc (.cells #[.int .i64 0, .map none, .map none] 116)).alloc (.map #[] 0)).alloc (.map #[] 0))).alloc (Nat.le_refl _) (.cells #[.int .i64 0, .map (some (y.heap.size + 1 + 1)), .map (some (y.heap.size + 1 + 1 + 1))] 116)
  have hbx := Blk.new ((((y.alloc (.cells #[.int .i64 kind, .int .u64 s0, .int .u64 s1', .int .u64 s2, .int .u64 s3, .slice A l.length c, .int .i64 num, .int .i64 mn, .int .i64 mx, .bool bare] 27)).alloc (.cells #[.int .i64 0, .map none, .map none] 116)).alloc (.map #[] 0)).alloc (.map #[] 0)) 116 #[.int .i64 0, .map (some (y.heap.size + 1 + 1)), .map (some (y.heap.size + 1 + 1 + 1))]
  rw [hsz4'] at hbx
  have HX := hide (XP.mk (gm := gm) (N := N) (B0 := B0) (rows := rows) (sv := sv) (fv := fv) (y := y) (x := ptOf 0) (f := y.heap.size + 1 + 1) (l := y.heap.size + 1 + 1 + 1) (H0.out.1.next (by omega) (by omega) hal) ⟨H0.out.2.2.2.1.next hal, H0.out.2.2.2.2.next hal, by omega, fun h => by have := HRY.out _ h; omega, fun h => by have := HRY.out _ h; omega, by omega, by omega⟩ (H0.out.2.1.nxt hal) (H0.out.2.2.1.nxt hal) hbx (by omega) (by omega) (by omega) (by omega))
  clear hal hbx H0 hsz4 hsz4'
  generalize (((((y.alloc (.cells #[.int .i64 kind, .int .u64 s0, .int .u64 s1', .int .u64 s2, .int .u64 s3, .slice A l.length c, .int .i64 num, .int .i64 mn, .int .i64 mx, .bool bare] 27)).alloc (.cells #[.int .i64 0, .map none, .map none] 116)).alloc (.map #[] 0)).alloc (.map #[] 0)).alloc (.cells #[.int .i64 0, .map (some (y.heap.size + 1 + 1)), .map (some (y.heap.size + 1 + 1 + 1))] 116)) = W0 at *
  generalize y.heap.size + 1 + 1 + 1 + 1 = gx at *
  generalize y.heap.size + 1 + 1 + 1 = gl at *
  generalize y.heap.size + 1 + 1 = gf at *
  have hk := HKK.out
  subst hk
  obtain ⟨t0, rest, rfl⟩ : ∃ t0 rest, l = t0 :: rest := by
    cases l with
    | nil => exact absurd rfl HNL.out
    | cons a b => exact ⟨a, b, rfl⟩
  have hRe : R = (⟨15, (t0.pos s).1.fst, (t0.pos s).1.lst⟩, if mx = -1 then ⟨(t0.pos s).2.S, ledM (t0.pos s).2.M (t0.pos s).1.lst (t0.pos s).1.fst 15⟩ else (t0.pos s).2) := by rw [HR.out]; simp [T.pos, TL.posRep]
  have hlen0 : (t0.pos s).2.S.length ≤ N := by rw [hRe] at hlen; by_cases h : mx = -1 <;> simp [h] at hlen <;> exact hlen
  have HRE := hide hRe
  clear hRe hlen
  have hx1 := HX.out.size
  have hx2 := HX.out.gxy
  obtain ⟨b, o, B, c', rfl, hbk, hcs, hsub⟩ := TL.In.at_ (T.In_iff.1 HIN.out) (show (t0 :: rest)[0]? = some t0 from rfl)
  simp only [Nat.zero_mul, Nat.add_zero] at hcs
  have hcs' := hcs.same (same_of_below HX.out.nx.below) hbk
  have hsub' := hsub.same (ok' := (· < B0)) (same_of_below HX.out.nx.below) (fun y h => h)
  have HC := hide (ih t0 (by simp) B c' W0 s rows sv fv hsub' (by omega) HX.out.nx.st HEQ.out hlen0)
  obtain ⟨n0, n1, n2, n3, n4, n5, n6, n7, n8, n9⟩ := hcs'.node
  clear hcs hsub hcs' hsub'
  have c0 := HX.out.bt.cell
  go_upto_region 31 with fail
  have hpl : 0 < (t0 :: rest).length := by simp
  go_wp2_with fail
  refine HC.out.mono ?_
  rintro e w2 ⟨f2, l2, rows2, sv2, fv2, rfl, hnx2, hmp2, heq2⟩
  clear n0 n1 n2 n3 n4 n5 n6 n7 n8 n9 HC c0 hpl
  have hX2 := HX.out.call (by omega) hnx2
  have hw2 := hnx2.below.size
  have HX2 := hide hX2
  have HM2 := hide (And.intro hmp2 heq2)
  clear hX2 hnx2 hmp2 heq2 HX
  generalize hpr : t0.pos s = pr at *
  have HPR := hide hpr
  clear hpr
  obtain ⟨x1, s1⟩ := pr
  simp only at HM2 HX2 HRE hlen0 ⊢
  simp only [partCells]
  go_wp2_with (refine wpList_store_row rfl _ _ _ rfl gx 0 _ _ _ rfl rfl HX2.out.bx Tryd.sizePosPart (by simp [partCells]) (by simp [Value.oneCell']) ?_)
  intro w3 hrow3 hg3 hz3
  have hrow := hrow3.out
  rw [splice_full (by rfl)] at hrow
  have HX3 := hide (HX2.out.setX hB0 HM2.out.1 (by omega) hg3 hrow)
  clear hrow hrow3 hg3 hz3 HX2
  have cx := HX3.out.bx.cell
  have fx := HX3.out.bx.frozen
  simp only [partCells] at cx
  go_upto_region 33 with fail
  clear cx fx
  have HX4 := hide (HX3.out.null hB0 15)
  have e15 : ((15 : Nat) : Int) = 15 := rfl
  rw [e15] at HX4
  clear e15 HX3
  generalize (w3.setCell ⟨gx, 0, none⟩ (.int .i64 15)) = W4 at *
  have hgood := (t0.pos_good s).2
  rw [HPR.out] at hgood
  have hlo : ∀ q, rows2.length ≤ q → x1.lst q = 0 := fun q hq => (hgood.2 q (by rw [← HM2.out.2]; exact hq)).2
  have HLO := hide hlo
  clear hlo hgood
  have hx4 := HX4.out.size
  have c0 := HX4.out.bt.cell
  by_cases hmx : mx = -1
  case neg =>
    have gmx : (mx == -1) = false := beq_false_of_ne hmx
    have HMX := hide hmx
    clear hmx
    have cx := HX4.out.bx.cell
    simp only [partCells] at cx
    go_wp2_with (refine wpList_store_row rfl _ _ _ rfl (y.heap.size + 1) 0 _ _ _ rfl rfl HX4.out.br Tryd.sizePosPart (by simp) (by simp [Value.oneCell']) ?_)
    intro w9 hrow2 hg9 hz9
    have hrow := hrow2.out
    rw [splice_full (by rfl)] at hrow
    have hfin := HX4.out.fin hB0 hg9
    have HF := hide (And.intro hrow hfin)
    clear hrow hrow2 hg9 hz9 hfin cx
    go_wp2_with fail
    refine bodyPost_ret (results_cell_row rfl _ _ (y.heap.size + 1) _ _ (0, 0) _ rfl HF.out.1 Tryd.underlying116 rfl Tryd.sizePosPart) rfl ?_
    have hR := HR.out
    have hRe := HRE.out
    rw [if_neg HMX.out] at hRe
    rw [hRe]
    exact ⟨f2, l2, rows2, sv2, fv2, rfl, HF.out.2.1, HF.out.2.2, HM2.out.2⟩
  subst hmx
  have gmx : ((-1 : Int) == -1) = true := rfl
  have HL := hide (link17_any gm N l2 f2 B0 rows2 sv2 fv2 s1.S s1.M x1.lst x1.fst W4 hN HX4.out.nx.st HX4.out.mp.lst HX4.out.mp.fst HX4.out.mp.lr HX4.out.mp.fr HLO.out (by omega))
  have cx := HX4.out.bx.cell
  simp only [partCells] at cx
  go_wp2_with fail
  refine HL.out.mono ?_
  rintro e w5 ⟨rfl, hlk⟩
  have HX5 := hide (HX4.out.link (by omega) hlk)
  clear cx c0 HL hlk
  have cx := HX5.out.bx.cell
  simp only [partCells] at cx
  go_wp2_with (refine wpList_store_row rfl _ _ _ rfl (y.heap.size + 1) 0 _ _ _ rfl rfl HX5.out.br Tryd.sizePosPart (by simp) (by simp [Value.oneCell']) ?_)
  intro w9 hrow2 hg9 hz9
  have hrow := hrow2.out
  rw [splice_full (by rfl)] at hrow
  have hfin := HX5.out.fin hB0 hg9
  have HF := hide (And.intro hrow hfin)
  clear hrow hrow2 hg9 hz9 hfin cx
  go_wp2_with fail
  refine bodyPost_ret (results_cell_row rfl _ _ (y.heap.size + 1) _ _ (0, 0) _ rfl HF.out.1 Tryd.underlying116 rfl Tryd.sizePosPart) rfl ?_
  have hR := HR.out
  have hRe := HRE.out
  simp only [↓reduceIte] at hRe
  rw [hRe]
  exact ⟨f2, l2, rows2, sv2, fv2, rfl, HF.out.2.1, HF.out.2.2, HM2.out.2⟩
end Go.Proofs.YtbbhobojghmkpaaDoor

/-! ## PosAlt -/
namespace Go.Proofs.YtbbhobojghmkpaaDoor
open Go.RowKit Go.Maps

set_option maxRecDepth 100000 in
set_option maxHeartbeats 4000000 in
theorem posOf_alt (gm N B0 : Nat) (hN : N ≤ 900000) (hgm : B0 ≤ gm) (kind s0 s1' s2 s3 num mn mx : Int) (bare : Bool) (l : List T) (hk : kind ≠ 1 ∧ kind ≠ 3 ∧ kind ≠ 4 ∧ kind ≠ 2 ∧ kind ≠ 5 ∧ kind ≠ 8) (ih : ∀ t ∈ l, PosC gm N B0 t) (hll : l.length ≤ 9223372036854775807) : PosC gm N B0 (.mk ⟨kind, s0, s1', s2, s3, num, mn, mx, bare⟩ l) := by
  intro A c y s rows sv fv hin hB0 hmk heq hlen
  have hmm := @run_makeMap Tryd.prog
  have HKK := hide hk
  clear hk
  simp only [T.hd, T.subs, Hd.cells] at ⊢
  obtain ⟨R, hR⟩ : ∃ R, R = (T.mk ⟨kind, s0, s1', s2, s3, num, mn, mx, bare⟩ l).pos s := ⟨_, rfl⟩
  rw [← hR] at hlen ⊢
  have HR := hide hR
  clear hR
  have hb4 := ((((Below.refl y.heap.size y).alloc (Nat.le_refl _) (.cells #[.int .i64 kind, .int .u64 s0, .int .u64 s1', .int .u64 s2, .int .u64 s3, .slice A l.length c, .int .i64 num, .int .i64 mn, .int .i64 mx, .bool bare] 27)).alloc (by simp) (.cells #[.int .i64 0, .map none, .map none] 116)).alloc (by simp; omega) (.map #[] 0)).alloc (by simp; omega) (.map #[] 0)
  have hbt := (((Blk.new y 27 #[.int .i64 kind, .int .u64 s0, .int .u64 s1', .int .u64 s2, .int .u64 s3, .slice A l.length c, .int .i64 num, .int .i64 mn, .int .i64 mx, .bool bare]).alloc (.cells #[.int .i64 0, .map none, .map none] 116)).alloc (.map #[] 0)).alloc (.map #[] 0)
  have hbr := ((Blk.new (y.alloc (.cells #[.int .i64 kind, .int .u64 s0, .int .u64 s1', .int .u64 s2, .int .u64 s3, .slice A l.length c, .int .i64 num, .int .i64 mn, .int .i64 mx, .bool bare] 27)) 116 #[.int .i64 0, .map none, .map none]).alloc (.map #[] 0)).alloc (.map #[] 0)
  have hmf := (WMap.made ((y.alloc (.cells #[.int .i64 kind, .int .u64 s0, .int .u64 s1', .int .u64 s2, .int .u64 s3, .slice A l.length c, .int .i64 num, .int .i64 mn, .int .i64 mx, .bool bare] 27)).alloc (.cells #[.int .i64 0, .map none, .map none] 116)) N).same (same_of_below ((Below.refl _ _).alloc (Nat.le_refl _) (.map #[] 0))) (by simp)
  have hml := WMap.made (((y.alloc (.cells #[.int .i64 kind, .int .u64 s0, .int .u64 s1', .int .u64 s2, .int .u64 s3, .slice A l.length c, .int .i64 num, .int .i64 mn, .int .i64 mx, .bool bare] 27)).alloc (.cells #[.int .i64 0, .map none, .map none] 116)).alloc (.map #[] 0)) N
  simp only [World.size_alloc] at hbr hmf hml
  have hsz4 : y.heap.size + 4 ≤ ((((y.alloc (.cells #[.int .i64 kind, .int .u64 s0, .int .u64 s1', .int .u64 s2, .int .u64 s3, .slice A l.length c, .int .i64 num, .int .i64 mn, .int .i64 mx, .bool bare] 27)).alloc (.cells #[.int .i64 0, .map none, .map none] 116)).alloc (.map #[] 0)).alloc (.map #[] 0)).heap.size := by simp
  have hsz4' : ((((y.alloc (.cells #[.int .i64 kind, .int .u64 s0, .int .u64 s1', .int .u64 s2, .int .u64 s3, .slice A l.length c, .int .i64 num, .int .i64 mn, .int .i64 mx, .bool bare] 27)).alloc (.cells #[.int .i64 0, .map none, .map none] 116)).alloc (.map #[] 0)).alloc (.map #[] 0)).heap.size = y.heap.size + 1 + 1 + 1 + 1 := by simp
  have H0 := hide (And.intro ((MkN.refl (sv := sv) (fv := fv) hmk).next hB0 (Nat.le_refl _) hb4) (And.intro hbt (And.intro hbr (And.intro hmf hml))))
  have HEQ := hide heq
  clear heq
  have hry := hmk.rows_lt
  have HRY := hide hry
  have HIN := hide hin
  clear hb4 hbt hbr hmf hml hmk hry hin
  go_enter Tryd.func89, Tryd.ntmps89
  go_upto_region 2 with fail
  have hal := (Below.refl ((((y.alloc (.cells #[.int .i64 kind, .int .u64 s0, .int .u64 s1', .int .u64 s2, .int .u64 s3, .slice A l.length c, .int .i64 num, .int .i64 mn, .int .i64 mx, .bool bare] 27)).alloc (.cells #[.int .i64 0, .map none, .map none] 116)).alloc (.map #[] 0)).alloc (.map #[] 0)).heap.size ((((y.alloc (.cells #[.int .i64 kind, .int .u64 s0, .int .u64 s1', .int .u64 s2, .int .u64 s3, .slice A l.length c, .int .i64 num, .int .i64 mn, .int .i64 mx, .bool bare] 27)).alloc (.cells #[.int .i64 0, .map none, .map none] 116)).alloc (.map #[] 0)).alloc (.map #[] 0))).alloc (Nat.le_refl _) (.cells #[.int .i64 0, .map (some (y.heap.size + 1 + 1)), .map (some (y.heap.size + 1 + 1 + 1))] 116)
  have hbx := Blk.new ((((y.alloc (.cells #[.int .i64 kind, .int .u64 s0, .int .u64 s1', .int .u64 s2, .int .u64 s3, .slice A l.length c, .int .i64 num, .int .i64 mn, .int .i64 mx, .bool bare] 27)).alloc (.cells #[.int .i64 0, .map none, .map none] 116)).alloc (.map #[] 0)).alloc (.map #[] 0)) 116 #[.int .i64 0, .map (some (y.heap.size + 1 + 1)), .map (some (y.heap.size + 1 + 1 + 1))]
  rw [hsz4'] at hbx
  have HX := hide (XP.mk (gm := gm) (N := N) (B0 := B0) (rows := rows) (sv := sv) (fv := fv) (y := y) (x := ptOf 0) (f := y.heap.size + 1 + 1) (l := y.heap.size + 1 + 1 + 1) (H0.out.1.next (by omega) (by omega) hal) ⟨H0.out.2.2.2.1.next hal, H0.out.2.2.2.2.next hal, by omega, fun h => by have := HRY.out _ h; omega, fun h => by have := HRY.out _ h; omega, by omega, by omega⟩ (H0.out.2.1.nxt hal) (H0.out.2.2.1.nxt hal) hbx (by omega) (by omega) (by omega) (by omega))
  clear hal hbx H0 hsz4 hsz4'
  generalize (((((y.alloc (.cells #[.int .i64 kind, .int .u64 s0, .int .u64 s1', .int .u64 s2, .int .u64 s3, .slice A l.length c, .int .i64 num, .int .i64 mn, .int .i64 mx, .bool bare] 27)).alloc (.cells #[.int .i64 0, .map none, .map none] 116)).alloc (.map #[] 0)).alloc (.map #[] 0)).alloc (.cells #[.int .i64 0, .map (some (y.heap.size + 1 + 1)), .map (some (y.heap.size + 1 + 1 + 1))] 116)) = W0 at *
  generalize y.heap.size + 1 + 1 + 1 + 1 = gx at *
  generalize y.heap.size + 1 + 1 + 1 = gl at *
  generalize y.heap.size + 1 + 1 = gf at *
  obtain ⟨hk1, hk3, hk4, hk2, hk5, hk8⟩ := HKK.out
  have gk1 : (kind == 1) = false := beq_false_of_ne hk1
  have gk3 : (kind == 3) = false := beq_false_of_ne hk3
  have gk4 : (kind == 4) = false := beq_false_of_ne hk4
  have gk2 : (kind == 2) = false := beq_false_of_ne hk2
  have gk5 : (kind == 5) = false := beq_false_of_ne hk5
  have gk8 : (kind == 8) = false := beq_false_of_ne hk8
  have hRe : R = TL.posAlt l (ptOf 0) s := by rw [HR.out]; simp [T.pos, hk1, hk2, hk3, hk4, hk5, hk8]
  rw [hRe] at hlen
  have HRE := hide hRe
  have HLN := hide hlen
  clear hRe hlen hk1 hk2 hk3 hk4 hk5 hk8
  have hx0 := HX.out.size
  have hx2 := HX.out.gxy
  have c0 := HX.out.bt.cell
  go_wp2_with fail
  clear c0 gk1 gk3 gk4 gk2 gk5 gk8
  go_loopw [22] (fun iv wr => ∃ (k : Nat) (rows1 : List Nat) (sv1 fv1 : Value), iv = .int .i64 k ∧ k ≤ l.length ∧ XP gm N B0 rows sv fv y #[.int .i64 kind, .int .u64 s0, .int .u64 s1', .int .u64 s2, .int .u64 s3, .slice A l.length c, .int .i64 num, .int .i64 mn, .int .i64 mx, .bool bare] y.heap.size (y.heap.size + 1) gx (TL.posAlt (l.take k) (ptOf 0) s).1 gf gl rows1 sv1 fv1 (TL.posAlt (l.take k) (ptOf 0) s).2 wr ∧ rows1.length = (TL.posAlt (l.take k) (ptOf 0) s).2.S.length) (fun iv _ => l.length - (intOf iv).toNat)
  case atStart => exact ⟨0, rows, sv, fv, rfl, by omega, HX.out, HEQ.out⟩
  case round =>
    clear HX hx0
    obtain ⟨k, rows1, sv1, fv1, rfl, hk, hX, heq⟩ := hrel
    have HX := hide hX
    have HEQ1 := hide heq
    clear hX heq
    have hx1 := HX.out.size
    by_cases hlt : k < l.length
    case neg =>
      have g1 : decide ((k : Int) < (l.length : Int)) = false := decide_eq_false (by omega)
      obtain rfl : k = l.length := by omega
      rw [List.take_length] at HX HEQ1
      rw [← HRE.out] at HX HEQ1
      have cx := HX.out.bx.cell
      simp only [partCells] at cx
      go_wp2_with (refine wpList_store_row rfl _ _ _ rfl (y.heap.size + 1) 0 _ _ _ rfl rfl HX.out.br Tryd.sizePosPart (by simp) (by simp [Value.oneCell']) ?_)
      intro w9 hrow2 hg9 hz9
      have hrow := hrow2.out
      rw [splice_full (by rfl)] at hrow
      have hfin := HX.out.fin hB0 hg9
      have HF := hide (And.intro hrow hfin)
      clear hrow hrow2 hg9 hz9 hfin cx
      go_wp2_with fail
      refine bodyPost_ret (results_cell_row rfl _ _ (y.heap.size + 1) _ _ (0, 0) _ rfl HF.out.1 Tryd.underlying116 rfl Tryd.sizePosPart) rfl ?_
      exact ⟨gf, gl, rows1, sv1, fv1, rfl, HF.out.2.1, HF.out.2.2, HEQ1.out⟩
    have g1 : decide ((k : Int) < (l.length : Int)) = true := decide_eq_true (by omega)
    have hs := List.getElem?_eq_getElem hlt
    have htk : l.take (k + 1) = l.take k ++ [l[k]] := by rw [List.take_add_one, hs]; rfl
    have hmem := List.getElem_mem hlt
    generalize l[k] = t at *
    have hsn := TL.posAlt_snoc (l.take k) t (ptOf 0) s
    rw [← htk] at hsn
    have hgood := (TL.posAlt_good (l.take k) (ptOf 0) s (ptOf_good (by omega))).2
    have hlt2 := TL.posAlt_take l (ptOf 0) s (k + 1)
    rw [hsn] at hlt2
    have HSN := hide hsn
    clear hsn htk
    generalize hpk : TL.posAlt (l.take k) (ptOf 0) s = pk at *
    clear hpk
    obtain ⟨⟨xn, xf, xl⟩, s1⟩ := pk
    simp only at HX HEQ1 HSN hgood hlt2
    have hlen0 : (t.pos s1).2.S.length ≤ N := Nat.le_trans hlt2 HLN.out
    clear hlt2
    obtain ⟨b, o, B, c', rfl, hbk, hcs, hsub⟩ := TL.In.at_ (T.In_iff.1 HIN.out) hs
    have hcs' := hcs.same (same_of_below HX.out.nx.below) hbk
    have hsub' := hsub.same (ok' := (· < B0)) (same_of_below HX.out.nx.below) (fun y h => h)
    obtain ⟨n0, n1, n2, n3, n4, n5, n6, n7, n8, n9⟩ := hcs'.node
    have HSUB := hide hsub'
    clear hcs hsub hcs' hsub' hs
    go_upto_region 6 with fail
    have hal := (Below.refl wr.heap.size wr).alloc (Nat.le_refl _) (.cells #[.int .i64 t.hd.kind, .int .u64 t.hd.s0, .int .u64 t.hd.s1, .int .u64 t.hd.s2, .int .u64 t.hd.s3, .slice B t.subs.length c', .int .i64 t.hd.num, .int .i64 t.hd.min, .int .i64 t.hd.max, .bool t.hd.bare] 27)
    have HX1 := hide (HX.out.next hB0 hal)
    have cs := (Blk.new wr 27 #[.int .i64 t.hd.kind, .int .u64 t.hd.s0, .int .u64 t.hd.s1, .int .u64 t.hd.s2, .int .u64 t.hd.s3, .slice B t.subs.length c', .int .i64 t.hd.num, .int .i64 t.hd.min, .int .i64 t.hd.max, .bool t.hd.bare]).cell
    have hsub1 := HSUB.out.same (ok' := (· < B0)) (same_of_below (hal.mono (show B0 ≤ wr.heap.size by omega))) (fun y h => h)
    have hw1 : wr.heap.size < (wr.alloc (.cells #[.int .i64 t.hd.kind, .int .u64 t.hd.s0, .int .u64 t.hd.s1, .int .u64 t.hd.s2, .int .u64 t.hd.s3, .slice B t.subs.length c', .int .i64 t.hd.num, .int .i64 t.hd.min, .int .i64 t.hd.max, .bool t.hd.bare] 27)).heap.size := by simp
    have HC := hide (ih t hmem B c' _ s1 rows1 sv1 fv1 hsub1 (by omega) HX1.out.nx.st HEQ1.out hlen0)
    simp only [Hd.cells] at HC
    have hgf := HX.out.mp.fst.lt
    have hgl := HX.out.mp.lst.lt
    have hgfy := HX.out.mp.fy
    have hgly := HX.out.mp.ly
    clear hal hsub1 HX HSUB n0 n1 n2 n3 n4 n5 n6 n7 n8 n9
    generalize (wr.alloc (.cells #[.int .i64 t.hd.kind, .int .u64 t.hd.s0, .int .u64 t.hd.s1, .int .u64 t.hd.s2, .int .u64 t.hd.s3, .slice B t.subs.length c', .int .i64 t.hd.num, .int .i64 t.hd.min, .int .i64 t.hd.max, .bool t.hd.bare] 27)) = W1 at *
    go_wp2_with fail
    refine HC.out.mono ?_
    rintro e w2 ⟨f2, l2, rows2, sv2, fv2, he, hnx2, hmp2, heq2⟩
    clear cs HC
    have hyn := (t.pos_good s1).2.1
    have hxn := hgood.1
    generalize hpt : t.pos s1 = pt at *
    clear hpt
    obtain ⟨⟨yn, yf, yl⟩, st2⟩ := pt
    simp only at HSN hnx2 hmp2 heq2 hyn hxn hlen0
    simp only [partCells] at he
    subst he
    go_upto_region 7 with fail
    have hX2 := HX1.out.call (by omega) hnx2
    have hw2 := hnx2.below.size
    have hf2 := hmp2.fy
    have hl2 := hmp2.ly
    have hal := (Below.refl w2.heap.size w2).alloc (Nat.le_refl _) (.cells #[.int .i64 ((yn : Nat) : Int), .map (some f2), .map (some l2)] 116)
    have HX3 := hide (hX2.next hB0 hal)
    have HY3 := hide (hmp2.next hal)
    have HBY3 := hide (Blk.new w2 116 #[.int .i64 ((yn : Nat) : Int), .map (some f2), .map (some l2)])
    have HEQ2 := hide heq2
    have hw3 : w2.heap.size < (w2.alloc (.cells #[.int .i64 ((yn : Nat) : Int), .map (some f2), .map (some l2)] 116)).heap.size := by simp
    have hw2' : W1.heap.size ≤ w2.heap.size := hnx2.below.size
    clear hX2 hnx2 hmp2 heq2 hal HX1
    generalize (w2.alloc (.cells #[.int .i64 ((yn : Nat) : Int), .map (some f2), .map (some l2)] 116)) = W3 at *
    generalize w2.heap.size = gy at *
    have hxy : gx < gy := by omega
    have cx := HX3.out.bx.cell
    have fx := HX3.out.bx.frozen
    have cy := HBY3.out.cell
    simp only [partCells] at cx
    have gO := orI hxn hyn
    go_upto_region 8 with (simp only [gO])
    clear cx fx cy gO
    have HX4 := hide (HX3.out.null hB0 (xn ||| yn))
    have hst := same_set W3 ⟨gx, 0, none⟩ (.int .i64 ((xn ||| yn : Nat) : Int))
    have HY := hide (HY3.out.turn HX3.out.bx hst)
    have HBY := hide (HBY3.out.far (p := ⟨gx, 0, none⟩) (by show gy ≠ gx; omega) (.int .i64 ((xn ||| yn : Nat) : Int)))
    have hw4 : W3.heap.size ≤ (W3.setCell ⟨gx, 0, none⟩ (.int .i64 ((xn ||| yn : Nat) : Int))).heap.size := by simp
    clear hst HX3 HY3 HBY3
    generalize (W3.setCell ⟨gx, 0, none⟩ (.int .i64 ((xn ||| yn : Nat) : Int))) = W4 at *
    have cy := HBY.out.cell
    have hn1 : f2 ≠ gf := by omega
    have hn2 : l2 ≠ gf := by omega
    have hn3 : f2 ≠ gl := by omega
    have hn4 : l2 ≠ gl := by omega
    go_wp2_with (first | (at_range; refine wpList_way_range rfl _ rfl f2 rfl HY.out.fst ?_; intro w0 cnt0 hrg0 hg0 hs0))
    try go_frame
    replace hs0 : W4.heap.size < w0.heap.size := by omega
    have hb0 : Below W4.heap.size W4 w0 := below_grew (Below.refl _ _) hg0 (Nat.le_refl _) (fun g hg => by cases hg)
    have HR0 := hide (And.intro hrg0 (And.intro ((HX4.out.mp.fst).next hb0) (And.intro (show Same (fun b => b < W4.heap.size ∧ b ≠ gf) W4 w0 from (same_of_below hb0).mono fun b h => h.1) (hb0.mono (show B0 ≤ W4.heap.size by omega)))))
    clear hrg0 hg0 hb0
    go_loopw [10] (fun _ wr => ∃ L cnt, WRange wr f2 W4.heap.size N yf L cnt ∧ WMap wr gf N (fun q : Nat => if L q = true then xf q else xf q ||| yf q) ∧ Same (fun b => b < W4.heap.size ∧ b ≠ gf) W4 wr ∧ Below B0 W4 wr ∧ W4.heap.size < wr.heap.size) (fun _ wr => wr.rangeLeft f2 W4.heap.size)
    case atStart =>
      refine ⟨_, cnt0, HR0.out.1, HR0.out.2.1.congr fun q => ?_, HR0.out.2.2.1, HR0.out.2.2.2, hs0⟩
      by_cases h9 : yf q = 0
      · simp [h9]
      · simp [h9]
    case round =>
      clear HR0
      obtain ⟨L, cnt, hrg, hmt, hsm, hbl, hsz⟩ := hrel
      have HR := hide hrg
      have HMT := hide (And.intro hmt (And.intro hsm hbl))
      clear hrg hmt hsm hbl
      go_wp2_with (first | (at_next; refine wpList_way_next rfl _ rfl f2 W4.heap.size rfl HR.out ?_ ?_))
      · intro hd
        have HZ1 := hide (And.intro (show WMap wr gf N (fun q : Nat => xf q ||| yf q) from HMT.out.1.congr fun q => by rw [hd q]; rfl) HMT.out.2)
        clear hd HMT HR
        rename World => Z1
        have HX5 := hide (HX4.out.outF HZ1.out.2.1 HZ1.out.2.2 HZ1.out.1)
        have HY5 := hide (HY.out.same HZ1.out.2.1 ⟨HY.out.fst.lt, hn1⟩ ⟨HY.out.lst.lt, hn2⟩)
        have HBY5 := hide (HBY.out.same HZ1.out.2.1 ⟨HBY.out.lt, HX4.out.mp.fst.ne_blk HBY.out⟩)
        have cy := HBY5.out.cell
        clear HX4 HY HBY HZ1
        go_wp2_with (first | (at_range; refine wpList_way_range rfl _ rfl l2 rfl HY5.out.lst ?_; intro w0 cnt0 hrg0 hg0 hs0))
        try go_frame
        replace hs0 : Z1.heap.size < w0.heap.size := by omega
        have hb0 : Below Z1.heap.size Z1 w0 := below_grew (Below.refl _ _) hg0 (Nat.le_refl _) (fun g hg => by cases hg)
        have HR0 := hide (And.intro hrg0 (And.intro ((HX5.out.mp.lst).next hb0) (And.intro (show Same (fun b => b < Z1.heap.size ∧ b ≠ gl) Z1 w0 from (same_of_below hb0).mono fun b h => h.1) (hb0.mono (show B0 ≤ Z1.heap.size by omega)))))
        clear hrg0 hg0 hb0
        go_loopw [12] (fun _ wr => ∃ L cnt, WRange wr l2 Z1.heap.size N yl L cnt ∧ WMap wr gl N (fun q : Nat => if L q = true then xl q else xl q ||| yl q) ∧ Same (fun b => b < Z1.heap.size ∧ b ≠ gl) Z1 wr ∧ Below B0 Z1 wr ∧ Z1.heap.size < wr.heap.size) (fun _ wr => wr.rangeLeft l2 Z1.heap.size)
        case atStart =>
          refine ⟨_, cnt0, HR0.out.1, HR0.out.2.1.congr fun q => ?_, HR0.out.2.2.1, HR0.out.2.2.2, hs0⟩
          by_cases h9 : yl q = 0
          · simp [h9]
          · simp [h9]
        case round =>
          clear HR0
          obtain ⟨L, cnt, hrg, hmt, hsm, hbl, hsz⟩ := hrel
          have HR := hide hrg
          have HMT := hide (And.intro hmt (And.intro hsm hbl))
          clear hrg hmt hsm hbl
          go_wp2_with (first | (at_next; refine wpList_way_next rfl _ rfl l2 Z1.heap.size rfl HR.out ?_ ?_))
          · intro hd
            have HZ2 := hide (And.intro (show WMap wr gl N (fun q : Nat => xl q ||| yl q) from HMT.out.1.congr fun q => by rw [hd q]; rfl) HMT.out.2)
            clear hd HMT HR
            rename World => Z2
            have HX6 := hide (HX5.out.outL HZ2.out.2.1 HZ2.out.2.2 HZ2.out.1)
            clear HX5 HY5 HBY5 HZ2
            go_wp2_with fail
            go_roundw
            case rel => exact ⟨k + 1, rows2, sv2, fv2, by go_num, hlt, by rw [HSN.out]; exact HX6.out, by rw [HSN.out]; exact HEQ2.out⟩
            case measure => simp [intOf]; omega
          · intro q w1 cnt1 hqN hLq hgq hrg1 hlt1 hg1 hs1 hen
            replace hs1 : wr.heap.size ≤ w1.heap.size := by omega
            have hmt1 := HMT.out.1.kept hg1 (fun e => HR.out.ne_map HMT.out.1 (Option.some.inj e))
            have hsm1 : Same (fun b => b < Z1.heap.size ∧ b ≠ gl) Z1 w1 := HMT.out.2.1.trans fun b hb => hg1.block b (by have := hb.1; omega) (fun e => by have := Option.some.inj e; have := hb.1; omega)
            have hbl1 := below_map HMT.out.2.2 hg1 (by omega) (show B0 ≤ Z1.heap.size by omega)
            have cx := (HX5.out.bx.same hsm1 ⟨HX5.out.bx.lt, HX5.out.mp.lst.ne_blk HX5.out.bx⟩).cell
            simp only [partCells] at cx
            have hu9 := HY5.out.lst.small q
            simp only at hu9
            generalize hu8 : yl q = u9 at hen hu9 ⊢
            have HU := hide hu8
            clear hu8
            have gA : True := trivial
            have HJ := hide (join17_any gl N q u9 _ w1 hN hqN hu9 hmt1)
            have H1 := hide (And.intro hrg1 (And.intro hsm1 hbl1))
            have HLT := hide (And.intro hlt1 hLq)
            clear hmt1 hrg1 hg1 hsm1 hbl1 hlt1 hLq hgq
            go_wp2_with (simp only [gA])
            refine HJ.out.mono ?_
            rintro e w4 ⟨rfl, hm4, hg4⟩
            have hr4 := H1.out.1.kept hg4 (fun e => hn4 (Option.some.inj e)) (fun e => by have := Option.some.inj e; omega)
            have hsm4 : Same (fun b => b < Z1.heap.size ∧ b ≠ gl) Z1 w4 := H1.out.2.1.trans fun c hc => hg4.block c (by have := hc.1; omega) (fun e => hc.2 (Option.some.inj e))
            have hbl4 := below_map H1.out.2.2 hg4 (by omega) (show B0 ≤ Z1.heap.size by omega)
            have hsz4 := hg4.size
            have H4 := hide (And.intro hr4 (And.intro hm4 (And.intro hsm4 hbl4)))
            clear hr4 hm4 hsm4 hbl4 hg4 HJ cx
            go_wp2_with fail
            have hu := HU.out
            subst hu
            go_roundw
            case rel =>
              refine ⟨_, cnt1, H4.out.1, H4.out.2.1.congr fun j => ?_, H4.out.2.2.1, H4.out.2.2.2, by omega⟩
              by_cases hj : j = q
              · subst hj
                simp [HLT.out.2]
              · simp [hj]
            case measure => rw [H4.out.1.left_eq, HR.out.left_eq]; exact HLT.out.1
      · intro q w1 cnt1 hqN hLq hgq hrg1 hlt1 hg1 hs1 hen
        replace hs1 : wr.heap.size ≤ w1.heap.size := by omega
        have hmt1 := HMT.out.1.kept hg1 (fun e => HR.out.ne_map HMT.out.1 (Option.some.inj e))
        have hsm1 : Same (fun b => b < W4.heap.size ∧ b ≠ gf) W4 w1 := HMT.out.2.1.trans fun b hb => hg1.block b (by have := hb.1; omega) (fun e => by have := Option.some.inj e; have := hb.1; omega)
        have hbl1 := below_map HMT.out.2.2 hg1 (by omega) (show B0 ≤ W4.heap.size by omega)
        have cx := (HX4.out.bx.same hsm1 ⟨HX4.out.bx.lt, HX4.out.mp.fst.ne_blk HX4.out.bx⟩).cell
        simp only [partCells] at cx
        have hu9 := HY.out.fst.small q
        simp only at hu9
        generalize hu8 : yf q = u9 at hen hu9 ⊢
        have HU := hide hu8
        clear hu8
        have gA : True := trivial
        have HJ := hide (join17_any gf N q u9 _ w1 hN hqN hu9 hmt1)
        have H1 := hide (And.intro hrg1 (And.intro hsm1 hbl1))
        have HLT := hide (And.intro hlt1 hLq)
        clear hmt1 hrg1 hg1 hsm1 hbl1 hlt1 hLq hgq
        go_wp2_with (simp only [gA])
        refine HJ.out.mono ?_
        rintro e w4 ⟨rfl, hm4, hg4⟩
        have hr4 := H1.out.1.kept hg4 (fun e => hn1 (Option.some.inj e)) (fun e => by have := Option.some.inj e; omega)
        have hsm4 : Same (fun b => b < W4.heap.size ∧ b ≠ gf) W4 w4 := H1.out.2.1.trans fun c hc => hg4.block c (by have := hc.1; omega) (fun e => hc.2 (Option.some.inj e))
        have hbl4 := below_map H1.out.2.2 hg4 (by omega) (show B0 ≤ W4.heap.size by omega)
        have hsz4 := hg4.size
        have H4 := hide (And.intro hr4 (And.intro hm4 (And.intro hsm4 hbl4)))
        clear hr4 hm4 hsm4 hbl4 hg4 HJ cx
        go_wp2_with fail
        have hu := HU.out
        subst hu
        go_roundw
        case rel =>
          refine ⟨_, cnt1, H4.out.1, H4.out.2.1.congr fun j => ?_, H4.out.2.2.1, H4.out.2.2.2, by omega⟩
          by_cases hj : j = q
          · subst hj
            simp [HLT.out.2]
          · simp [hj]
        case measure => rw [H4.out.1.left_eq, HR.out.left_eq]; exact HLT.out.1
end Go.Proofs.YtbbhobojghmkpaaDoor

/-! ## PosSeq -/
namespace Go.Proofs.YtbbhobojghmkpaaDoor
open Go.RowKit Go.Maps

/-- What seq answers. -/
def SeqPost (gm N B0 : Nat) (rows : List Nat) (sv fv : Value) (y : World) (f0 gq : Nat) (r : Pt × St) (e : Ending) (w' : World) : Prop :=
  ∃ l2 rows2 sv2 fv2, e = .returned (.agg (partCells r.1.null f0 l2).toArray) ∧ MkN gm N B0 rows sv fv y rows2 sv2 fv2 r.2 w' ∧ MapsAt N y.heap.size r.1 f0 l2 rows2 w' ∧ rows2.length = r.2.S.length ∧ Blk w' gq 116 #[.int .i64 0, .map none, .map none]

set_option maxRecDepth 100000 in
set_option maxHeartbeats 8000000 in
theorem posSeq_any (gm N B0 : Nat) (hN : N ≤ 900000) (kind s0 s1' s2 s3 num mn mx : Int) (bare : Bool) (l : List T) (ih : ∀ t ∈ l, PosC gm N B0 t) (hll : l.length ≤ 9223372036854775807)
    (A : Option Addr) (c : Nat) (y w : World) (s : St) (rows rows1 : List Nat) (sv fv sv1 fv1 : Value) (f0 l0 gq : Nat) (hin : T.In y (· < B0) (.mk ⟨kind, s0, s1', s2, s3, num, mn, mx, bare⟩ l) A) (hB0 : B0 ≤ y.heap.size) (hyw : y.heap.size ≤ w.heap.size) (hnx : MkN gm N B0 rows sv fv y rows1 sv1 fv1 s w) (heq : rows1.length = s.S.length) (hmp : MapsAt N y.heap.size (ptOf 0) f0 l0 rows1 w) (hq : Blk w gq 116 #[.int .i64 0, .map none, .map none]) (hlen : (TL.posSeq l (ptOf 15) s).2.S.length ≤ N) :
    Calls Tryd.prog 112 #[.pointer (some ⟨gm, 0, none⟩), .agg #[.int .i64 kind, .int .u64 s0, .int .u64 s1', .int .u64 s2, .int .u64 s3, .slice A l.length c, .int .i64 num, .int .i64 mn, .int .i64 mx, .bool bare], .agg #[.int .i64 0, .map (some f0), .map (some l0)]] w (SeqPost gm N B0 rows sv fv y f0 gq (TL.posSeq l (ptOf 15) s)) := by
  have hmm := @run_makeMap Tryd.prog
  have HQR := hide (show gq < w.heap.size + 1 + 1 by have := hq.lt; omega)
  have HIN := hide hin
  have hb3 := (((Below.refl w.heap.size w).alloc (Nat.le_refl _) (.cells #[.int .i64 kind, .int .u64 s0, .int .u64 s1', .int .u64 s2, .int .u64 s3, .slice A l.length c, .int .i64 num, .int .i64 mn, .int .i64 mx, .bool bare] 27)).alloc (by simp) (.cells #[.int .i64 0, .map (some f0), .map (some l0)] 116)).alloc (by simp; omega) (.cells #[.int .i64 0, .map none, .map none] 116)
  have hbt := ((Blk.new w 27 #[.int .i64 kind, .int .u64 s0, .int .u64 s1', .int .u64 s2, .int .u64 s3, .slice A l.length c, .int .i64 num, .int .i64 mn, .int .i64 mx, .bool bare]).alloc (.cells #[.int .i64 0, .map (some f0), .map (some l0)] 116)).alloc (.cells #[.int .i64 0, .map none, .map none] 116)
  have hbx := (Blk.new (w.alloc (.cells #[.int .i64 kind, .int .u64 s0, .int .u64 s1', .int .u64 s2, .int .u64 s3, .slice A l.length c, .int .i64 num, .int .i64 mn, .int .i64 mx, .bool bare] 27)) 116 #[.int .i64 0, .map (some f0), .map (some l0)]).alloc (.cells #[.int .i64 0, .map none, .map none] 116)
  have hbr := Blk.new ((w.alloc (.cells #[.int .i64 kind, .int .u64 s0, .int .u64 s1', .int .u64 s2, .int .u64 s3, .slice A l.length c, .int .i64 num, .int .i64 mn, .int .i64 mx, .bool bare] 27)).alloc (.cells #[.int .i64 0, .map (some f0), .map (some l0)] 116)) 116 #[.int .i64 0, .map none, .map none]
  simp only [World.size_alloc] at hbx hbr
  have HX := hide (XP.mk (gm := gm) (N := N) (B0 := B0) (rows := rows) (sv := sv) (fv := fv) (y := y) (x := ptOf 0) (f := f0) (l := l0) (hnx.next (by omega) hyw hb3) (hmp.next hb3) hbt hbr hbx (by omega) (by omega) (by omega) (by omega))
  have HQ := hide (hq.nxt hb3)
  have HEQ := hide heq
  have HLN := hide hlen
  have hf0 := hmp.fst.lt
  have hl0 := hmp.lst.lt
  have hgf0 := hmp.fy
  have hgqw := hq.lt
  have hsz3 : w.heap.size + 2 < (((w.alloc (.cells #[.int .i64 kind, .int .u64 s0, .int .u64 s1', .int .u64 s2, .int .u64 s3, .slice A l.length c, .int .i64 num, .int .i64 mn, .int .i64 mx, .bool bare] 27)).alloc (.cells #[.int .i64 0, .map (some f0), .map (some l0)] 116)).alloc (.cells #[.int .i64 0, .map none, .map none] 116)).heap.size := by simp
  clear hb3 hbt hbx hbr hnx hmp hq heq hlen hin
  go_enter Tryd.func112, Tryd.ntmps112
  go_upto_region 1 with fail
  generalize (((w.alloc (.cells #[.int .i64 kind, .int .u64 s0, .int .u64 s1', .int .u64 s2, .int .u64 s3, .slice A l.length c, .int .i64 num, .int .i64 mn, .int .i64 mx, .bool bare] 27)).alloc (.cells #[.int .i64 0, .map (some f0), .map (some l0)] 116)).alloc (.cells #[.int .i64 0, .map none, .map none] 116)) = W0 at *
  generalize w.heap.size + 1 + 1 = gr at *
  generalize hgx9 : w.heap.size + 1 = gx at *
  have hgx : w.heap.size < gx := by omega
  clear hgx9
  generalize w.heap.size = gt at *
  have cx := HX.out.bx.cell
  have fx := HX.out.bx.frozen
  simp only [partCells, ptOf] at cx
  go_upto_region 2 with fail
  clear cx fx
  have HX2 := hide (HX.out.null hB0 15)
  have hgne := HX.out.gne
  have HQ2 := hide (HQ.out.far (p := ⟨gx, 0, none⟩) (by show gq ≠ gx; omega) (.int .i64 ((15 : Nat) : Int)))
  have e15 : ((15 : Nat) : Int) = 15 := rfl
  rw [e15] at HX2 HQ2
  clear e15 HX HQ
  generalize (W0.setCell ⟨gx, 0, none⟩ (.int .i64 15)) = W1 at *
  have c0 := HX2.out.bt.cell
  go_wp2_with fail
  clear c0
  go_loopw [21] (fun iv wr => ∃ (k l1 : Nat) (rows' : List Nat) (sv' fv' : Value), iv = .int .i64 k ∧ k ≤ l.length ∧ XP gm N B0 rows sv fv y #[.int .i64 kind, .int .u64 s0, .int .u64 s1', .int .u64 s2, .int .u64 s3, .slice A l.length c, .int .i64 num, .int .i64 mn, .int .i64 mx, .bool bare] gt gr gx (TL.posSeq (l.take k) (ptOf 15) s).1 f0 l1 rows' sv' fv' (TL.posSeq (l.take k) (ptOf 15) s).2 wr ∧ rows'.length = (TL.posSeq (l.take k) (ptOf 15) s).2.S.length ∧ Blk wr gq 116 #[.int .i64 0, .map none, .map none]) (fun iv _ => l.length - (intOf iv).toNat)
  case atStart => exact ⟨0, l0, rows1, sv1, fv1, rfl, by omega, HX2.out, HEQ.out, HQ2.out⟩
  case round =>
    clear HX2 HQ2
    obtain ⟨k, l1, rows3, sv3, fv3, rfl, hk, hX, heq, hq⟩ := hrel
    have HX := hide hX
    have HEQ1 := hide heq
    have HQ := hide hq
    clear hX heq hq
    have hx1 := HX.out.size
    have hx2 := HX.out.gxy
    have hx3 := HX.out.gry
    by_cases hlt : k < l.length
    case neg =>
      have g1 : decide ((k : Int) < (l.length : Int)) = false := decide_eq_false (by omega)
      obtain rfl : k = l.length := by omega
      rw [List.take_length] at HX HEQ1
      have cx := HX.out.bx.cell
      simp only [partCells] at cx
      go_wp2_with (refine wpList_store_row rfl _ _ _ rfl gr 0 _ _ _ rfl rfl HX.out.br Tryd.sizePosPart (by simp) (by simp [Value.oneCell']) ?_)
      intro w9 hrow2 hg9 hz9
      have hrow := hrow2.out
      rw [splice_full (by rfl)] at hrow
      have hgr9 := HX.out.gry
      have hqr : gq ≠ gr := by have := HQR.out; omega
      have hfin := HX.out.fin hB0 hg9
      have HF := hide (And.intro hrow (And.intro hfin (HQ.out.same (same_grew hg9) ⟨HQ.out.lt, hqr⟩)))
      clear hrow hrow2 hg9 hz9 hfin cx
      go_wp2_with fail
      refine bodyPost_ret (results_cell_row rfl _ _ gr _ _ (0, 0) _ rfl HF.out.1 Tryd.underlying116 rfl Tryd.sizePosPart) rfl ?_
      exact ⟨l1, rows3, sv3, fv3, rfl, HF.out.2.1.1, HF.out.2.1.2, HEQ1.out, HF.out.2.2⟩
    have g1 : decide ((k : Int) < (l.length : Int)) = true := decide_eq_true (by omega)
    have hs := List.getElem?_eq_getElem hlt
    have htk : l.take (k + 1) = l.take k ++ [l[k]] := by rw [List.take_add_one, hs]; rfl
    have hmem := List.getElem_mem hlt
    generalize l[k] = t at *
    have hsn := TL.posSeq_snoc (l.take k) t (ptOf 15) s
    rw [← htk] at hsn
    have hgood := (TL.posSeq_good (l.take k) (ptOf 15) s (ptOf_good (by omega))).2
    have hlt2 := TL.posSeq_take l (ptOf 15) s (k + 1)
    rw [hsn] at hlt2
    have HSN := hide hsn
    clear hsn htk
    generalize hpk : TL.posSeq (l.take k) (ptOf 15) s = pk at *
    clear hpk
    obtain ⟨⟨xn, xf, xl⟩, s1⟩ := pk
    simp only at HX HEQ1 HSN hgood hlt2
    have hlen0 : (t.pos s1).2.S.length ≤ N := Nat.le_trans hlt2 HLN.out
    clear hlt2
    obtain ⟨b, o, B, c', rfl, hbk, hcs, hsub⟩ := TL.In.at_ (T.In_iff.1 HIN.out) hs
    have hcs' := hcs.same (same_of_below HX.out.nx.below) hbk
    have hsub' := hsub.same (ok' := (· < B0)) (same_of_below HX.out.nx.below) (fun y h => h)
    obtain ⟨n0, n1, n2, n3, n4, n5, n6, n7, n8, n9⟩ := hcs'.node
    have HSUB := hide hsub'
    clear hcs hsub hcs' hsub' hs
    go_upto_region 5 with fail
    have hal := (Below.refl wr.heap.size wr).alloc (Nat.le_refl _) (.cells #[.int .i64 t.hd.kind, .int .u64 t.hd.s0, .int .u64 t.hd.s1, .int .u64 t.hd.s2, .int .u64 t.hd.s3, .slice B t.subs.length c', .int .i64 t.hd.num, .int .i64 t.hd.min, .int .i64 t.hd.max, .bool t.hd.bare] 27)
    have HX1 := hide (HX.out.next hB0 hal)
    have HQ1 := hide (HQ.out.nxt hal)
    have cs := (Blk.new wr 27 #[.int .i64 t.hd.kind, .int .u64 t.hd.s0, .int .u64 t.hd.s1, .int .u64 t.hd.s2, .int .u64 t.hd.s3, .slice B t.subs.length c', .int .i64 t.hd.num, .int .i64 t.hd.min, .int .i64 t.hd.max, .bool t.hd.bare]).cell
    have hsub1 := HSUB.out.same (ok' := (· < B0)) (same_of_below (hal.mono (show B0 ≤ wr.heap.size by omega))) (fun y h => h)
    have hw1 : wr.heap.size < (wr.alloc (.cells #[.int .i64 t.hd.kind, .int .u64 t.hd.s0, .int .u64 t.hd.s1, .int .u64 t.hd.s2, .int .u64 t.hd.s3, .slice B t.subs.length c', .int .i64 t.hd.num, .int .i64 t.hd.min, .int .i64 t.hd.max, .bool t.hd.bare] 27)).heap.size := by simp
    have HC := hide (ih t hmem B c' _ s1 rows3 sv3 fv3 hsub1 (by omega) HX1.out.nx.st HEQ1.out hlen0)
    simp only [Hd.cells] at HC
    have hgf := HX.out.mp.fst.lt
    have hgl := HX.out.mp.lst.lt
    have hgfy := HX.out.mp.fy
    have hgly := HX.out.mp.ly
    clear hal hsub1 HX HQ HSUB n0 n1 n2 n3 n4 n5 n6 n7 n8 n9
    generalize (wr.alloc (.cells #[.int .i64 t.hd.kind, .int .u64 t.hd.s0, .int .u64 t.hd.s1, .int .u64 t.hd.s2, .int .u64 t.hd.s3, .slice B t.subs.length c', .int .i64 t.hd.num, .int .i64 t.hd.min, .int .i64 t.hd.max, .bool t.hd.bare] 27)) = W1 at *
    go_wp2_with fail
    refine HC.out.mono ?_
    rintro e w2 ⟨f2, l2, rows2, sv2, fv2, he, hnx2, hmp2, heq2⟩
    clear cs HC
    have hyg := t.pos_good s1
    have hxn := hgood.1
    generalize hpt : t.pos s1 = pt at *
    clear hpt
    obtain ⟨⟨yn, yf, yl⟩, st2⟩ := pt
    simp only at HSN hnx2 hmp2 heq2 hyg hxn hlen0
    have hyn : yn < 16 := hyg.2.1
    have hlo : ∀ q, rows2.length ≤ q → xl q = 0 := fun q hq => (hgood.2 q (by have := hyg.1; omega)).2
    have HLO := hide hlo
    clear hlo hgood hyg
    simp only [partCells] at he
    subst he
    go_upto_region 6 with fail
    have hX2 := HX1.out.call (by omega) hnx2
    have hQ2 := blk_over HQ1.out HX1.out.nx.st hnx2 (by decide) (by decide) (by decide)
    have hw2 : W1.heap.size ≤ w2.heap.size := hnx2.below.size
    have hf2 := hmp2.fy
    have hl2 := hmp2.ly
    have hal := (Below.refl w2.heap.size w2).alloc (Nat.le_refl _) (.cells #[.int .i64 ((yn : Nat) : Int), .map (some f2), .map (some l2)] 116)
    have HX3 := hide (hX2.next hB0 hal)
    have HY3 := hide (hmp2.next hal)
    have HBY3 := hide (Blk.new w2 116 #[.int .i64 ((yn : Nat) : Int), .map (some f2), .map (some l2)])
    have HQ3 := hide (hQ2.nxt hal)
    have HEQ2 := hide heq2
    have hw3 : w2.heap.size < (w2.alloc (.cells #[.int .i64 ((yn : Nat) : Int), .map (some f2), .map (some l2)] 116)).heap.size := by simp
    clear hX2 hQ2 hnx2 hmp2 heq2 hal HX1 HQ1
    generalize (w2.alloc (.cells #[.int .i64 ((yn : Nat) : Int), .map (some f2), .map (some l2)] 116)) = W3 at *
    generalize w2.heap.size = gy at *
    have hxy : gx < gy := by omega
    have HL := hide (link17_any gm N l1 f2 B0 rows2 sv2 fv2 st2.S st2.M xl yf W3 hN HX3.out.nx.st HX3.out.mp.lst HY3.out.fst HX3.out.mp.lr HY3.out.fr HLO.out (by omega))
    have cx := HX3.out.bx.cell
    have cy := HBY3.out.cell
    simp only [partCells] at cx
    go_wp2_with fail
    refine HL.out.mono ?_
    rintro e W4 ⟨rfl, hlk⟩
    have HX4 := hide (HX3.out.link (by omega) hlk)
    have HY := hide (HY3.out.same hlk.same ⟨HY3.out.fst.lt, HY3.out.fr⟩ ⟨HY3.out.lst.lt, HY3.out.lr⟩)
    have HBY := hide (hlk.blk HX3.out.nx.st HBY3.out)
    have HQ4 := hide (hlk.blk HX3.out.nx.st HQ3.out)
    have hw4 : W3.heap.size ≤ W4.heap.size := hlk.below.size
    clear cx cy HL hlk HX3 HY3 HBY3 HQ3
    have cy := HBY.out.cell
    have hn1 : f2 ≠ f0 := by omega
    have hn2 : l2 ≠ f0 := by omega
    go_wp2_with (first | (at_range; refine wpList_way_range rfl _ rfl f2 rfl HY.out.fst ?_; intro w0 cnt0 hrg0 hg0 hs0))
    try go_frame
    replace hs0 : W4.heap.size < w0.heap.size := by omega
    have hb0 : Below W4.heap.size W4 w0 := below_grew (Below.refl _ _) hg0 (Nat.le_refl _) (fun g hg => by cases hg)
    have HR0 := hide (And.intro hrg0 (And.intro ((HX4.out.mp.fst).next hb0) (And.intro (show Same (fun b => b < W4.heap.size ∧ b ≠ f0) W4 w0 from (same_of_below hb0).mono fun b h => h.1) (hb0.mono (show B0 ≤ W4.heap.size by omega)))))
    clear hrg0 hg0 hb0
    go_loopw [10] (fun _ wr => ∃ L cnt, WRange wr f2 W4.heap.size N yf L cnt ∧ WMap wr f0 N (fun q : Nat => if L q = true then xf q else xf q ||| (yf q &&& xn)) ∧ Same (fun b => b < W4.heap.size ∧ b ≠ f0) W4 wr ∧ Below B0 W4 wr ∧ W4.heap.size < wr.heap.size) (fun _ wr => wr.rangeLeft f2 W4.heap.size)
    case atStart =>
      refine ⟨_, cnt0, HR0.out.1, HR0.out.2.1.congr fun q => ?_, HR0.out.2.2.1, HR0.out.2.2.2, hs0⟩
      by_cases h9 : yf q = 0
      · simp [h9]
      · simp [h9]
    case round =>
      clear HR0
      obtain ⟨L, cnt, hrg, hmt, hsm, hbl, hsz⟩ := hrel
      have HR := hide hrg
      have HMT := hide (And.intro hmt (And.intro hsm hbl))
      clear hrg hmt hsm hbl
      go_wp2_with (first | (at_next; refine wpList_way_next rfl _ rfl f2 W4.heap.size rfl HR.out ?_ ?_))
      · intro hd
        have HZ1 := hide (And.intro (show WMap wr f0 N (fun q : Nat => xf q ||| (yf q &&& xn)) from HMT.out.1.congr fun q => by rw [hd q]; rfl) HMT.out.2)
        clear hd HMT HR
        rename World => Z1
        have HX5 := hide (HX4.out.outF HZ1.out.2.1 HZ1.out.2.2 HZ1.out.1)
        have HY5 := hide (HY.out.same HZ1.out.2.1 ⟨HY.out.fst.lt, hn1⟩ ⟨HY.out.lst.lt, hn2⟩)
        have HBY5 := hide (HBY.out.same HZ1.out.2.1 ⟨HBY.out.lt, HX4.out.mp.fst.ne_blk HBY.out⟩)
        have HQ5 := hide (HQ4.out.same HZ1.out.2.1 ⟨HQ4.out.lt, HX4.out.mp.fst.ne_blk HQ4.out⟩)
        clear HX4 HY HBY HZ1 HQ4 cy
        go_upto_region 12 with fail
        have hal := (Below.refl Z1.heap.size Z1).alloc (Nat.le_refl _) (.map #[] 0)
        have HX6 := hide (HX5.out.next hB0 hal)
        have HY6 := hide (HY5.out.next hal)
        have HBY6 := hide (HBY5.out.nxt hal)
        have HQ6 := hide (HQ5.out.nxt hal)
        have HM := hide (WMap.made Z1 N)
        have hz1 : Z1.heap.size < (Z1.alloc (.map #[] 0)).heap.size := by simp
        have hl1z := HX5.out.mp.lst.lt
        have hl2z := HY5.out.lst.lt
        have hf2z := HY5.out.fst.lt
        have hf0z := HX5.out.mp.fst.lt
        have hmr : Z1.heap.size ∉ rows2 := fun h => by have := HX5.out.nx.st.rows_lt _ h; omega
        clear hal HX5 HY5 HBY5 HQ5
        generalize (Z1.alloc (.map #[] 0)) = W7 at *
        generalize Z1.heap.size = m at *
        have cx := HX6.out.bx.cell
        simp only [partCells] at cx
        have hm1 : l1 ≠ m := by omega
        have hm2 : l2 ≠ m := by omega
        have hm3 : m ≠ f0 := by omega
        have hm4 : m ≠ l1 := by omega
        have hmy : y.heap.size ≤ m := by omega
        go_wp2_with (first | (at_range; refine wpList_way_range rfl _ rfl l1 rfl HX6.out.mp.lst ?_; intro w0 cnt0 hrg0 hg0 hs0))
        try go_frame
        replace hs0 : W7.heap.size < w0.heap.size := by omega
        have hb0 : Below W7.heap.size W7 w0 := below_grew (Below.refl _ _) hg0 (Nat.le_refl _) (fun g hg => by cases hg)
        have HR0 := hide (And.intro hrg0 (And.intro ((HM.out).next hb0) (And.intro (show Same (fun b => b < W7.heap.size ∧ b ≠ m) W7 w0 from (same_of_below hb0).mono fun b h => h.1) (hb0.mono (show B0 ≤ W7.heap.size by omega)))))
        clear hrg0 hg0 hb0
        go_loopw [13] (fun _ wr => ∃ L cnt, WRange wr l1 W7.heap.size N xl L cnt ∧ WMap wr m N (fun q : Nat => if L q = true then (fun _ : Nat => 0) q else (fun _ : Nat => 0) q ||| (xl q &&& yn)) ∧ Same (fun b => b < W7.heap.size ∧ b ≠ m) W7 wr ∧ Below B0 W7 wr ∧ W7.heap.size < wr.heap.size) (fun _ wr => wr.rangeLeft l1 W7.heap.size)
        case atStart =>
          refine ⟨_, cnt0, HR0.out.1, HR0.out.2.1.congr fun q => ?_, HR0.out.2.2.1, HR0.out.2.2.2, hs0⟩
          by_cases h9 : xl q = 0
          · simp [h9]
          · simp [h9]
        case round =>
          clear HR0
          obtain ⟨L, cnt, hrg, hmt, hsm, hbl, hsz⟩ := hrel
          have HR := hide hrg
          have HMT := hide (And.intro hmt (And.intro hsm hbl))
          clear hrg hmt hsm hbl
          go_wp2_with (first | (at_next; refine wpList_way_next rfl _ rfl l1 W7.heap.size rfl HR.out ?_ ?_))
          · intro hd
            have HZ2 := hide (And.intro (show WMap wr m N (fun q : Nat => (fun _ : Nat => 0) q ||| (xl q &&& yn)) from HMT.out.1.congr fun q => by rw [hd q]; rfl) HMT.out.2)
            clear hd HMT HR
            rename World => Z2
            obtain ⟨lx, hlx⟩ : ∃ lx : Nat → Nat, ∀ q, lx q = (xl q &&& yn) := ⟨_, fun _ => rfl⟩
            have HM7 := hide (show WMap Z2 m N lx from HZ2.out.1.congr fun q => by rw [hlx, Nat.zero_or])
            have HLX := hide hlx
            clear hlx
            have HX7 := hide (HX6.out.other HM.out hm3 hm4 hmr hmy HZ2.out.2.1 HZ2.out.2.2)
            have HY7 := hide (HY6.out.same HZ2.out.2.1 ⟨HY6.out.fst.lt, by omega⟩ ⟨HY6.out.lst.lt, hm2⟩)
            have HBY7 := hide (HBY6.out.same HZ2.out.2.1 ⟨HBY6.out.lt, HM.out.ne_blk HBY6.out⟩)
            have HQ7 := hide (HQ6.out.same HZ2.out.2.1 ⟨HQ6.out.lt, HM.out.ne_blk HQ6.out⟩)
            clear HX6 HY6 HBY6 HQ6 HM HZ2 cx
            have cy := HBY7.out.cell
            go_wp2_with (first | (at_range; refine wpList_way_range rfl _ rfl l2 rfl HY7.out.lst ?_; intro w0 cnt0 hrg0 hg0 hs0))
            try go_frame
            replace hs0 : Z2.heap.size < w0.heap.size := by omega
            have hb0 : Below Z2.heap.size Z2 w0 := below_grew (Below.refl _ _) hg0 (Nat.le_refl _) (fun g hg => by cases hg)
            have HR0 := hide (And.intro hrg0 (And.intro ((HM7.out).next hb0) (And.intro (show Same (fun b => b < Z2.heap.size ∧ b ≠ m) Z2 w0 from (same_of_below hb0).mono fun b h => h.1) (hb0.mono (show B0 ≤ Z2.heap.size by omega)))))
            clear hrg0 hg0 hb0
            go_loopw [15] (fun _ wr => ∃ L cnt, WRange wr l2 Z2.heap.size N yl L cnt ∧ WMap wr m N (fun q : Nat => if L q = true then lx q else lx q ||| yl q) ∧ Same (fun b => b < Z2.heap.size ∧ b ≠ m) Z2 wr ∧ Below B0 Z2 wr ∧ Z2.heap.size < wr.heap.size) (fun _ wr => wr.rangeLeft l2 Z2.heap.size)
            case atStart =>
              refine ⟨_, cnt0, HR0.out.1, HR0.out.2.1.congr fun q => ?_, HR0.out.2.2.1, HR0.out.2.2.2, hs0⟩
              by_cases h9 : yl q = 0
              · simp [h9]
              · simp [h9]
            case round =>
              clear HR0
              obtain ⟨L, cnt, hrg, hmt, hsm, hbl, hsz⟩ := hrel
              have HR := hide hrg
              have HMT := hide (And.intro hmt (And.intro hsm hbl))
              clear hrg hmt hsm hbl
              go_wp2_with (first | (at_next; refine wpList_way_next rfl _ rfl l2 Z2.heap.size rfl HR.out ?_ ?_))
              · intro hd
                have HZ3 := hide (And.intro (show WMap wr m N (fun q : Nat => lx q ||| yl q) from HMT.out.1.congr fun q => by rw [hd q]; rfl) HMT.out.2)
                clear hd HMT HR
                rename World => Z3
                have HX8 := hide (HX7.out.other HM7.out hm3 hm4 hmr hmy HZ3.out.2.1 HZ3.out.2.2)
                have HM8 := hide HZ3.out.1
                have HBY8 := hide (HBY7.out.same HZ3.out.2.1 ⟨HBY7.out.lt, HM7.out.ne_blk HBY7.out⟩)
                have HQ8 := hide (HQ7.out.same HZ3.out.2.1 ⟨HQ7.out.lt, HM7.out.ne_blk HQ7.out⟩)
                clear HX7 HM7 HY7 HBY7 HQ7 HZ3 cy
                have fx := HX8.out.bx.frozen
                have cx := HX8.out.bx.cell
                simp only [partCells] at cx
                go_upto_region 21 with fail
                clear fx cx
                have HX9 := hide (HX8.out.lastTo hB0 HM8.out hm3 hmr hmy)
                have HBY9 := hide (HBY8.out.far (p := ⟨gx, 2, none⟩) (by show gy ≠ gx; omega) (.map (some m)))
                have HQ9 := hide (HQ8.out.far (p := ⟨gx, 2, none⟩) (by show gq ≠ gx; omega) (.map (some m)))
                clear HX8 HBY8 HQ8 HM8
                generalize (Z3.setCell ⟨gx, 2, none⟩ (.map (some m))) = V at *
                have cx := HX9.out.bx.cell
                have fx := HX9.out.bx.frozen
                have cy := HBY9.out.cell
                simp only [partCells] at cx
                have gA := andI hxn hyn
                go_upto_region 22 with (simp only [gA])
                clear cx fx cy gA
                have HX10 := hide (HX9.out.null hB0 (xn &&& yn))
                have HQ10 := hide (HQ9.out.far (p := ⟨gx, 0, none⟩) (by show gq ≠ gx; omega) (.int .i64 ((xn &&& yn : Nat) : Int)))
                clear HX9 HBY9 HQ9
                generalize (V.setCell ⟨gx, 0, none⟩ (.int .i64 ((xn &&& yn : Nat) : Int))) = V2 at *
                go_wp2_with fail
                go_roundw
                case rel =>
                  refine ⟨k + 1, m, rows2, sv2, fv2, by go_num, hlt, ?_, by rw [HSN.out]; exact HEQ2.out, HQ10.out⟩
                  rw [HSN.out]
                  exact HX10.out.congr rfl (fun q => rfl) (fun q => by show lx q ||| yl q = (xl q &&& yn) ||| yl q; rw [HLX.out])
                case measure => simp [intOf]; omega
              · intro q w1 cnt1 hqN hLq hgq hrg1 hlt1 hg1 hs1 hen
                replace hs1 : wr.heap.size ≤ w1.heap.size := by omega
                have hmt1 := HMT.out.1.kept hg1 (fun e => HR.out.ne_map HMT.out.1 (Option.some.inj e))
                have hsm1 : Same (fun b => b < Z2.heap.size ∧ b ≠ m) Z2 w1 := HMT.out.2.1.trans fun b hb => hg1.block b (by have := hb.1; omega) (fun e => by have := Option.some.inj e; have := hb.1; omega)
                have hbl1 := below_map HMT.out.2.2 hg1 (by omega) (show B0 ≤ Z2.heap.size by omega)
                have hu9 := HY7.out.lst.small q
                simp only at hu9
                generalize hu8 : yl q = u9 at hen hu9 ⊢
                have HU := hide hu8
                clear hu8
                have gA : True := trivial
                have HJ := hide (join17_any m N q u9 _ w1 hN hqN hu9 hmt1)
                have H1 := hide (And.intro hrg1 (And.intro hsm1 hbl1))
                have HLT := hide (And.intro hlt1 hLq)
                clear hmt1 hrg1 hg1 hsm1 hbl1 hlt1 hLq hgq
                go_wp2_with (simp only [gA])
                refine HJ.out.mono ?_
                rintro e w4 ⟨rfl, hm4, hg4⟩
                have hr4 := H1.out.1.kept hg4 (fun e => hm2 (Option.some.inj e)) (fun e => by have := Option.some.inj e; omega)
                have hsm4 : Same (fun b => b < Z2.heap.size ∧ b ≠ m) Z2 w4 := H1.out.2.1.trans fun c hc => hg4.block c (by have := hc.1; omega) (fun e => hc.2 (Option.some.inj e))
                have hbl4 := below_map H1.out.2.2 hg4 (by omega) (show B0 ≤ Z2.heap.size by omega)
                have hsz4 := hg4.size
                have H4 := hide (And.intro hr4 (And.intro hm4 (And.intro hsm4 hbl4)))
                clear hr4 hm4 hsm4 hbl4 hg4 HJ 
                go_wp2_with fail
                have hu := HU.out
                subst hu
                go_roundw
                case rel =>
                  refine ⟨_, cnt1, H4.out.1, H4.out.2.1.congr fun j => ?_, H4.out.2.2.1, H4.out.2.2.2, by omega⟩
                  by_cases hj : j = q
                  · subst hj
                    simp [HLT.out.2]
                  · simp [hj]
                case measure => rw [H4.out.1.left_eq, HR.out.left_eq]; exact HLT.out.1
          · intro q w1 cnt1 hqN hLq hgq hrg1 hlt1 hg1 hs1 hen
            replace hs1 : wr.heap.size ≤ w1.heap.size := by omega
            have hmt1 := HMT.out.1.kept hg1 (fun e => HR.out.ne_map HMT.out.1 (Option.some.inj e))
            have hsm1 : Same (fun b => b < W7.heap.size ∧ b ≠ m) W7 w1 := HMT.out.2.1.trans fun b hb => hg1.block b (by have := hb.1; omega) (fun e => by have := Option.some.inj e; have := hb.1; omega)
            have hbl1 := below_map HMT.out.2.2 hg1 (by omega) (show B0 ≤ W7.heap.size by omega)
            have cy := (HBY6.out.same hsm1 ⟨HBY6.out.lt, HM.out.ne_blk HBY6.out⟩).cell
            have hu8 := HX6.out.mp.lst.small q
            simp only at hu8
            have hu9 := andL hu8 hyn
            have gA := andI hu8 hyn
            generalize hu7 : (xl q &&& yn) = u9 at gA hu9
            generalize ha9 : xl q = a9 at gA hu8 hen ⊢
            have HU := hide (And.intro ha9 hu7)
            clear ha9 hu7
            have HJ := hide (join17_any m N q u9 _ w1 hN hqN hu9 hmt1)
            have H1 := hide (And.intro hrg1 (And.intro hsm1 hbl1))
            have HLT := hide (And.intro hlt1 hLq)
            clear hmt1 hrg1 hg1 hsm1 hbl1 hlt1 hLq hgq
            go_wp2_with (simp only [gA])
            refine HJ.out.mono ?_
            rintro e w4 ⟨rfl, hm4, hg4⟩
            have hr4 := H1.out.1.kept hg4 (fun e => hm1 (Option.some.inj e)) (fun e => by have := Option.some.inj e; omega)
            have hsm4 : Same (fun b => b < W7.heap.size ∧ b ≠ m) W7 w4 := H1.out.2.1.trans fun c hc => hg4.block c (by have := hc.1; omega) (fun e => hc.2 (Option.some.inj e))
            have hbl4 := below_map H1.out.2.2 hg4 (by omega) (show B0 ≤ W7.heap.size by omega)
            have hsz4 := hg4.size
            have H4 := hide (And.intro hr4 (And.intro hm4 (And.intro hsm4 hbl4)))
            clear hr4 hm4 hsm4 hbl4 hg4 HJ cy
            go_wp2_with fail
            obtain ⟨ha9, hu7⟩ := HU.out
            subst ha9
            subst hu7
            go_roundw
            case rel =>
              refine ⟨_, cnt1, H4.out.1, H4.out.2.1.congr fun j => ?_, H4.out.2.2.1, H4.out.2.2.2, by omega⟩
              by_cases hj : j = q
              · subst hj
                simp [HLT.out.2]
              · simp [hj]
            case measure => rw [H4.out.1.left_eq, HR.out.left_eq]; exact HLT.out.1
      · intro q w1 cnt1 hqN hLq hgq hrg1 hlt1 hg1 hs1 hen
        replace hs1 : wr.heap.size ≤ w1.heap.size := by omega
        have hmt1 := HMT.out.1.kept hg1 (fun e => HR.out.ne_map HMT.out.1 (Option.some.inj e))
        have hsm1 : Same (fun b => b < W4.heap.size ∧ b ≠ f0) W4 w1 := HMT.out.2.1.trans fun b hb => hg1.block b (by have := hb.1; omega) (fun e => by have := Option.some.inj e; have := hb.1; omega)
        have hbl1 := below_map HMT.out.2.2 hg1 (by omega) (show B0 ≤ W4.heap.size by omega)
        have cx := (HX4.out.bx.same hsm1 ⟨HX4.out.bx.lt, HX4.out.mp.fst.ne_blk HX4.out.bx⟩).cell
        simp only [partCells] at cx
        have hu8 := HY.out.fst.small q
        simp only at hu8
        have hu9 := andL hu8 hxn
        have gA := andI hu8 hxn
        generalize hu7 : (yf q &&& xn) = u9 at gA hu9
        generalize ha9 : yf q = a9 at gA hu8 hen ⊢
        have HU := hide (And.intro ha9 hu7)
        clear ha9 hu7
        have HJ := hide (join17_any f0 N q u9 _ w1 hN hqN hu9 hmt1)
        have H1 := hide (And.intro hrg1 (And.intro hsm1 hbl1))
        have HLT := hide (And.intro hlt1 hLq)
        clear hmt1 hrg1 hg1 hsm1 hbl1 hlt1 hLq hgq
        go_wp2_with (simp only [gA])
        refine HJ.out.mono ?_
        rintro e w4 ⟨rfl, hm4, hg4⟩
        have hr4 := H1.out.1.kept hg4 (fun e => hn1 (Option.some.inj e)) (fun e => by have := Option.some.inj e; omega)
        have hsm4 : Same (fun b => b < W4.heap.size ∧ b ≠ f0) W4 w4 := H1.out.2.1.trans fun c hc => hg4.block c (by have := hc.1; omega) (fun e => hc.2 (Option.some.inj e))
        have hbl4 := below_map H1.out.2.2 hg4 (by omega) (show B0 ≤ W4.heap.size by omega)
        have hsz4 := hg4.size
        have H4 := hide (And.intro hr4 (And.intro hm4 (And.intro hsm4 hbl4)))
        clear hr4 hm4 hsm4 hbl4 hg4 HJ cx
        go_wp2_with fail
        obtain ⟨ha9, hu7⟩ := HU.out
        subst ha9
        subst hu7
        go_roundw
        case rel =>
          refine ⟨_, cnt1, H4.out.1, H4.out.2.1.congr fun j => ?_, H4.out.2.2.1, H4.out.2.2.2, by omega⟩
          by_cases hj : j = q
          · subst hj
            simp [HLT.out.2]
          · simp [hj]
        case measure => rw [H4.out.1.left_eq, HR.out.left_eq]; exact HLT.out.1
end Go.Proofs.YtbbhobojghmkpaaDoor

/-! ## PosAll -/
namespace Go.Proofs.YtbbhobojghmkpaaDoor
open Go.RowKit Go.Maps

set_option maxRecDepth 100000 in
set_option maxHeartbeats 4000000 in
theorem posOf_row (gm N B0 : Nat) (hN : N ≤ 900000) (hgm : B0 ≤ gm) (kind s0 s1' s2 s3 num mn mx : Int) (bare : Bool) (l : List T) (hk : kind = 5) (ih : ∀ t ∈ l, PosC gm N B0 t) (hll : l.length ≤ 9223372036854775807) : PosC gm N B0 (.mk ⟨kind, s0, s1', s2, s3, num, mn, mx, bare⟩ l) := by
  intro A c y s rows sv fv hin hB0 hmk heq hlen
  have hmm := @run_makeMap Tryd.prog
  have HKK := hide hk
  clear hk
  simp only [T.hd, T.subs, Hd.cells] at ⊢
  obtain ⟨R, hR⟩ : ∃ R, R = (T.mk ⟨kind, s0, s1', s2, s3, num, mn, mx, bare⟩ l).pos s := ⟨_, rfl⟩
  rw [← hR] at hlen ⊢
  have HR := hide hR
  clear hR
  have hb4 := ((((Below.refl y.heap.size y).alloc (Nat.le_refl _) (.cells #[.int .i64 kind, .int .u64 s0, .int .u64 s1', .int .u64 s2, .int .u64 s3, .slice A l.length c, .int .i64 num, .int .i64 mn, .int .i64 mx, .bool bare] 27)).alloc (by simp) (.cells #[.int .i64 0, .map none, .map none] 116)).alloc (by simp; omega) (.map #[] 0)).alloc (by simp; omega) (.map #[] 0)
  have hbt := (((Blk.new y 27 #[.int .i64 kind, .int .u64 s0, .int .u64 s1', .int .u64 s2, .int .u64 s3, .slice A l.length c, .int .i64 num, .int .i64 mn, .int .i64 mx, .bool bare]).alloc (.cells #[.int .i64 0, .map none, .map none] 116)).alloc (.map #[] 0)).alloc (.map #[] 0)
  have hbr := ((Blk.new (y.alloc (.cells #[.int .i64 kind, .int .u64 s0, .int .u64 s1', .int .u64 s2, .int .u64 s3, .slice A l.length c, .int .i64 num, .int .i64 mn, .int .i64 mx, .bool bare] 27)) 116 #[.int .i64 0, .map none, .map none]).alloc (.map #[] 0)).alloc (.map #[] 0)
  have hmf := (WMap.made ((y.alloc (.cells #[.int .i64 kind, .int .u64 s0, .int .u64 s1', .int .u64 s2, .int .u64 s3, .slice A l.length c, .int .i64 num, .int .i64 mn, .int .i64 mx, .bool bare] 27)).alloc (.cells #[.int .i64 0, .map none, .map none] 116)) N).same (same_of_below ((Below.refl _ _).alloc (Nat.le_refl _) (.map #[] 0))) (by simp)
  have hml := WMap.made (((y.alloc (.cells #[.int .i64 kind, .int .u64 s0, .int .u64 s1', .int .u64 s2, .int .u64 s3, .slice A l.length c, .int .i64 num, .int .i64 mn, .int .i64 mx, .bool bare] 27)).alloc (.cells #[.int .i64 0, .map none, .map none] 116)).alloc (.map #[] 0)) N
  simp only [World.size_alloc] at hbr hmf hml
  have hsz4 : y.heap.size + 4 ≤ ((((y.alloc (.cells #[.int .i64 kind, .int .u64 s0, .int .u64 s1', .int .u64 s2, .int .u64 s3, .slice A l.length c, .int .i64 num, .int .i64 mn, .int .i64 mx, .bool bare] 27)).alloc (.cells #[.int .i64 0, .map none, .map none] 116)).alloc (.map #[] 0)).alloc (.map #[] 0)).heap.size := by simp
  have hsz4' : ((((y.alloc (.cells #[.int .i64 kind, .int .u64 s0, .int .u64 s1', .int .u64 s2, .int .u64 s3, .slice A l.length c, .int .i64 num, .int .i64 mn, .int .i64 mx, .bool bare] 27)).alloc (.cells #[.int .i64 0, .map none, .map none] 116)).alloc (.map #[] 0)).alloc (.map #[] 0)).heap.size = y.heap.size + 1 + 1 + 1 + 1 := by simp
  have H0 := hide (And.intro ((MkN.refl (sv := sv) (fv := fv) hmk).next hB0 (Nat.le_refl _) hb4) (And.intro hbt (And.intro hbr (And.intro hmf hml))))
  have HEQ := hide heq
  clear heq
  have hry := hmk.rows_lt
  have HRY := hide hry
  have HIN := hide hin
  clear hb4 hbt hbr hmf hml hmk hry hin
  go_enter Tryd.func89, Tryd.ntmps89
  go_upto_region 2 with fail
  have hal := (Below.refl ((((y.alloc (.cells #[.int .i64 kind, .int .u64 s0, .int .u64 s1', .int .u64 s2, .int .u64 s3, .slice A l.length c, .int .i64 num, .int .i64 mn, .int .i64 mx, .bool bare] 27)).alloc (.cells #[.int .i64 0, .map none, .map none] 116)).alloc (.map #[] 0)).alloc (.map #[] 0)).heap.size ((((y.alloc (.cells #[.int .i64 kind, .int .u64 s0, .int .u64 s1', .int .u64 s2, .int .u64 s3, .slice A l.length c, .int .i64 num, .int .i64 mn, .int .i64 mx, .bool bare] 27)).alloc (.cells #[.int .i64 0, .map none, .map none] 116)).alloc (.map #[] 0)).alloc (.map #[] 0))).alloc (Nat.le_refl _) (.cells #[.int .i64 0, .map (some (y.heap.size + 1 + 1)), .map (some (y.heap.size + 1 + 1 + 1))] 116)
  have hbx := Blk.new ((((y.alloc (.cells #[.int .i64 kind, .int .u64 s0, .int .u64 s1', .int .u64 s2, .int .u64 s3, .slice A l.length c, .int .i64 num, .int .i64 mn, .int .i64 mx, .bool bare] 27)).alloc (.cells #[.int .i64 0, .map none, .map none] 116)).alloc (.map #[] 0)).alloc (.map #[] 0)) 116 #[.int .i64 0, .map (some (y.heap.size + 1 + 1)), .map (some (y.heap.size + 1 + 1 + 1))]
  rw [hsz4'] at hbx
  have HX := hide (XP.mk (gm := gm) (N := N) (B0 := B0) (rows := rows) (sv := sv) (fv := fv) (y := y) (x := ptOf 0) (f := y.heap.size + 1 + 1) (l := y.heap.size + 1 + 1 + 1) (H0.out.1.next (by omega) (by omega) hal) ⟨H0.out.2.2.2.1.next hal, H0.out.2.2.2.2.next hal, by omega, fun h => by have := HRY.out _ h; omega, fun h => by have := HRY.out _ h; omega, by omega, by omega⟩ (H0.out.2.1.nxt hal) (H0.out.2.2.1.nxt hal) hbx (by omega) (by omega) (by omega) (by omega))
  clear hal hbx H0 hsz4 hsz4'
  generalize (((((y.alloc (.cells #[.int .i64 kind, .int .u64 s0, .int .u64 s1', .int .u64 s2, .int .u64 s3, .slice A l.length c, .int .i64 num, .int .i64 mn, .int .i64 mx, .bool bare] 27)).alloc (.cells #[.int .i64 0, .map none, .map none] 116)).alloc (.map #[] 0)).alloc (.map #[] 0)).alloc (.cells #[.int .i64 0, .map (some (y.heap.size + 1 + 1)), .map (some (y.heap.size + 1 + 1 + 1))] 116)) = W0 at *
  generalize y.heap.size + 1 + 1 + 1 + 1 = gx at *
  generalize y.heap.size + 1 + 1 + 1 = gl at *
  generalize y.heap.size + 1 + 1 = gf at *
  have hk := HKK.out
  subst hk
  have hRe : R = TL.posSeq l (ptOf 15) s := by rw [HR.out]; simp [T.pos]
  rw [hRe] at hlen
  have HRE := hide hRe
  clear hRe
  have hx1 := HX.out.size
  have hx2 := HX.out.gxy
  have HC := hide (posSeq_any gm N B0 hN 5 s0 s1' s2 s3 num mn mx bare l ih hll A c y W0 s rows rows sv fv sv fv gf gl (y.heap.size + 1) HIN.out hB0 (by omega) HX.out.nx HEQ.out HX.out.mp HX.out.br hlen)
  have c0 := HX.out.bt.cell
  have cx := HX.out.bx.cell
  simp only [partCells, ptOf] at cx
  go_wp2_with fail
  refine HC.out.mono ?_
  rintro e w2 ⟨l2, rows2, sv2, fv2, he, hnx2, hmp2, heq2, hq2⟩
  simp only [partCells] at he
  subst he
  have H2 := hide (And.intro hnx2 (And.intro hmp2 (And.intro heq2 hq2)))
  clear hnx2 hmp2 heq2 hq2 HC c0 cx
  go_wp2_with (refine wpList_store_row rfl _ _ _ rfl (y.heap.size + 1) 0 _ _ _ rfl rfl H2.out.2.2.2 Tryd.sizePosPart (by simp) (by simp [Value.oneCell']) ?_)
  intro w9 hrow2 hg9 hz9
  have hrow := hrow2.out
  rw [splice_full (by rfl)] at hrow
  have hs9 := same_grew hg9
  have hb9 := below_grew H2.out.1.below hg9 hB0 (fun q hq => by rw [← Option.some.inj hq]; omega)
  have HF := hide (And.intro hrow (And.intro (H2.out.1.turn H2.out.2.2.2 (by decide) (by decide) (by decide) (by omega) hs9 hb9) (H2.out.2.1.turn H2.out.2.2.2 hs9)))
  clear hrow hrow2 hg9 hz9 hs9 hb9
  go_wp2_with fail
  refine bodyPost_ret (results_cell_row rfl _ _ (y.heap.size + 1) _ _ (0, 0) _ rfl HF.out.1 Tryd.underlying116 rfl Tryd.sizePosPart) rfl ?_
  have hRe := HRE.out
  rw [hRe]
  exact ⟨gf, l2, rows2, sv2, fv2, rfl, HF.out.2.1, HF.out.2.2, H2.out.2.2.1⟩
theorem posOf_any (gm N B0 : Nat) (hN : N ≤ 900000) (hgm : B0 ≤ gm) (K : Nat) : ∀ t : T, t.nodes ≤ K → K ≤ 900000 → t.reps → PosC gm N B0 t := by
  induction K with
  | zero => intro t h; have := t.nodes_pos; omega
  | succ K ih =>
    intro t hK hK2 hr
    obtain ⟨⟨kind, s0, s1', s2, s3, num, mn, mx, bare⟩, l⟩ := t
    have hlen := TL.length_le l
    simp only [T.nodes] at hK
    simp only [T.reps] at hr
    have ih' : ∀ t ∈ l, PosC gm N B0 t := fun t ht => ih t (by have := TL.nodes_mem ht; omega) (by omega) (TL.reps_mem hr.2 t ht)
    by_cases h1 : kind = 1
    · exact posOf_leaf gm N B0 hN hgm _ _ _ _ _ _ _ _ _ l (.inl h1) (by omega)
    by_cases h3 : kind = 3
    · exact posOf_leaf gm N B0 hN hgm _ _ _ _ _ _ _ _ _ l (.inr (.inl h3)) (by omega)
    by_cases h4 : kind = 4
    · exact posOf_leaf gm N B0 hN hgm _ _ _ _ _ _ _ _ _ l (.inr (.inr h4)) (by omega)
    by_cases h2 : kind = 2
    · exact posOf_bytes gm N B0 hN hgm _ _ _ _ _ _ _ _ _ l h2 (by omega)
    by_cases h5 : kind = 5
    · exact posOf_row gm N B0 hN hgm _ _ _ _ _ _ _ _ _ l h5 ih' (by omega)
    by_cases h8 : kind = 8
    · exact posOf_rep gm N B0 hN hgm _ _ _ _ _ _ _ _ _ l h8 (hr.1 h8) ih' (by omega)
    · exact posOf_alt gm N B0 hN hgm _ _ _ _ _ _ _ _ _ l ⟨h1, h3, h4, h2, h5, h8⟩ ih' (by omega)
end Go.Proofs.YtbbhobojghmkpaaDoor
