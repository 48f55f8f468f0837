/- trawlref17.Maker.of, walked. (Printed by gen_of17b.py.) -/
import Derived.Test.YtbbhobojghmkpaaDoorOf17
import Derived.Test.YtbbhobojghmkpaaDoorRefLeaves
set_option linter.unusedSimpArgs false
set_option linter.unusedVariables false
namespace Go.Proofs.YtbbhobojghmkpaaDoor
open Go.RowKit

theorem node17_len (h : Hd) (ps : List Pt) (s : St) : (node17 h ps s).2.S.length = s.S.length + if h.kind = 2 then 1 else 0 := by
  unfold node17
  by_cases h2 : h.kind = 2
  · simp [h2]
  · rw [if_neg h2, if_neg h2, Nat.add_zero]
    repeat' split
    all_goals first | rfl | skip
    unfold repPt17
    split
    · rfl
    · split <;> rfl
mutual
theorem T.of17_len : ∀ (t : T) (s : St), (t.of17 s).2.S.length = s.S.length + t.leaves
  | .mk h l, s => by simp only [T.of17, T.leaves]; rw [node17_len, TL.of17_len l s]; omega
theorem TL.of17_len : ∀ (l : List T) (s : St), (TL.of17 l s).2.S.length = s.S.length + TL.leaves l
  | [], s => rfl
  | t :: l, s => by simp only [TL.of17, TL.leaves]; rw [TL.of17_len l _, T.of17_len t s]; omega
end

/-- The blocks that of leaves alone. -/
def Fr17 (gm N : Nat) (rows : Nat → Nat) (sv : Value) (y : World) (b : Nat) : Prop := b < y.heap.size ∧ b ≠ gm ∧ (∀ i, i < N → b ≠ rows i) ∧ sv.ownBlock ≠ some b

theorem innerGo_nil (l : Nat → Nat) (b : Nat) (M : Nat → Nat → Nat) : innerGo l [] b M = (b, M) := rfl
theorem innerGo_zero (l : Nat → Nat) : ∀ (qs : List Pt) (M : Nat → Nat → Nat), innerGo l qs 0 M = (0, M)
  | [], M => rfl
  | q :: qs, M => by simp [innerGo]

/-- Where the walk stands behind k of the subs. -/
structure Mid17 (gm N fb fc : Nat) (rows : Nat → Nat) (B0 : Nat) (s : St) (sv : Value) (l : List T) (y : World) (ct : Array Value) (k : Nat) (ps : List PtA) (vv sv1 : Value) (wr : World) : Prop where
  own : OwnPt N (y.heap.size + 2) wr vv ps
  pts : ps.map (·.pt) = (TL.of17 (l.take k) s).1
  at_ : MkAt wr gm N fb fc rows sv1 (TL.of17 (l.take k) s).2.M B0 (TL.of17 (l.take k) s).2.S
  rws : PtsAt wr N (y.heap.size + 2) ps
  below : Below B0 y wr
  same : Same (Fr17 gm N rows sv y) y wr
  svb : ∀ h, sv1.ownBlock = some h → sv.ownBlock = some h ∨ y.heap.size ≤ h
  box : Blk wr y.heap.size 27 ct
  res : Blk wr (y.heap.size + 1) 126 #[.int .i64 0, .slice none 0 0, .slice none 0 0]

theorem MkAt.ne_int {w : World} {gm N fb fc : Nat} {rows : Nat → Nat} {sv : Value} {M : Nat → Nat → Nat} {B0 : Nat} {S : List Se} (h : MkAt w gm N fb fc rows sv M B0 S) {g : Nat} {t : TypeId} {cs : Array Value} (hb : Blk w g t cs) (h1 : t ≠ 123) (h2 : t ≠ 3) (h3 : t ≠ 24) : g ≠ gm ∧ (∀ i, i < N → g ≠ rows i) ∧ sv.ownBlock ≠ some g := by
  refine ⟨hb.ne_type h.box h1, fun i hi => ?_, fun e => ?_⟩
  · obtain ⟨r, hr, _⟩ := h.row i hi
    exact hb.ne_type hr h2
  · rcases h.sets.2 with ⟨e1, _⟩ | ⟨g2, cap, cur, e1, _, hg, _⟩
    · rw [e1] at e; cases e
    · rw [e1] at e
      obtain rfl : g2 = g := by simpa [Value.ownBlock] using e
      exact Blk.ne_type hb (show Blk w g2 24 cur from hg) h3 rfl
theorem MkAt.sv_ne {w : World} {gm N fb fc : Nat} {rows : Nat → Nat} {sv : Value} {M : Nat → Nat → Nat} {B0 : Nat} {S : List Se} (h : MkAt w gm N fb fc rows sv M B0 S) {g n : Nat} {f : Nat → Nat} (hb : InRow w g n f) : g ≠ gm ∧ sv.ownBlock ≠ some g := by
  obtain ⟨r, hr, _⟩ := hb
  refine ⟨hr.ne_type h.box (by decide), fun e => ?_⟩
  rcases h.sets.2 with ⟨e1, _⟩ | ⟨g2, cap, cur, e1, _, hg, _⟩
  · rw [e1] at e; cases e
  · rw [e1] at e
    obtain rfl : g2 = g := by simpa [Value.ownBlock] using e
    exact Blk.ne_type hr (show Blk w g2 24 cur from hg) (by decide) rfl
theorem PtsAt.same {w w' : World} {N lo : Nat} {ps : List PtA} {ok : Nat → Prop} (h : PtsAt w N lo ps) (hs : Same ok w w') (hk : ∀ g f, InRow w g N f → lo ≤ g → ok g) : PtsAt w' N lo ps := fun x hx => by
  obtain ⟨h1, h2, h3, h4, h5⟩ := h x hx
  exact ⟨h1, h2.same hs (hk _ _ h2 h4), h3.same hs (hk _ _ h3 h5), h4, h5⟩

theorem OwnPt.blk {N base : Nat} {w : World} {v : Value} {l : List PtA} (h : OwnPt N base w v l) : ∀ g, v.ownBlock = some g → ∃ cur, Blk w g 126 cur ∧ base ≤ g := fun g hg => by
  rcases h.2 with ⟨e1, _⟩ | ⟨g2, cap, cur, e1, hb, hb2, _⟩
  · rw [e1] at hg; cases hg
  · rw [e1] at hg
    obtain rfl : g2 = g := by simpa [Value.ownBlock] using hg
    exact ⟨cur, hb2, hb⟩
theorem OwnPt.free {N base gm fb fc B0 : Nat} {rows : Nat → Nat} {sv : Value} {M : Nat → Nat → Nat} {S : List Se} {w : World} {v : Value} {l : List PtA} (h : OwnPt N base w v l) (hm : MkAt w gm N fb fc rows sv M B0 S) : ∀ g, v.ownBlock = some g → Fr17 gm N rows sv w g := fun g hg => by
  obtain ⟨cur, hb, _⟩ := h.blk g hg
  obtain ⟨h1, h2, h3⟩ := hm.ne_int hb (by decide) (by decide) (by decide)
  exact ⟨hb.lt, h1, h2, h3⟩
theorem MkAt.grew {w w' : World} {gm N fb fc : Nat} {rows : Nat → Nat} {sv : Value} {M : Nat → Nat → Nat} {B0 : Nat} {S : List Se} (h : MkAt w gm N fb fc rows sv M B0 S) {base : Nat} {v : Value} {l : List PtA} (ho : OwnPt N base w v l) (hs : Same (fun b => b < w.heap.size ∧ v.ownBlock ≠ some b) w w') : MkAt w' gm N fb fc rows sv M B0 S := by
  have key : ∀ g, v.ownBlock = some g → Fr17 gm N rows sv w g := ho.free h
  refine h.same hs ⟨h.box.lt, fun e => (key _ e).2.1 rfl⟩ (fun h0 => ?_) (fun i hi => ⟨(h.row i hi).lt, fun e => (key _ e).2.2.1 i hi rfl⟩) (fun g hg => ⟨(World.ownsRow.lt h.sets g hg).2, fun e => (key _ e).2.2.2 hg⟩)
  obtain ⟨row, hr, hrn⟩ := h.fol h0
  refine ⟨hr.lt, fun e => ?_⟩
  obtain ⟨cur, hb, _⟩ := ho.blk _ e
  exact hb.ne_type hr (by decide) rfl

theorem Tryd.infoSet : (Tryd.prog.info? 24).map (fun i => (i.zero, i.size, i.bytes)) = some (some (.agg #[.int .u64 0, .int .u64 0, .int .u64 0, .int .u64 0]), 4, 32) := by kernel_rfl
section
variable {w : World} {ops : Array Oper} {rest : List Oper} {o : Oper} {a : Act} {Q : Exit → Act → World → Prop}
theorem wpList_append_set (hgd : o.guard = none) (s x : Operand) (ho : o.op = .call { callee := .builtin .append, args := #[s, x], argTypes := #[71, 71] })
    (base : Nat) (v : Value) (l : List Se) (hs : a.eval s = v) (hg : w.ownsRow base 24 4 v l.length (l.flatMap Se.cells)) (e : Se) (g cap : Nat)
    (hx : a.eval x = .slice (some ⟨g, 0, none⟩) 1 cap) (hb : Blk w g 24 (Se.cells e).toArray) (hl : l.length < 1000000) (hbase : base ≤ w.heap.size)
    (h : ∀ v' w', w'.ownsRow base 24 4 v' (l ++ [e]).length ((l ++ [e]).flatMap Se.cells) → w.grownBy w' v.ownBlock → (v'.ownBlock = v.ownBlock ∨ v'.ownBlock = some w.heap.size) → (∃ A c, v' = .slice A (l.length + 1) c) → wpList Tryd.prog ops Q rest (a.put o.dst v') w') : wpList Tryd.prog ops Q (o :: rest) a w := by
  obtain ⟨i, hi, hz0, hz1, hz2⟩ := info_parts Tryd.infoSet
  refine wpList_append_own_at w hgd s x 71 ho base 24 i _ 4 32 Tryd.underlying71 hi hz0 hz1 hz2 rfl (by decide) v l.length _ hs hg ⟨g, 0, none⟩ 1 cap (Se.cells e) hx rfl ?_ (by simp [Value.oneCell', Se.cells]) (by simp only [maxLen]; omega) (by omega) hbase ?_
  · intro j u hu
    rw [Addr.add_lit, Nat.zero_add, hb.cell]
    simpa using hu
  intro v' w' hown hgr _ h4
  refine h v' w' ?_ hgr h4 ?_
  · simpa [List.flatMap_append] using hown
  · rcases hown.2 with ⟨_, h0⟩ | ⟨g, cap, cur, e, _⟩
    · omega
    · exact ⟨_, _, e⟩
end
theorem sets_form {w : World} {base : Nat} {v : Value} {S : List Se} (h : w.ownsRow base 24 4 v S.length (S.flatMap Se.cells)) : ∃ A c, v = .slice A S.length c := by
  rcases h.2 with ⟨e, h0⟩ | ⟨g, cap, cur, e, _⟩
  · exact ⟨none, 0, by rw [e, h0]⟩
  · exact ⟨_, _, e⟩

/-- Behind the subs: the part that is made, x, in block gx. -/
structure XAt17 (gm N fb fc : Nat) (rows : Nat → Nat) (B0 : Nat) (s : St) (sv : Value) (l : List T) (y : World) (ct : Array Value) (ps : List PtA) (vv sv1 : Value) (M : Nat → Nat → Nat) (S : List Se) (x : PtA) (gx : Nat) (wr : World) : Prop where
  own : OwnPt N (y.heap.size + 2) wr vv ps
  pts : ps.map (·.pt) = (TL.of17 l s).1
  at_ : MkAt wr gm N fb fc rows sv1 M B0 S
  rws : PtsAt wr N (y.heap.size + 2) ps
  part : PtsAt wr N (y.heap.size + 2) [x]
  below : Below B0 y wr
  same : Same (Fr17 gm N rows sv y) y wr
  svb : ∀ h, sv1.ownBlock = some h → sv.ownBlock = some h ∨ y.heap.size ≤ h
  box : Blk wr y.heap.size 27 ct
  res : Blk wr (y.heap.size + 1) 126 #[.int .i64 0, .slice none 0 0, .slice none 0 0]
  xbx : Blk wr gx 126 (PtA.cells N x).toArray
  low : y.heap.size + 2 ≤ gx
  vne : ∀ h, vv.ownBlock = some h → h ≠ gx

theorem MkAt.keep {w w' : World} {gm N fb fc : Nat} {rows : Nat → Nat} {sv : Value} {M : Nat → Nat → Nat} {B0 : Nat} {S : List Se} (h : MkAt w gm N fb fc rows sv M B0 S) {g n : Nat} {f : Nat → Nat} (hr : InRow w g n f) (hl : ∀ i, i < N → rows i ≠ g) (hs : Same (· ≠ g) w w') : MkAt w' gm N fb fc rows sv M B0 S := by
  have hr0 := hr
  obtain ⟨r, hr2, _⟩ := hr0
  exact h.same hs (h.box.ne_type hr2 (by decide)) (fun h0 => by obtain ⟨row, hf, _⟩ := h.fol h0; exact hf.ne_type hr2 (by decide)) hl fun k hk e => (h.sv_ne hr).2 (e ▸ hk)

section
variable {gm N fb fc : Nat} {rows : Nat → Nat} {B0 : Nat} {s : St} {sv : Value} {l : List T} {y : World} {ct : Array Value} {ps : List PtA} {vv sv1 : Value} {M : Nat → Nat → Nat} {S : List Se} {x : PtA} {gx : Nat} {w w6 : World}
theorem XAt17.push (h : XAt17 gm N fb fc rows B0 s sv l y ct ps vv sv1 M S x gx w) (hrl : ∀ i, i < N → rows i < y.heap.size) (hyw : y.heap.size ≤ w.heap.size) {sv' : Value} {e : Se} (hs : Same (fun b => b < w.heap.size ∧ sv1.ownBlock ≠ some b ∧ b ≠ gm) w w6) (hb : Below B0 w w6) (hbox : Blk w6 gm 123 #[.int .i64 (N : Int), sv', folV N fb fc]) (hsets : w6.ownsRow B0 24 4 sv' (S ++ [e]).length ((S ++ [e]).flatMap Se.cells))
    (hsv : ∀ k, sv'.ownBlock = some k → sv1.ownBlock = some k ∨ w.heap.size ≤ k) : XAt17 gm N fb fc rows B0 s sv l y ct ps vv sv' M (S ++ [e]) x gx w6 := by
  have hin : ∀ (g : Nat) (f : Nat → Nat), InRow w g N f → g < w.heap.size ∧ sv1.ownBlock ≠ some g ∧ g ≠ gm := fun g f hg => ⟨hg.lt, (h.at_.sv_ne hg).2, (h.at_.sv_ne hg).1⟩
  have hot : ∀ {g : Nat} {t : TypeId} {cs : Array Value}, Blk w g t cs → t ≠ 123 → t ≠ 3 → t ≠ 24 → g < w.heap.size ∧ sv1.ownBlock ≠ some g ∧ g ≠ gm := fun hg h1 h2 h3 => ⟨hg.lt, (h.at_.ne_int hg h1 h2 h3).2.2, (h.at_.ne_int hg h1 h2 h3).1⟩
  exact ⟨h.own.same hs fun g hg => by obtain ⟨cur, hb, _⟩ := h.own.blk g hg; exact hot hb (by decide) (by decide) (by decide), h.pts,
    ⟨hbox, fun h0 => (by obtain ⟨row, hr, hrn⟩ := h.at_.fol h0; exact ⟨row, hr.same hs (hot hr (by decide) (by decide) (by decide)), hrn⟩), fun i hi => (h.at_.row i hi).same hs (hin _ _ (h.at_.row i hi)), h.at_.inj, h.at_.small, h.at_.low, hsets⟩,
    h.rws.same hs fun g f hg _ => hin g f hg, h.part.same hs fun g f hg _ => hin g f hg, h.below.trans hb,
    h.same.trans (hs.mono fun b hb => ⟨Nat.lt_of_lt_of_le hb.1 hyw, fun e => by
      rcases h.svb b e with h9 | h9
      · exact hb.2.2.2 h9
      · have := hb.1; omega, hb.2.1⟩),
    fun k hk => by
      rcases hsv k hk with h9 | h9
      · exact h.svb k h9
      · exact .inr (by omega),
    h.box.same hs (hot h.box (by decide) (by decide) (by decide)), h.res.same hs (hot h.res (by decide) (by decide) (by decide)), h.xbx.same hs (hot h.xbx (by decide) (by decide) (by decide)), h.low, h.vne⟩
theorem XAt17.next (h : XAt17 gm N fb fc rows B0 s sv l y ct ps vv sv1 M S x gx w) (hB : B0 ≤ w.heap.size) (hy : y.heap.size ≤ w.heap.size) (hb : Below w.heap.size w w6) : XAt17 gm N fb fc rows B0 s sv l y ct ps vv sv1 M S x gx w6 :=
  ⟨h.own.below hb (Nat.le_refl _), h.pts, h.at_.next hb, h.rws.same (same_of_below hb) fun g f hg _ => hg.lt, h.part.same (same_of_below hb) fun g f hg _ => hg.lt, h.below.trans (hb.mono hB), h.same.trans ((same_of_below hb).mono fun b hb => Nat.lt_of_lt_of_le hb.1 hy), h.svb, h.box.nxt hb, h.res.nxt hb, h.xbx.nxt hb, h.low, h.vne⟩
theorem XAt17.put (h : XAt17 gm N fb fc rows B0 s sv l y ct ps vv sv1 M S x gx w) (hB : B0 ≤ y.heap.size) (j : Nat) (v : Value) {x' : PtA} (hc : ((PtA.cells N x).toArray.setIfInBounds j v) = (PtA.cells N x').toArray) (hp : PtsAt w N (y.heap.size + 2) [x']) : XAt17 gm N fb fc rows B0 s sv l y ct ps vv sv1 M S x' gx (w.setCell ⟨gx, j, none⟩ v) := by
  have hs : Same (· ≠ gx) w (w.setCell ⟨gx, j, none⟩ v) := (Same.refl _ _).set (fun h => h rfl) _
  have hin : ∀ (g : Nat) (f : Nat → Nat), InRow w g N f → g ≠ gx := fun g f hg => by obtain ⟨r, hr, _⟩ := hg; exact hr.ne_type h.xbx (by decide)
  have hx := h.at_.ne_int h.xbx (by decide) (by decide) (by decide)
  have hl := h.low
  exact ⟨h.own.same hs h.vne, h.pts, h.at_.same hs (fun e => hx.1 e.symm) (fun h0 => by obtain ⟨row, hr, _⟩ := h.at_.fol h0; exact hr.ne_type h.xbx (by decide)) (fun i hi e => hx.2.1 i hi e.symm) (fun k hk e => hx.2.2 (e ▸ hk)), h.rws.same hs fun g f hg _ => hin g f hg, hp.same hs fun g f hg _ => hin g f hg,
    h.below.setCell (by simp only; omega) _, h.same.set (fun e => by have h1 : gx < y.heap.size := e.1; omega) _, h.svb, h.box.far (by simp only; omega) _, h.res.far (by simp only; omega) _, hc ▸ heap_setCell_same w gx j _ _ _ h.xbx, h.low, h.vne⟩
theorem XAt17.row (h : XAt17 gm N fb fc rows B0 s sv l y ct ps vv sv1 M S x gx w) (hB : B0 ≤ y.heap.size) {x' : PtA} (hs : Same (fun b => b < w.heap.size ∧ b ≠ gx) w w6) (hb : Below B0 w w6) (hbx : Blk w6 gx 126 (PtA.cells N x').toArray) (hp : PtsAt w N (y.heap.size + 2) [x']) : XAt17 gm N fb fc rows B0 s sv l y ct ps vv sv1 M S x' gx w6 := by
  have hin : ∀ (g : Nat) (f : Nat → Nat), InRow w g N f → g < w.heap.size ∧ g ≠ gx := fun g f hg => ⟨hg.lt, by obtain ⟨r, hr, _⟩ := hg; exact hr.ne_type h.xbx (by decide)⟩
  have hx := h.at_.ne_int h.xbx (by decide) (by decide) (by decide)
  have hl := h.low
  exact ⟨h.own.same hs (fun g hg => ⟨(World.ownsRow.lt h.own g hg).2, h.vne g hg⟩), h.pts, h.at_.same hs ⟨h.at_.box.lt, fun e => hx.1 e.symm⟩ (fun h0 => by obtain ⟨row, hr, _⟩ := h.at_.fol h0; exact ⟨hr.lt, hr.ne_type h.xbx (by decide)⟩) (fun i hi => ⟨(h.at_.row i hi).lt, fun e => hx.2.1 i hi e.symm⟩) (fun k hk => ⟨(World.ownsRow.lt h.at_.sets k hk).2, fun e => hx.2.2 (e ▸ hk)⟩), h.rws.same hs fun g f hg _ => hin g f hg, hp.same hs fun g f hg _ => hin g f hg,
    h.below.trans hb, h.same.trans (hs.mono fun b hb => ⟨by have := hb.1; have := h.xbx.lt; omega, by have := hb.1; omega⟩), h.svb, h.box.same hs ⟨h.box.lt, by omega⟩, h.res.same hs ⟨h.res.lt, by omega⟩, hbx, h.low, h.vne⟩
theorem XAt17.fin (h : XAt17 gm N fb fc rows B0 s sv l y ct ps vv sv1 M S x gx w) (hrl : ∀ i, i < N → rows i < y.heap.size) (hgm : gm < y.heap.size) (hfb : 0 < N → fb < y.heap.size) {r : Pt × St} (hr : r = (x.pt, ⟨S, M⟩)) (hyw : y.heap.size + 2 ≤ w.heap.size) (hs : Same (fun b => b < w.heap.size ∧ b ≠ y.heap.size + 1) w w6) (hb : Below B0 y w6) : Of17 gm N fb fc rows B0 s sv r y x sv1 w6 := by
  subst hr
  refine ⟨rfl, h.at_.same hs ⟨h.at_.box.lt, by omega⟩ (fun h0 => by have := hfb h0; exact ⟨by omega, by omega⟩) (fun i hi => ⟨by have := hrl i hi; omega, by have := hrl i hi; omega⟩) (fun k hk => ⟨(World.ownsRow.lt h.at_.sets k hk).2, fun e => (h.at_.ne_int h.res (by decide) (by decide) (by decide)).2.2 (e ▸ hk)⟩), fun z hz => ?_, hb, h.svb, h.same.trans (hs.mono fun b h => ⟨by have := h.1; omega, by have := h.1; omega⟩)⟩
  obtain ⟨h1, h2, h3, h4, h5⟩ := h.part z hz
  exact ⟨h1, h2.same hs ⟨h2.lt, by omega⟩, h3.same hs ⟨h3.lt, by omega⟩, by omega, by omega⟩
theorem XAt17.led (h : XAt17 gm N fb fc rows B0 s sv l y ct ps vv sv1 M S x gx w) (hrl : ∀ i, i < N → rows i < y.heap.size) (hy : y.heap.size ≤ w.heap.size) {M' : Nat → Nat → Nat} (hd : Led17 gm N fb fc rows sv1 M' B0 S w w6) : XAt17 gm N fb fc rows B0 s sv l y ct ps vv sv1 M' S x gx w6 := by
  have hot : ∀ {g : Nat} {t : TypeId} {cs : Array Value}, Blk w g t cs → t ≠ 3 → g < w.heap.size ∧ ∀ i, i < N → g ≠ rows i := fun hg h2 => ⟨hg.lt, fun i hi => by
    obtain ⟨r, hr, _⟩ := h.at_.row i hi
    exact hg.ne_type hr h2⟩
  have hin : ∀ (g : Nat) (f : Nat → Nat), InRow w g N f → y.heap.size + 2 ≤ g → g < w.heap.size ∧ ∀ i, i < N → g ≠ rows i := fun g f hg hl => ⟨hg.lt, fun i hi e => by have := hrl i hi; omega⟩
  exact ⟨h.own.same hd.same fun g hg => by obtain ⟨cur, hb, _⟩ := h.own.blk g hg; exact hot hb (by decide), h.pts, hd.at_, h.rws.same hd.same hin, h.part.same hd.same hin, h.below.trans hd.below,
    h.same.trans (hd.same.mono fun b hb => ⟨Nat.lt_of_lt_of_le hb.1 hy, hb.2.2.1⟩), h.svb, h.box.same hd.same (hot h.box (by decide)), h.res.same hd.same (hot h.res (by decide)), h.xbx.same hd.same (hot h.xbx (by decide)), h.low, h.vne⟩
theorem OwnPt.at_ {base n c i : Nat} {A : Option Addr} {l : List PtA} {e : PtA} (h : OwnPt N base w (.slice A n c) l) (hi : l[i]? = some e) : ∃ g, A = some ⟨g, 0, none⟩ ∧ g < w.heap.size ∧ w.cell? ⟨g, i * 3, none⟩ = some (.int .i64 ((e.pt.null : Nat) : Int)) ∧ w.cell? ⟨g, i * 3 + 1, none⟩ = some (.slice (some ⟨e.f, 0, none⟩) N N) ∧ w.cell? ⟨g, i * 3 + 2, none⟩ = some (.slice (some ⟨e.l, 0, none⟩) N N) := by
  obtain ⟨A2, c2, e2, hc⟩ := h.form
  injection e2 with e2 _ _
  subst e2
  obtain ⟨g, h1, _, h2, h3, h4, h5⟩ := hc i e hi
  exact ⟨g, h1, h2, h3, h4, h5⟩
end

set_option maxRecDepth 100000 in
set_option maxHeartbeats 8000000 in
theorem of17_any (gm N fb fc B0 : Nat) (rows : Nat → Nat) (hN : N ≤ 900000) (hgm : B0 ≤ gm) (K : Nat) : ∀ (t : T) (A : Option Addr) (c : Nat) (y : World) (s : St) (sv : Value), t.nodes ≤ K → K ≤ 900000 → t.three → T.In y (· < B0) t A → B0 ≤ y.heap.size → MkAt y gm N fb fc rows sv s.M B0 s.S → s.S.length + t.leaves ≤ N →
    Calls Tryd.prog 96 #[.pointer (some ⟨gm, 0, none⟩), .agg (t.hd.cells (.slice A t.subs.length c)).toArray] y (OfPost gm N fb fc rows B0 s sv (t.of17 s) y) := by
  induction K with
  | zero => intro t A c y s sv h; have := t.nodes_pos; omega
  | succ K ih =>
    intro t A c y s sv hK hK2 h3 hin hB0 hmk hlv
    obtain ⟨⟨kind, s0, s1', s2, s3, num, mn, mx, bare⟩, l⟩ := t
    have hlen := T.length_lt (T.mk ⟨kind, s0, s1', s2, s3, num, mn, mx, bare⟩ l)
    simp only [T.nodes] at hK
    simp only [T.three] at h3
    simp only [T.leaves] at hlv
    obtain ⟨hk3, hl3⟩ := h3
    simp only [T.nodes, T.hd, T.subs, Hd.cells] at hlen ⊢
    have HOF := hide (show (T.mk ⟨kind, s0, s1', s2, s3, num, mn, mx, bare⟩ l).of17 s = node17 ⟨kind, s0, s1', s2, s3, num, mn, mx, bare⟩ (TL.of17 l s).1 (TL.of17 l s).2 from rfl)
    generalize (T.mk ⟨kind, s0, s1', s2, s3, num, mn, mx, bare⟩ l).of17 s = R at *
    have HLV := hide hlv
    have HIN := hide (And.intro hin hl3)
    have HMK := hide hmk
    have hgl := hmk.box.lt
    have hrl : ∀ i, i < N → rows i < y.heap.size := fun i hi => (hmk.row i hi).lt
    have HRL := hide hrl
    have hfl : 0 < N → fb < y.heap.size := fun h0 => by obtain ⟨r, hr, _⟩ := hmk.fol h0; exact hr.lt
    have hb1 := ((Below.refl y.heap.size y).alloc (Nat.le_refl _) (.cells #[.int .i64 kind, .int .u64 s0, .int .u64 s1', .int .u64 s2, .int .u64 s3, .slice A l.length c, .int .i64 num, .int .i64 mn, .int .i64 mx, .bool bare] 27)).alloc (by simp) (.cells #[.int .i64 0, .slice none 0 0, .slice none 0 0] 126)
    have hbx := (Blk.new y 27 #[.int .i64 kind, .int .u64 s0, .int .u64 s1', .int .u64 s2, .int .u64 s3, .slice A l.length c, .int .i64 num, .int .i64 mn, .int .i64 mx, .bool bare]).alloc (.cells #[.int .i64 0, .slice none 0 0, .slice none 0 0] 126)
    have hbr := Blk.new (y.alloc (.cells #[.int .i64 kind, .int .u64 s0, .int .u64 s1', .int .u64 s2, .int .u64 s3, .slice A l.length c, .int .i64 num, .int .i64 mn, .int .i64 mx, .bool bare] 27)) 126 #[.int .i64 0, .slice none 0 0, .slice none 0 0]
    rw [World.size_alloc] at hbr
    have hsz : y.heap.size + 2 ≤ ((y.alloc (.cells #[.int .i64 kind, .int .u64 s0, .int .u64 s1', .int .u64 s2, .int .u64 s3, .slice A l.length c, .int .i64 num, .int .i64 mn, .int .i64 mx, .bool bare] 27)).alloc (.cells #[.int .i64 0, .slice none 0 0, .slice none 0 0] 126)).heap.size := by simp
    have H0 := hide (Mid17.mk (s := s) (sv := sv) (l := l) (k := 0) (sv1 := sv) (OwnPt.nil N (y.heap.size + 2) _) rfl (hmk.next hb1) (fun x hx => by cases hx) (hb1.mono hB0) ((same_of_below hb1).mono fun b h => h.1) (fun h hh => .inl hh) hbx hbr)
    clear hin hl3 hmk hlv hrl hb1 hbx hbr
    go_enter Tryd.func96, Tryd.ntmps96
    go_wp2_with fail
    generalize ((y.alloc (.cells #[.int .i64 kind, .int .u64 s0, .int .u64 s1', .int .u64 s2, .int .u64 s3, .slice A l.length c, .int .i64 num, .int .i64 mn, .int .i64 mx, .bool bare] 27)).alloc (.cells #[.int .i64 0, .slice none 0 0, .slice none 0 0] 126)) = Y at *
    go_loopw [5, 6] (fun vv iv wr => ∃ (k : Nat) (ps : List PtA) (sv1 : Value), iv = .int .i64 k ∧ k ≤ l.length ∧ Mid17 gm N fb fc rows B0 s sv l y #[.int .i64 kind, .int .u64 s0, .int .u64 s1', .int .u64 s2, .int .u64 s3, .slice A l.length c, .int .i64 num, .int .i64 mn, .int .i64 mx, .bool bare] k ps vv sv1 wr ∧ y.heap.size + 2 ≤ wr.heap.size) (fun _ iv _ => l.length - (intOf iv).toNat)
    case atStart => exact ⟨0, [], sv, rfl, by omega, H0.out, hsz⟩
    case round =>
      clear H0
      obtain ⟨k, ps, sv1, rfl, hk, hmid, hsw⟩ := hrel
      have HM := hide hmid
      have c0 := hmid.box.cell
      clear hmid
      by_cases hlt : k < l.length
      · have g1 : decide ((k : Int) < (l.length : Int)) = true := decide_eq_true (by omega)
        have hs := List.getElem?_eq_getElem hlt
        have htk : l.take (k + 1) = l.take k ++ [l[k]] := by rw [List.take_add_one, hs]; rfl
        obtain ⟨b, o, B, c', rfl, hbk, hcs, hsub⟩ := TL.In.at_ (T.In_iff.1 HIN.out.1) hs
        have hsn := TL.nodes_mem (List.getElem_mem hlt)
        have hst := TL.three_mem HIN.out.2 _ (List.getElem_mem hlt)
        have hlv2 : (TL.of17 (l.take k) s).2.S.length + l[k].leaves ≤ N := by
          rw [TL.of17_len]
          have h1 := TL.leaves_take l (k + 1)
          rw [htk, TL.leaves_snoc] at h1
          have := HLV.out
          omega
        generalize l[k] = t at *
        have hcs' := hcs.same (same_of_below HM.out.below) hbk
        have hsub' := hsub.same (ok' := (· < B0)) (same_of_below HM.out.below) (fun y h => h)
        obtain ⟨n0, n1, n2, n3, n4, n5, n6, n7, n8, n9⟩ := hcs'.node
        have HC := hide (ih t B c' wr (TL.of17 (l.take k) s).2 sv1 (by omega) (by omega) hst hsub' (by omega) HM.out.at_ hlv2)
        have HT := hide htk
        clear hs htk hcs hsub hst hlv2 hcs' hsub'
        go_wp2_with fail
        refine HC.out.mono ?_
        rintro e w3 ⟨x, sv2, rfl, h17⟩
        have hz3 := h17.below.size
        have hfree := HM.out.own.free HM.out.at_
        have hown3 := HM.out.own.same h17.same hfree
        have hpts3 : PtsAt w3 N (y.heap.size + 2) (ps ++ [x]) := fun z hz => by
          rcases List.mem_append.1 hz with h | h
          · exact (HM.out.rws.same h17.same (fun g f hg hlo => ⟨hg.lt, (HM.out.at_.sv_ne hg).1, fun i hi e => by have := HRL.out i hi; omega, (HM.out.at_.sv_ne hg).2⟩)) z h
          · obtain ⟨q1, q2, q3, q4, q5⟩ := h17.part z h
            exact ⟨q1, q2, q3, by omega, by omega⟩
        have hbx3 := HM.out.box.same h17.same (by obtain ⟨h1, h2, h3⟩ := HM.out.at_.ne_int HM.out.box (by decide) (by decide) (by decide); exact ⟨HM.out.box.lt, h1, h2, h3⟩)
        have hbr3 := HM.out.res.same h17.same (by obtain ⟨h1, h2, h3⟩ := HM.out.at_.ne_int HM.out.res (by decide) (by decide) (by decide); exact ⟨HM.out.res.lt, h1, h2, h3⟩)
        have hsam3 : Same (Fr17 gm N rows sv y) y w3 := HM.out.same.trans (h17.same.mono fun b h => ⟨by have := h.1; omega, h.2.1, h.2.2.1, fun e => by
          rcases HM.out.svb b e with h9 | h9
          · exact h.2.2.2 h9
          · have := h.1; omega⟩)
        have hsv3 : ∀ h, sv2.ownBlock = some h → sv.ownBlock = some h ∨ y.heap.size ≤ h := fun h hh => by
          rcases h17.svb h hh with h9 | h9
          · exact HM.out.svb h h9
          · exact .inr (by omega)
        have hx1 := h17.pt
        have hpl : ps.length = k := by
          have := congrArg List.length HM.out.pts
          rw [List.length_map] at this
          have h2 : ∀ (l : List T) (s : St), (TL.of17 l s).1.length = l.length := by
            intro l
            induction l with
            | nil => intro s; rfl
            | cons t l ih2 => intro s; simp only [TL.of17, List.length_cons]; rw [ih2]
          rw [this, h2, List.length_take]
          omega
        have hpts : (ps ++ [x]).map (·.pt) = (TL.of17 (l.take (k + 1)) s).1 := by
          rw [HT.out, TL.of17_snoc, List.map_append, HM.out.pts]
          simp [hx1]
        have hat : MkAt w3 gm N fb fc rows sv2 (TL.of17 (l.take (k + 1)) s).2.M B0 (TL.of17 (l.take (k + 1)) s).2.S := by
          rw [HT.out, TL.of17_snoc]
          exact h17.at_
        have hbel3 := HM.out.below.trans h17.below
        have hal := (Below.refl w3.heap.size w3).alloc (Nat.le_refl _) (.cells (PtA.cells N x).toArray 126)
        have hoA := hide (hown3.below hal (Nat.le_refl _))
        have hlen2 : ps.length < 1000000 := by omega
        have H3 := hide (And.intro hown3 (And.intro hpts3 (And.intro hbx3 (And.intro hbr3 (And.intro hsam3 (And.intro hsv3 (And.intro hpts (And.intro hat hbel3))))))))
        clear h17 hfree hown3 hpts3 hbx3 hbr3 hsam3 hsv3 hx1 hpl hpts hat hbel3 c0 n0 n1 n2 n3 n4 n5 n6 n7 n8 n9
        simp only [PtA.cells] at hoA ⊢
        go_wp2_with (at_builtin; refine wpList_append_part rfl _ _ rfl N (y.heap.size + 2) _ ps rfl hoA.out x w3.heap.size 1 rfl (Blk.new _ _ _) hlen2 (by simp; omega) ?_)
        intro v' w5 hown5 hg5
        have hs5 : Same (fun b => b < w3.heap.size ∧ u5.ownBlock ≠ some b) w3 w5 := fun b hb => (hg5.block b (by simp; omega) (fun e => hb.2 e.symm)).trans (same_of_below hal b hb.1)
        have hb5 : Below B0 y w5 := below_grew (H3.out.2.2.2.2.2.2.2.2.alloc (by omega) _) hg5 hB0 (fun g hg => by obtain ⟨_, _, h⟩ := H3.out.1.blk g hg; omega)
        have hz5 := hg5.size
        simp only [World.size_alloc] at hz5
        have hnew : Mid17 gm N fb fc rows B0 s sv l y _ (k + 1) (ps ++ [x]) v' sv2 w5 :=
          ⟨hown5, H3.out.2.2.2.2.2.2.1, H3.out.2.2.2.2.2.2.2.1.grew H3.out.1 hs5, H3.out.2.1.same hs5 (fun g f hg hlo => ⟨hg.lt, fun e => by obtain ⟨cur, hb, _⟩ := H3.out.1.blk g e; obtain ⟨r, hr, _⟩ := hg; exact hb.ne_type hr (by decide) rfl⟩), hb5,
            H3.out.2.2.2.2.1.trans (hs5.mono fun b h => ⟨by have := h.1; omega, fun e => by obtain ⟨cur, _, hb⟩ := H3.out.1.blk b e; have := h.1; omega⟩), H3.out.2.2.2.2.2.1,
            H3.out.2.2.1.same hs5 ⟨H3.out.2.2.1.lt, fun e => by obtain ⟨cur, _, hb⟩ := H3.out.1.blk _ e; omega⟩, H3.out.2.2.2.1.same hs5 ⟨H3.out.2.2.2.1.lt, fun e => by obtain ⟨cur, _, hb⟩ := H3.out.1.blk _ e; omega⟩⟩
        have HNW := hide hnew
        clear hown5 hg5 hs5 hb5 hnew hoA hal
        go_wp2_with fail
        go_roundw
        case rel => exact ⟨k + 1, ps ++ [x], sv2, by go_num, hlt, HNW.out, by omega⟩
        case measure => simp [intOf]; omega
      · have g1 : decide ((k : Int) < (l.length : Int)) = false := decide_eq_false (by omega)
        obtain rfl : k = l.length := by omega
        have HNo := hide (fun (z : World) (hz : Below wr.heap.size wr z) => none17_any N gm _ z (by omega) (HM.out.at_.box.nxt hz) rfl)
        go_wp2_with fail
        refine (HNo.out _ (Below.refl _ _)).mono ?_
        rintro e w2 ⟨g1', rfl, hr1, hg1, hb1⟩
        go_wp2_with fail
        refine (HNo.out _ hb1).mono ?_
        rintro e w3 ⟨g2', rfl, hr2, hg2, hb2⟩
        have hz := hide (Blk.new w3 126 #[.int .i64 0, .slice none 0 0, .slice none 0 0])
        go_wp2_with (refine wpList_store_row rfl _ _ _ rfl w3.heap.size 0 _ _ _ rfl rfl hz.out Tryd.sizePart (by simp) (by simp [Value.oneCell']) ?_)
        intro w4 hrow2 hgr2 hz2
        have hrow := hrow2.out
        rw [splice_full (by rfl)] at hrow
        have hb3 : Below w3.heap.size w3 w4 := below_grew ((Below.refl w3.heap.size w3).alloc (Nat.le_refl _) _) hgr2 (Nat.le_refl _) (fun g hg => by injection hg with hg; omega)
        have hbA : Below wr.heap.size wr w4 := (hb1.trans (hb2.mono hb1.size)).trans (hb3.mono (Nat.le_trans hb1.size hb2.size))
        have hgx : wr.heap.size ≤ w3.heap.size := Nat.le_trans hb1.size hb2.size
        have hsA := hbA.size
        have hat := HM.out.at_
        have hpt := HM.out.pts
        rw [List.take_length] at hat hpt
        have hX : XAt17 gm N fb fc rows B0 s sv l y _ ps u5 sv1 (TL.of17 l s).2.M (TL.of17 l s).2.S ⟨zeroPt, g1', g2'⟩ w3.heap.size w4 :=
          ⟨HM.out.own.below hbA (Nat.le_refl _), hpt, hat.next hbA, HM.out.rws.same (same_of_below hbA) (fun g f hg _ => hg.lt),
            fun x hx => by
              obtain rfl := List.mem_singleton.1 hx
              exact ⟨⟨by show (0 : Nat) < 16; omega, fun _ => by show (0 : Nat) < 16; omega, fun _ => by show (0 : Nat) < 16; omega⟩, (hr1.next hb2).next hb3, hr2.next hb3, by show y.heap.size + 2 ≤ g1'; omega, by show y.heap.size + 2 ≤ g2'; have := hb1.size; omega⟩,
            HM.out.below.trans (hbA.mono (by omega)), HM.out.same.trans ((same_of_below hbA).mono fun b h => by have := h.1; omega), HM.out.svb, HM.out.box.nxt hbA, HM.out.res.nxt hbA, hrow, by omega,
            fun h hh e => by obtain ⟨cur, hb, _⟩ := HM.out.own.blk h hh; have := hb.lt; omega⟩
        have HX := hide hX
        have hg12 : g1' ≠ g2' := by have := hr1.lt; omega
        have HPL := hide hpt
        have hlvS : (TL.of17 l s).2.S.length = s.S.length + TL.leaves l := TL.of17_len l s
        have HLS := hide hlvS
        have hgxw : w3.heap.size < w4.heap.size := hrow.lt
        clear hX hat hpt hbA hb3 hrow hrow2 hgr2 hz2 hz hb2 hr2 hg2 hb1 hr1 hg1 hlvS HM HNo c0
        generalize w3.heap.size = gx at *
        generalize (TL.of17 l s).1 = pl at *
        generalize (TL.of17 l s).2 = s1 at *
        have hcase : kind = 2 ∨ kind = 5 ∨ kind = 6 ∨ kind = 7 ∨ kind = 1 ∨ kind = 3 ∨ kind = 4 ∨ kind = 8 := by omega
        obtain ⟨⟨hk1, hk8⟩, hleaf, hrep⟩ := hk3
        rcases hcase with hk | hk | hk | hk | hk | hk | hk | hk <;> subst hk
        · -- bytes
          obtain ⟨SA, Sc, hsv⟩ := sets_form HX.out.at_.sets
          have hpN : s1.S.length < N := by have := HLS.out; have := HLV.out; simp only [if_pos] at this; omega
          have cg := HX.out.at_.box.cell
          rw [hsv] at cg
          have cb := HX.out.box.cell
          go_upto_region 16 with fail
          clear cg cb
          refine wp_region_mix (fun z => Below w4.heap.size w4 z) [8, 11] (by kernel_rfl) (fun hcl => ?_)
          have hS : Below w4.heap.size w4 w4.drew := (Below.refl _ _).drew
          refine wpAnyT_free (i := 0) hcl rfl (by kernel_rfl) (v := ?_) (fun _ _ _ h => h) hS (Or.inl ⟨rfl, fun w' _ => ?_⟩) (fun hcl => ?_)
          rotate_left
          · go_simp
            with_reducible rfl
          simp only [List.getElem_toArray, List.getElem_cons_zero, List.getElem_cons_succ, Act.put, List.setIfInBounds_toArray, List.set_cons_zero, List.set_cons_succ]
          refine wpAnyT_free (i := 1) hcl rfl (by kernel_rfl) (v := ?_) (fun _ _ _ h => h) hS (Or.inl ⟨rfl, fun w' _ => ?_⟩) (fun hcl => ?_)
          rotate_left
          · go_simp
            with_reducible rfl
          simp only [List.getElem_toArray, List.getElem_cons_zero, List.getElem_cons_succ, Act.put, List.setIfInBounds_toArray, List.set_cons_zero, List.set_cons_succ]
          refine wpAnyT_free (i := 2) hcl rfl (by kernel_rfl) (v := ?_) (fun _ _ _ h => h) hS (Or.inl ⟨rfl, fun w' _ => ?_⟩) (fun hcl => ?_)
          rotate_left
          · go_simp
            with_reducible rfl
          simp only [List.getElem_toArray, List.getElem_cons_zero, List.getElem_cons_succ, Act.put, List.setIfInBounds_toArray, List.set_cons_zero, List.set_cons_succ]
          refine wpAnyT_free (i := 3) hcl rfl (by kernel_rfl) (v := ?_) (fun _ _ _ h => h) hS (Or.inl ⟨rfl, fun w' _ => ?_⟩) (fun hcl => ?_)
          rotate_left
          · go_simp
            with_reducible rfl
          simp only [List.getElem_toArray, List.getElem_cons_zero, List.getElem_cons_succ, Act.put, List.setIfInBounds_toArray, List.set_cons_zero, List.set_cons_succ]
          refine wpAnyT_get (i := 4) hcl rfl (by kernel_rfl) (v := ?_) (fun _ _ _ h => h) hS (Or.inl ⟨rfl, fun w' hS => ?_⟩) (fun hcl => ?_)
          rotate_left
          · skip
            have cg := (HX.out.at_.next hS).box.cell
            rw [hsv] at cg
            go_simp
            with_reducible rfl
          simp only [List.getElem_toArray, List.getElem_cons_zero, List.getElem_cons_succ, Act.put, List.setIfInBounds_toArray, List.set_cons_zero, List.set_cons_succ]
          refine wpAnyT_free (i := 5) hcl rfl (by kernel_rfl) (v := ?_) (fun _ _ _ h => h) hS (Or.inl ⟨rfl, fun w' _ => ?_⟩) (fun hcl => ?_)
          rotate_left
          · go_simp
            with_reducible rfl
          simp only [List.getElem_toArray, List.getElem_cons_zero, List.getElem_cons_succ, Act.put, List.setIfInBounds_toArray, List.set_cons_zero, List.set_cons_succ]
          refine wpAnyT_get (i := 6) hcl rfl (by kernel_rfl) (v := ?_) (fun _ _ _ h => h) hS (Or.inl ⟨rfl, fun w' hS => ?_⟩) (fun hcl => ?_)
          rotate_left
          · skip
            have cb := (HX.out.box.nxt hS).cell
            go_simp
            with_reducible rfl
          simp only [List.getElem_toArray, List.getElem_cons_zero, List.getElem_cons_succ, Act.put, List.setIfInBounds_toArray, List.set_cons_zero, List.set_cons_succ]
          refine wpAnyT_step (i := 7) hcl rfl (by kernel_rfl) (fun hcl => ?_)
          simp only [List.getElem_toArray, List.getElem_cons_zero, List.getElem_cons_succ, Act.put, List.setIfInBounds_toArray, List.set_cons_zero, List.set_cons_succ]
          go_wp2_with fail
          replace hS : Below w4.heap.size w4 (w4.alloc (.cells #[.int .u64 s0, .int .u64 s1', .int .u64 s2, .int .u64 s3] 24)).drew := ((Below.refl _ _).alloc (Nat.le_refl _) _).drew
          refine ⟨hS, ?_⟩
          refine wpAnyT_last (i := 8) hcl rfl (by kernel_rfl) (by kernel_rfl) (fun hcl => ?_)
          simp only [List.getElem_toArray, List.getElem_cons_zero, List.getElem_cons_succ, Act.put, List.setIfInBounds_toArray, List.set_cons_zero, List.set_cons_succ]
          have hxs := HX.out.at_.next hS
          have hsets := hxs.sets
          rw [hsv] at hsets
          have hoS := hide hsets
          have hbS := hide ((Blk.new w4 24 #[.int .u64 s0, .int .u64 s1', .int .u64 s2, .int .u64 s3]).nxt (Below.refl _ _).drew)
          have hSz := hS.size
          have hw4B : B0 ≤ w4.heap.size := by have := HX.out.below.size; omega
          have hHS := hide hS
          clear hsets hxs hS
          generalize (w4.alloc (.cells #[.int .u64 s0, .int .u64 s1', .int .u64 s2, .int .u64 s3] 24)).drew = W at *
          refine wpList_append_set rfl _ _ rfl B0 _ s1.S rfl hoS.out (s0, s1', s2, s3) w4.heap.size 1 rfl hbS.out (by omega) (by omega) ?_
          intro v' w5 hown5 hg5 hv5 hve
          obtain ⟨A5, c5, rfl⟩ := hve
          refine wpList_nil ?_
          have hs5 : Same (fun b => b < w4.heap.size ∧ sv1.ownBlock ≠ some b) w4 w5 := fun b hb => (hg5.block b (by omega) (fun e => hb.2 (by rw [hsv]; exact e.symm))).trans (same_of_below hHS.out b hb.1)
          have hbg5 := HX.out.at_.box.same hs5 ⟨HX.out.at_.box.lt, fun e => by
            rcases HX.out.at_.sets.2 with ⟨e1, _⟩ | ⟨g2, cap, cur, e1, _, hg, _⟩
            · rw [e1] at e; cases e
            · rw [e1] at e
              obtain rfl : g2 = gm := by simpa [Value.ownBlock] using e
              exact Blk.ne_type HX.out.at_.box (show Blk w4 g2 24 cur from hg) (by decide) rfl⟩
          have hb5 : Below B0 w4 w5 := below_grew (hHS.out.mono hw4B) hg5 (by omega) (fun g hg => (World.ownsRow.lt hoS.out g hg).1)
          have cg5 := hbg5.cell
          have fg5 := hbg5.frozen
          have hl5 : (s1.S ++ [(s0, s1', s2, s3)]).length = s1.S.length + 1 := by simp
          rw [hl5] at hown5
          have H5 := hide (And.intro hown5 (And.intro hs5 (And.intro hbg5 (And.intro hb5 hv5))))
          clear hown5 hg5 hv5 hs5 hbg5 hb5 hl5 hHS hbS
          refine wpAnyT_last (i := 9) hcl rfl (by kernel_rfl) (by kernel_rfl) (fun hcl => ?_)
          simp only [List.getElem_toArray, List.getElem_cons_zero, List.getElem_cons_succ, Act.put, List.setIfInBounds_toArray, List.set_cons_zero, List.set_cons_succ]
          go_wp2_with fail
          refine wpAnyT_last (i := 10) hcl rfl (by kernel_rfl) (by kernel_rfl) (fun hcl => ?_)
          simp only [List.getElem_toArray, List.getElem_cons_zero, List.getElem_cons_succ, Act.put, List.setIfInBounds_toArray, List.set_cons_zero, List.set_cons_succ]
          go_wp2_with fail
          refine wpAnyT_last (i := 11) hcl rfl (by kernel_rfl) (by kernel_rfl) (fun hcl => ?_)
          simp only [List.getElem_toArray, List.getElem_cons_zero, List.getElem_cons_succ, Act.put, List.setIfInBounds_toArray, List.set_cons_zero, List.set_cons_succ]
          go_wp2_with fail
          refine wpAnyT_done (by kernel_rfl) ?_ _
          have hgmB : B0 ≤ gm := hgm
          have hX6 : XAt17 gm N fb fc rows B0 s sv l y #[.int .i64 2, .int .u64 s0, .int .u64 s1', .int .u64 s2, .int .u64 s3, .slice A l.length c, .int .i64 num, .int .i64 mn, .int .i64 mx, .bool bare] ps u5 (.slice A5 (s1.S.length + 1) c5) s1.M (s1.S ++ [(s0, s1', s2, s3)]) ⟨zeroPt, g1', g2'⟩ gx (w5.setCell ⟨gm, 1, none⟩ (.slice A5 (s1.S.length + 1) c5)) := by
            refine HX.out.push HRL.out (by have := HX.out.box.lt; omega) ((H5.out.2.1.mono fun b hb => ⟨hb.1, hb.2.1⟩).trans ((Same.refl (fun b => b ≠ gm) _).set (fun h => h rfl) _ |>.mono fun b hb => hb.2.2)) (H5.out.2.2.2.1.setCell hgmB _) (heap_setCell_same w5 gm 1 _ _ _ H5.out.2.2.1) ?_ ?_
            · refine ⟨by simpa using H5.out.1.1, ?_⟩
              rcases H5.out.1.2 with ⟨e1, e2⟩ | ⟨g, cap, cur, e1, e2, e3, r⟩
              · omega
              · have hne : g ≠ gm := fun e => by subst e; exact Blk.ne_type (show Blk w5 g 24 cur from e3) H5.out.2.2.1 (by decide) rfl
                refine .inr ⟨g, cap, cur, by simpa using e1, e2, (show Blk w5 g 24 cur from e3).far hne _, ?_⟩
                simpa using r
            · intro k hk
              rcases H5.out.2.2.2.2 with e | e
              · rw [e] at hk; exact .inl (by rw [hsv]; exact hk)
              · rw [e] at hk; exact .inr (by injection hk with hk; omega)
          have H6 := hide hX6
          clear hX6 cg5 fg5 H5
          generalize (w5.setCell ⟨gm, 1, none⟩ (.slice A5 (s1.S.length + 1) c5)) = W6 at *
          have hpart := H6.out.part ⟨zeroPt, g1', g2'⟩ (by simp)
          have cx := H6.out.xbx.cell
          simp only [PtA.cells] at cx
          have r1 := hpart.2.1.cell s1.S.length hpN
          have f1 := hpart.2.1.frozen
          have HP := hide hpart
          clear hpart
          simp only [zeroPt] at r1
          go_upto_region 18 with fail
          clear cx r1 f1
          have hg1l : g1' < W6.heap.size := HP.out.2.1.lt
          have hR1 := HP.out.2.1.set s1.S.length 15 hpN
          have hg1x : gx ≠ g1' := by obtain ⟨r, hr, _⟩ := HP.out.2.1; exact H6.out.xbx.ne_type hr (by decide)
          have hR2 : InRow (W6.setCell ⟨g1', s1.S.length, none⟩ (.int .i64 ((15 : Nat) : Int))) g2' N zeroPt.lst := HP.out.2.2.1.same (ok := fun b => b ≠ g1') ((Same.refl _ _).set (fun h => h rfl) _) (fun e => hg12 e.symm)
          have hX7 := H6.out.xbx.far (p := ⟨g1', s1.S.length, none⟩) hg1x (.int .i64 ((15 : Nat) : Int))
          have e15 : ((15 : Nat) : Int) = 15 := rfl
          rw [e15] at hR1 hR2 hX7
          have hS7 : Same (· ≠ g1') W6 (W6.setCell ⟨g1', s1.S.length, none⟩ (.int .i64 15)) := (Same.refl _ _).set (fun h => h rfl) _
          have hrl1 : ∀ i, i < N → rows i ≠ g1' := fun i hi e => by have := HRL.out i hi; have := HP.out.2.2.2.1; simp only at this; omega
          have hrl2 : ∀ i, i < N → rows i ≠ g2' := fun i hi e => by have := HRL.out i hi; have := HP.out.2.2.2.2; simp only at this; omega
          have hM7 := H6.out.at_.keep HP.out.2.1 hrl1 hS7
          have hres7 : Blk (W6.setCell ⟨g1', s1.S.length, none⟩ (.int .i64 15)) (y.heap.size + 1) 126 #[.int .i64 0, .slice none 0 0, .slice none 0 0] := H6.out.res.far (by have := HP.out.2.2.2.1; simp only at this ⊢; omega) _
          have hb7 : Below B0 y (W6.setCell ⟨g1', s1.S.length, none⟩ (.int .i64 15)) := H6.out.below.setCell (by have := HP.out.2.2.2.1; simp only at this ⊢; omega) _
          have hs7 : Same (Fr17 gm N rows sv y) y (W6.setCell ⟨g1', s1.S.length, none⟩ (.int .i64 15)) := H6.out.same.set (fun h => by have h1 : g1' < y.heap.size := h.1; have := HP.out.2.2.2.1; simp only at this; omega) _
          have H7 := hide (And.intro hR1 (And.intro hR2 (And.intro hX7 (And.intro hM7 (And.intro hres7 (And.intro hb7 (And.intro hs7 H6.out.svb)))))))
          have hlo1 := HP.out.2.2.2.1
          have hlo2 := HP.out.2.2.2.2
          simp only at hlo1 hlo2
          clear hR1 hR2 hX7 hM7 hres7 hb7 hs7 hS7 e15 HP H6 HX
          generalize (W6.setCell ⟨g1', s1.S.length, none⟩ (.int .i64 15)) = W7 at *
          have cx := H7.out.2.2.1.cell
          simp only [PtA.cells] at cx
          have r2 := H7.out.2.1.cell s1.S.length hpN
          have f2 := H7.out.2.1.frozen
          simp only [zeroPt] at r2
          go_upto_region 46 with fail
          clear cx r2 f2
          have hR1 : InRow (W7.setCell ⟨g2', s1.S.length, none⟩ (.int .i64 ((15 : Nat) : Int))) g1' N _ := H7.out.1.same (ok := fun b => b ≠ g2') ((Same.refl _ _).set (fun h => h rfl) _) hg12
          have hR2 := H7.out.2.1.set s1.S.length 15 hpN
          have hg2x : gx ≠ g2' := by obtain ⟨r, hr, _⟩ := H7.out.2.1; exact H7.out.2.2.1.ne_type hr (by decide)
          have hX8 := H7.out.2.2.1.far (p := ⟨g2', s1.S.length, none⟩) hg2x (.int .i64 ((15 : Nat) : Int))
          have e15 : ((15 : Nat) : Int) = 15 := rfl
          rw [e15] at hR1 hR2 hX8
          have hM8 := H7.out.2.2.2.1.keep H7.out.2.1 hrl2 ((Same.refl (· ≠ g2') W7).set (p := ⟨g2', s1.S.length, none⟩) (fun h => h rfl) (.int .i64 15))
          have hres8 : Blk (W7.setCell ⟨g2', s1.S.length, none⟩ (.int .i64 15)) (y.heap.size + 1) 126 #[.int .i64 0, .slice none 0 0, .slice none 0 0] := H7.out.2.2.2.2.1.far (by simp only; omega) _
          have hb8 : Below B0 y (W7.setCell ⟨g2', s1.S.length, none⟩ (.int .i64 15)) := H7.out.2.2.2.2.2.1.setCell (by simp only; omega) _
          have hs8 : Same (Fr17 gm N rows sv y) y (W7.setCell ⟨g2', s1.S.length, none⟩ (.int .i64 15)) := H7.out.2.2.2.2.2.2.1.set (fun h => by have h1 : g2' < y.heap.size := h.1; omega) _
          have hsvb := H7.out.2.2.2.2.2.2.2
          have H8 := hide (And.intro hR1 (And.intro hR2 (And.intro hX8 (And.intro hM8 (And.intro hres8 (And.intro hb8 (And.intro hs8 hsvb)))))))
          clear hR1 hR2 hX8 hM8 hres8 hb8 hs8 hsvb e15 H7
          generalize (W7.setCell ⟨g2', s1.S.length, none⟩ (.int .i64 15)) = W8 at *
          have cx := H8.out.2.2.1.cell
          simp only [PtA.cells, zeroPt] at cx
          go_wp2_with (refine wpList_store_row rfl _ _ _ rfl (y.heap.size + 1) 0 _ _ _ rfl rfl H8.out.2.2.2.2.1 Tryd.sizePart (by simp) (by simp [Value.oneCell']) ?_)
          intro w9 hrow2 hg9 hz9
          have hrow := hrow2.out
          rw [splice_full (by rfl)] at hrow
          have hs9 : Same (fun b => b < W8.heap.size ∧ b ≠ y.heap.size + 1) W8 w9 := fun b hb => hg9.block b hb.1 (fun e => hb.2 (by injection e))
          have hb9 : Below B0 y w9 := below_grew H8.out.2.2.2.2.2.1 hg9 hB0 (fun g hg => by injection hg with hg; omega)
          have hM9 : MkAt w9 gm N fb fc rows (.slice A5 (s1.S.length + 1) c5) s1.M B0 (s1.S ++ [(s0, s1', s2, s3)]) := by
            exact H8.out.2.2.2.1.same hs9 ⟨H8.out.2.2.2.1.box.lt, by omega⟩ (fun h0 => by obtain ⟨row, hfr, _⟩ := H8.out.2.2.2.1.fol h0; have := hfl h0; exact ⟨hfr.lt, by omega⟩) (fun i hi => ⟨(H8.out.2.2.2.1.row i hi).lt, by have := HRL.out i hi; omega⟩) (fun k hk => ⟨(World.ownsRow.lt H8.out.2.2.2.1.sets k hk).2, fun e => by
              have := (H8.out.2.2.2.1.ne_int H8.out.2.2.2.2.1 (by decide) (by decide) (by decide)).2.2
              rw [e] at hk
              exact this hk⟩)
          have HF := hide (And.intro hrow (And.intro hM9 (And.intro (H8.out.1.same hs9 ⟨H8.out.1.lt, by omega⟩) (And.intro (H8.out.2.1.same hs9 ⟨H8.out.2.1.lt, by omega⟩) (And.intro hb9 (And.intro (H8.out.2.2.2.2.2.2.1.trans (hs9.mono fun b h => ⟨by have := h.1; have := H8.out.2.2.1.lt; omega, by have := h.1; omega⟩)) H8.out.2.2.2.2.2.2.2))))))
          clear hrow hrow2 hg9 hz9 hs9 hb9 hM9 cx
          go_wp2_with fail
          refine bodyPost_ret (results_cell_row rfl _ _ (y.heap.size + 1) _ _ (0, 0) _ rfl HF.out.1 Tryd.underlying126 rfl Tryd.sizePart) rfl ?_
          have hR : R = (⟨0, fun i => if i = s1.S.length then 15 else 0, fun i => if i = s1.S.length then 15 else 0⟩, ⟨s1.S ++ [(s0, s1', s2, s3)], s1.M⟩) := HOF.out
          refine ⟨⟨R.1, g1', g2'⟩, _, by rw [hR]; rfl, ⟨rfl, by rw [hR]; exact HF.out.2.1, fun z hz => ?_, HF.out.2.2.2.2.1, HF.out.2.2.2.2.2.2, HF.out.2.2.2.2.2.1⟩⟩
          obtain rfl := List.mem_singleton.1 hz
          rw [hR]
          exact ⟨⟨by show (0 : Nat) < 16; omega, fun i => by show (if _ then 15 else 0 : Nat) < 16; split <;> omega, fun i => by show (if _ then 15 else 0 : Nat) < 16; split <;> omega⟩, HF.out.2.2.1, HF.out.2.2.2.1, by show y.heap.size ≤ g1'; omega, by show y.heap.size ≤ g2'; omega⟩
        · -- a row
          obtain ⟨PA, Pc, hu5, hpc⟩ := HX.out.own.form
          subst hu5
          clear hpc
          have hpsl : ps.length ≤ 1000000 := by
            have h2 : ∀ (l : List T) (s : St), (TL.of17 l s).1.length = l.length := by
              intro l
              induction l with
              | nil => intro s; rfl
              | cons t l ih2 => intro s; simp only [TL.of17, List.length_cons]; rw [ih2]
            have := congrArg List.length HX.out.pts
            rw [List.length_map, h2] at this
            omega
          have cb := HX.out.box.cell
          have cx := HX.out.xbx.cell
          simp only [PtA.cells, zeroPt] at cx
          have fx := HX.out.xbx.frozen
          go_wp2_with fail
          clear cb cx fx
          have hX0 := HX.out.put hB0 0 (.int .i64 15) (x' := ⟨⟨15, fun _ => 0, fun _ => 0⟩, g1', g2'⟩) rfl (fun z hz => by
            obtain rfl := List.mem_singleton.1 hz
            have hp := HX.out.part ⟨zeroPt, g1', g2'⟩ (List.mem_singleton.2 rfl)
            exact ⟨⟨by show (15 : Nat) < 16; omega, hp.1.2⟩, hp.2⟩)
          have H0 := hide hX0
          clear hX0
          generalize (w4.setCell ⟨gx, 0, none⟩ (.int .i64 15)) = W00 at *
          go_loopw [10] (fun iv wr => ∃ (k : Nat) (x : PtA) (M : Nat → Nat → Nat), iv = .int .i64 k ∧ k ≤ ps.length ∧ XAt17 gm N fb fc rows B0 s sv l y #[.int .i64 5, .int .u64 s0, .int .u64 s1', .int .u64 s2, .int .u64 s3, .slice A l.length c, .int .i64 num, .int .i64 mn, .int .i64 mx, .bool bare] ps (.slice PA ps.length Pc) sv1 M s1.S x gx wr ∧ seqGo x.pt ((ps.drop k).map (·.pt)) M = seqGo ⟨15, fun _ => 0, fun _ => 0⟩ (ps.map (·.pt)) s1.M) (fun iv _ => ps.length - (intOf iv).toNat)
          case atStart => exact ⟨0, _, _, rfl, by omega, H0.out, rfl⟩
          case round =>
            clear HX H0
            obtain ⟨k, x, M, rfl, hk, hX, hx⟩ := hrel
            have HX := hide hX
            have HPT := hide hx
            clear hX hx
            have hgxl := HX.out.xbx.lt
            have hlow := HX.out.low
            by_cases hlt : k < ps.length
            case neg =>
              have g2 : decide ((k : Int) < (ps.length : Int)) = false := decide_eq_false (by omega)
              have hR : R = (x.pt, ⟨s1.S, M⟩) := by
                have h1 := HPT.out
                rw [List.drop_eq_nil_of_le (by omega)] at h1
                simp only [List.map_nil, seqGo] at h1
                rw [HOF.out, ← HPL.out]
                show ((seqGo ⟨15, fun _ => 0, fun _ => 0⟩ (ps.map (·.pt)) s1.M).1, (⟨s1.S, (seqGo ⟨15, fun _ => 0, fun _ => 0⟩ (ps.map (·.pt)) s1.M).2⟩ : St)) = _
                rw [← h1]
              have HRR := hide hR
              clear hR
              have cx := HX.out.xbx.cell
              simp only [PtA.cells] at cx
              go_wp2_with (refine wpList_store_row rfl _ _ _ rfl (y.heap.size + 1) 0 _ _ _ rfl rfl HX.out.res Tryd.sizePart (by simp) (by simp [Value.oneCell']) ?_)
              intro w9 hrow2 hg9 hz9
              have hrow := hrow2.out
              rw [splice_full (by rfl)] at hrow
              have hs9 : Same (fun b => b < wr.heap.size ∧ b ≠ y.heap.size + 1) wr w9 := fun b hb => hg9.block b hb.1 (fun e => hb.2 (by injection e))
              have hb9 : Below B0 y w9 := below_grew HX.out.below hg9 hB0 (fun g hg => by injection hg with hg; omega)
              have HF := hide (And.intro hrow (HX.out.fin HRL.out hgl hfl HRR.out (by have := HX.out.xbx.lt; have := HX.out.low; omega) hs9 hb9))
              clear hrow hrow2 hg9 hz9 hs9 hb9 cx
              go_wp2_with fail
              refine bodyPost_ret (results_cell_row rfl _ _ (y.heap.size + 1) _ _ (0, 0) _ rfl HF.out.1 Tryd.underlying126 rfl Tryd.sizePart) rfl ?_
              exact ⟨_, _, rfl, HF.out.2⟩
            have g2 : decide ((k : Int) < (ps.length : Int)) = true := decide_eq_true (by omega)
            have he := List.getElem?_eq_getElem hlt
            have hdr : ps.drop k = ps[k] :: ps.drop (k + 1) := List.drop_eq_getElem_cons hlt
            have hpe := HX.out.rws _ (List.getElem_mem hlt)
            generalize ps[k] = e at *
            obtain ⟨gl, rfl, hgll, n0, n1, n2⟩ := HX.out.own.at_ he
            have hpx := HX.out.part x (by simp)
            have HE := hide (And.intro he (And.intro hdr (And.intro hpe hpx)))
            have hnx := hpx.1.1
            clear he hdr hpe hpx n0 n1 n2
            rename World => W0
            go_upto_region 32 with fail
            refine wp_region_mix (fun z => Below W0.heap.size W0 z) [10] (by kernel_rfl) (fun hcl => ?_)
            have hS : Below W0.heap.size W0 W0.drew := (Below.refl _ _).drew
            refine wpAnyT_free (i := 0) hcl rfl (by kernel_rfl) (v := ?_) (fun _ _ _ h => h) hS (Or.inl ⟨rfl, fun w' _ => ?_⟩) (fun hcl => ?_)
            rotate_left
            · go_simp
              with_reducible rfl
            simp only [List.getElem_toArray, List.getElem_cons_zero, List.getElem_cons_succ, Act.put, List.setIfInBounds_toArray, List.set_cons_zero, List.set_cons_succ]
            refine wpAnyT_take (i := 1) hcl rfl (by kernel_rfl) (v := ?_) (fun _ _ _ h => h) hS (Or.inl ⟨rfl, fun w' hS => ?_⟩) (fun hcl => ?_)
            rotate_left
            · skip
              have cx := (HX.out.xbx.nxt hS).cell
              simp only [PtA.cells] at cx
              go_simp
              with_reducible rfl
            simp only [List.getElem_toArray, List.getElem_cons_zero, List.getElem_cons_succ, Act.put, List.setIfInBounds_toArray, List.set_cons_zero, List.set_cons_succ]
            refine wpAnyT_free (i := 2) hcl rfl (by kernel_rfl) (v := ?_) (fun _ _ _ h => h) hS (Or.inl ⟨rfl, fun w' _ => ?_⟩) (fun hcl => ?_)
            rotate_left
            · go_simp
              with_reducible rfl
            simp only [List.getElem_toArray, List.getElem_cons_zero, List.getElem_cons_succ, Act.put, List.setIfInBounds_toArray, List.set_cons_zero, List.set_cons_succ]
            refine wpAnyT_free (i := 3) hcl rfl (by kernel_rfl) (v := ?_) (fun _ _ _ h => h) hS (Or.inl ⟨rfl, fun w' _ => ?_⟩) (fun hcl => ?_)
            rotate_left
            · go_simp
              with_reducible rfl
            simp only [List.getElem_toArray, List.getElem_cons_zero, List.getElem_cons_succ, Act.put, List.setIfInBounds_toArray, List.set_cons_zero, List.set_cons_succ]
            refine wpAnyT_free (i := 4) hcl rfl (by kernel_rfl) (v := ?_) (fun _ _ _ h => h) hS (Or.inl ⟨rfl, fun w' _ => ?_⟩) (fun hcl => ?_)
            rotate_left
            · go_simp
              with_reducible rfl
            simp only [List.getElem_toArray, List.getElem_cons_zero, List.getElem_cons_succ, Act.put, List.setIfInBounds_toArray, List.set_cons_zero, List.set_cons_succ]
            refine wpAnyT_free (i := 5) hcl rfl (by kernel_rfl) (v := ?_) (fun _ _ _ h => h) hS (Or.inl ⟨rfl, fun w' _ => ?_⟩) (fun hcl => ?_)
            rotate_left
            · go_simp
              with_reducible rfl
            simp only [List.getElem_toArray, List.getElem_cons_zero, List.getElem_cons_succ, Act.put, List.setIfInBounds_toArray, List.set_cons_zero, List.set_cons_succ]
            refine wpAnyT_take (i := 6) hcl rfl (by kernel_rfl) (v := ?_) (fun _ _ _ h => h) hS (Or.inl ⟨rfl, fun w' hS => ?_⟩) (fun hcl => ?_)
            rotate_left
            · skip
              obtain ⟨gl2, eg2, _, n0, n1, n2⟩ := (HX.out.own.below hS (Nat.le_refl _)).at_ HE.out.1
              injection eg2 with eg2; injection eg2 with eg2 _; subst eg2
              go_simp
              with_reducible rfl
            simp only [List.getElem_toArray, List.getElem_cons_zero, List.getElem_cons_succ, Act.put, List.setIfInBounds_toArray, List.set_cons_zero, List.set_cons_succ]
            refine wpAnyT_free (i := 7) hcl rfl (by kernel_rfl) (v := ?_) (fun _ _ _ h => h) hS (Or.inl ⟨rfl, fun w' _ => ?_⟩) (fun hcl => ?_)
            rotate_left
            · go_simp
              with_reducible rfl
            simp only [List.getElem_toArray, List.getElem_cons_zero, List.getElem_cons_succ, Act.put, List.setIfInBounds_toArray, List.set_cons_zero, List.set_cons_succ]
            refine wpAnyT_take (i := 8) hcl rfl (by kernel_rfl) (v := ?_) (fun _ _ _ h => h) hS (Or.inl ⟨rfl, fun w' hS => ?_⟩) (fun hcl => ?_)
            rotate_left
            · skip
              have cx := (HX.out.xbx.nxt hS).cell
              simp only [PtA.cells] at cx
              go_simp
              with_reducible rfl
            simp only [List.getElem_toArray, List.getElem_cons_zero, List.getElem_cons_succ, Act.put, List.setIfInBounds_toArray, List.set_cons_zero, List.set_cons_succ]
            refine wpAnyT_step (i := 9) hcl rfl (by kernel_rfl) (fun hcl => ?_)
            simp only [List.getElem_toArray, List.getElem_cons_zero, List.getElem_cons_succ, Act.put, List.setIfInBounds_toArray, List.set_cons_zero, List.set_cons_succ]
            have hpx7 := HX.out.part x (List.mem_singleton.2 rfl)
            have hpe7 := HX.out.rws e (List.mem_of_getElem? HE.out.1)
            have HMt7 := hide (met17_any N e.f (x.pt.null) e.pt.fst W0.drew (by omega) hnx hpe7.1.2.1 (hpe7.2.1.next hS))
            have HJ7 := hide (fun (gm2 : Nat) (z : World) (hz : Below W0.heap.size W0 z) (hm : InRow z gm2 N (fun i => e.pt.fst i &&& (x.pt.null))) => joined17_any N x.f gm2 x.pt.fst (fun i => e.pt.fst i &&& (x.pt.null)) z (by omega) hpx7.1.2.1 (fun i => andL (hpe7.1.2.1 i) hnx) (hpx7.2.1.next hz) hm)
            have HS7 := hide hS
            have HP7 := hide (And.intro hpx7 hpe7)
            clear hS hpx7 hpe7
            go_wp2_with fail
            refine HMt7.out.mono ?_
            rintro e' wm7 ⟨gmt, rfl, hrowm, hgmt, hbm⟩
            have hbmW := HS7.out.trans (hbm.mono HS7.out.size)
            have HBM7 := hide (And.intro hbmW hrowm)
            clear hbmW hrowm hbm HMt7
            go_wp2_with fail
            refine ⟨HBM7.out.1, ?_⟩
            refine wpAnyT_last (i := 10) hcl rfl (by kernel_rfl) (by kernel_rfl) (fun hcl => ?_)
            simp only [List.getElem_toArray, List.getElem_cons_zero, List.getElem_cons_succ, Act.put, List.setIfInBounds_toArray, List.set_cons_zero, List.set_cons_succ]
            go_wp2_with fail
            refine (HJ7.out gmt _ HBM7.out.1 HBM7.out.2).mono ?_
            rintro e' wj7 ⟨gj7, rfl, hrow, hgj, hb⟩
            have hbW := HBM7.out.1.trans (hb.mono HBM7.out.1.size)
            have hX2 := HX.out.next (by omega) (by omega) hbW
            have hzW := hbW.size
            have hgj7 : W0.heap.size ≤ gj7 := Nat.le_trans HBM7.out.1.size hgj
            have cx := hX2.xbx.cell
            simp only [PtA.cells] at cx
            have fx := hX2.xbx.frozen
            have H72 := hide (And.intro hX2 (And.intro hrow hbW))
            clear hX2 hrow hb hbW HJ7 HBM7
            go_wp2_with fail
            refine wpAnyT_last (i := 11) hcl rfl (by kernel_rfl) (by kernel_rfl) (fun hcl => ?_)
            simp only [List.getElem_toArray, List.getElem_cons_zero, List.getElem_cons_succ, Act.put, List.setIfInBounds_toArray, List.set_cons_zero, List.set_cons_succ]
            go_wp2_with fail
            refine wpAnyT_last (i := 12) hcl rfl (by kernel_rfl) (by kernel_rfl) (fun hcl => ?_)
            simp only [List.getElem_toArray, List.getElem_cons_zero, List.getElem_cons_succ, Act.put, List.setIfInBounds_toArray, List.set_cons_zero, List.set_cons_succ]
            go_wp2_with fail
            refine wpAnyT_done (by kernel_rfl) ?_ _
            clear cx fx
            have hX3 := H72.out.1.put hB0 1 (.slice (some ⟨gj7, 0, none⟩) N N) (x' := ⟨⟨x.pt.null, fun i => x.pt.fst i ||| (e.pt.fst i &&& x.pt.null), x.pt.lst⟩, gj7, x.l⟩) rfl (fun z hz => by
              obtain rfl := List.mem_singleton.1 hz
              have hp := H72.out.1.part x (List.mem_singleton.2 rfl)
              exact ⟨⟨hp.1.1, fun i => orL (HP7.out.1.1.2.1 i) (andL (HP7.out.2.1.2.1 i) hnx), hp.1.2.2⟩, H72.out.2.1, hp.2.2.1, by show y.heap.size + 2 ≤ gj7; omega, hp.2.2.2.2⟩)
            have H73 := hide hX3
            clear hX3 H72 HS7
            generalize (wj7.setCell ⟨gx, 1, none⟩ (.slice (some ⟨gj7, 0, none⟩) N N)) = W1 at *
            have hlW1 := H73.out.xbx.lt
            go_wp2_with fail
            go_loopw [11, 12] (fun bv jv wr => ∃ (j b : Nat) (M' : Nat → Nat → Nat), bv = .int .i64 b ∧ jv = .int .i64 j ∧ b < 16 ∧ k + 1 ≤ j ∧ j ≤ ps.length ∧ XAt17 gm N fb fc rows B0 s sv l y _ ps (.slice (some ⟨gl, 0, none⟩) ps.length Pc) sv1 M' s1.S ⟨⟨x.pt.null, fun i => x.pt.fst i ||| (e.pt.fst i &&& x.pt.null), x.pt.lst⟩, gj7, x.l⟩ gx wr ∧ innerGo e.pt.lst ((ps.drop j).map (·.pt)) b M' = innerGo e.pt.lst ((ps.drop (k + 1)).map (·.pt)) 15 M) (fun _ jv _ => ps.length - (intOf jv).toNat)
            case atStart => exact ⟨k + 1, 15, M, rfl, by go_num, by omega, by omega, by omega, H73.out, rfl⟩
            case round =>
              obtain ⟨j, b, M', rfl, rfl, hb16, hkj, hjl, hX, hin⟩ := hrel
              have H4 := hide hX
              have HIN2 := hide hin
              clear hX hin H73
              have hgx4 := H4.out.xbx.lt
              go_upto_region 35 with fail
              go_cut [138] (fun z wx => z = .bool (decide (j < ps.length) && b != 0) ∧ wx = wr)
              case first =>
                by_cases hj : j < ps.length
                · have g5 : decide ((j : Int) < (ps.length : Int)) = true := decide_eq_true (by omega)
                  by_cases hb : b = 0
                  · subst hb
                    go_wp2_with fail
                    go_meet
                    case rel => exact ⟨by simp, rfl⟩
                  · have g6 : ((b : Int) != 0) = true := bne_iff_ne.2 (by omega)
                    go_wp2_with fail
                    go_meet
                    case rel => exact ⟨by simp [hj, hb], rfl⟩
                · have g5 : decide ((j : Int) < (ps.length : Int)) = false := decide_eq_false (by omega)
                  go_wp2_with fail
                  go_meet
                  case rel => exact ⟨by simp [hj], rfl⟩
              case rest =>
              obtain ⟨rfl, hwc⟩ := hcut
              replace hwc := hwc.symm
              subst hwc
              cases hc : (decide (j < ps.length) && b != 0) with
              | true =>
                have hj : j < ps.length := by simp at hc; exact hc.1
                have hb : b ≠ 0 := by simp at hc; exact hc.2
                clear hc
                have hq := List.getElem?_eq_getElem hj
                have hdrj : ps.drop j = ps[j] :: ps.drop (j + 1) := List.drop_eq_getElem_cons hj
                have hpq := H4.out.rws _ (List.getElem_mem hj)
                generalize ps[j] = q at *
                have HQ := hide (And.intro hq (And.intro hdrj hpq))
                clear hq hdrj hpq
                go_upto_region 37 with fail
                refine wp_region_mix (fun z => Below wr.heap.size wr z) [12] (by kernel_rfl) (fun hcl => ?_)
                have hS : Below wr.heap.size wr wr.drew := (Below.refl _ _).drew
                refine wpAnyT_free (i := 0) hcl rfl (by kernel_rfl) (v := ?_) (fun _ _ _ h => h) hS (Or.inl ⟨rfl, fun w' _ => ?_⟩) (fun hcl => ?_)
                rotate_left
                · go_simp
                  with_reducible rfl
                simp only [List.getElem_toArray, List.getElem_cons_zero, List.getElem_cons_succ, Act.put, List.setIfInBounds_toArray, List.set_cons_zero, List.set_cons_succ]
                refine wpAnyT_free (i := 1) hcl rfl (by kernel_rfl) (v := ?_) (fun _ _ _ h => h) hS (Or.inl ⟨rfl, fun w' _ => ?_⟩) (fun hcl => ?_)
                rotate_left
                · go_simp
                  with_reducible rfl
                simp only [List.getElem_toArray, List.getElem_cons_zero, List.getElem_cons_succ, Act.put, List.setIfInBounds_toArray, List.set_cons_zero, List.set_cons_succ]
                refine wpAnyT_free (i := 2) hcl rfl (by kernel_rfl) (v := ?_) (fun _ _ _ h => h) hS (Or.inl ⟨rfl, fun w' _ => ?_⟩) (fun hcl => ?_)
                rotate_left
                · go_simp
                  with_reducible rfl
                simp only [List.getElem_toArray, List.getElem_cons_zero, List.getElem_cons_succ, Act.put, List.setIfInBounds_toArray, List.set_cons_zero, List.set_cons_succ]
                refine wpAnyT_free (i := 3) hcl rfl (by kernel_rfl) (v := ?_) (fun _ _ _ h => h) hS (Or.inl ⟨rfl, fun w' _ => ?_⟩) (fun hcl => ?_)
                rotate_left
                · go_simp
                  with_reducible rfl
                simp only [List.getElem_toArray, List.getElem_cons_zero, List.getElem_cons_succ, Act.put, List.setIfInBounds_toArray, List.set_cons_zero, List.set_cons_succ]
                refine wpAnyT_free (i := 4) hcl rfl (by kernel_rfl) (v := ?_) (fun _ _ _ h => h) hS (Or.inl ⟨rfl, fun w' _ => ?_⟩) (fun hcl => ?_)
                rotate_left
                · go_simp
                  with_reducible rfl
                simp only [List.getElem_toArray, List.getElem_cons_zero, List.getElem_cons_succ, Act.put, List.setIfInBounds_toArray, List.set_cons_zero, List.set_cons_succ]
                refine wpAnyT_take (i := 5) hcl rfl (by kernel_rfl) (v := ?_) (fun _ _ _ h => h) hS (Or.inl ⟨rfl, fun w' hS => ?_⟩) (fun hcl => ?_)
                rotate_left
                · skip
                  obtain ⟨gl2, eg2, _, n0, n1, n2⟩ := (H4.out.own.below hS (Nat.le_refl _)).at_ HE.out.1
                  injection eg2 with eg2; injection eg2 with eg2 _; subst eg2
                  go_simp
                  with_reducible rfl
                simp only [List.getElem_toArray, List.getElem_cons_zero, List.getElem_cons_succ, Act.put, List.setIfInBounds_toArray, List.set_cons_zero, List.set_cons_succ]
                refine wpAnyT_free (i := 6) hcl rfl (by kernel_rfl) (v := ?_) (fun _ _ _ h => h) hS (Or.inl ⟨rfl, fun w' _ => ?_⟩) (fun hcl => ?_)
                rotate_left
                · go_simp
                  with_reducible rfl
                simp only [List.getElem_toArray, List.getElem_cons_zero, List.getElem_cons_succ, Act.put, List.setIfInBounds_toArray, List.set_cons_zero, List.set_cons_succ]
                refine wpAnyT_free (i := 7) hcl rfl (by kernel_rfl) (v := ?_) (fun _ _ _ h => h) hS (Or.inl ⟨rfl, fun w' _ => ?_⟩) (fun hcl => ?_)
                rotate_left
                · go_simp
                  with_reducible rfl
                simp only [List.getElem_toArray, List.getElem_cons_zero, List.getElem_cons_succ, Act.put, List.setIfInBounds_toArray, List.set_cons_zero, List.set_cons_succ]
                refine wpAnyT_free (i := 8) hcl rfl (by kernel_rfl) (v := ?_) (fun _ _ _ h => h) hS (Or.inl ⟨rfl, fun w' _ => ?_⟩) (fun hcl => ?_)
                rotate_left
                · go_simp
                  with_reducible rfl
                simp only [List.getElem_toArray, List.getElem_cons_zero, List.getElem_cons_succ, Act.put, List.setIfInBounds_toArray, List.set_cons_zero, List.set_cons_succ]
                refine wpAnyT_free (i := 9) hcl rfl (by kernel_rfl) (v := ?_) (fun _ _ _ h => h) hS (Or.inl ⟨rfl, fun w' _ => ?_⟩) (fun hcl => ?_)
                rotate_left
                · go_simp
                  with_reducible rfl
                simp only [List.getElem_toArray, List.getElem_cons_zero, List.getElem_cons_succ, Act.put, List.setIfInBounds_toArray, List.set_cons_zero, List.set_cons_succ]
                refine wpAnyT_take (i := 10) hcl rfl (by kernel_rfl) (v := ?_) (fun _ _ _ h => h) hS (Or.inl ⟨rfl, fun w' hS => ?_⟩) (fun hcl => ?_)
                rotate_left
                · skip
                  obtain ⟨gl2, eg2, _, n0, n1, n2⟩ := (H4.out.own.below hS (Nat.le_refl _)).at_ HQ.out.1
                  injection eg2 with eg2; injection eg2 with eg2 _; subst eg2
                  go_simp
                  with_reducible rfl
                simp only [List.getElem_toArray, List.getElem_cons_zero, List.getElem_cons_succ, Act.put, List.setIfInBounds_toArray, List.set_cons_zero, List.set_cons_succ]
                refine wpAnyT_free (i := 11) hcl rfl (by kernel_rfl) (v := ?_) (fun _ _ _ h => h) hS (Or.inl ⟨rfl, fun w' _ => ?_⟩) (fun hcl => ?_)
                rotate_left
                · go_simp
                  with_reducible rfl
                simp only [List.getElem_toArray, List.getElem_cons_zero, List.getElem_cons_succ, Act.put, List.setIfInBounds_toArray, List.set_cons_zero, List.set_cons_succ]
                refine wpAnyT_last (i := 12) hcl rfl (by kernel_rfl) (by kernel_rfl) (fun hcl => ?_)
                simp only [List.getElem_toArray, List.getElem_cons_zero, List.getElem_cons_succ, Act.put, List.setIfInBounds_toArray, List.set_cons_zero, List.set_cons_succ]
                have hpe4 := H4.out.rws e (List.mem_of_getElem? HE.out.1)
                have HLd := hide (lead17_any gm N fb fc e.l q.f b B0 rows sv1 M' s1.S e.pt.lst q.pt.fst wr.drew (by omega) hb16 hpe4.1.2.2 HQ.out.2.2.1.2.1 (H4.out.at_.next hS) (hpe4.2.2.1.next hS) (HQ.out.2.2.2.1.next hS) (fun i hi e9 => by have := HRL.out i hi; have := hpe4.2.2.2.2; omega) (fun i hi e9 => by have := HRL.out i hi; have := HQ.out.2.2.2.2.2.1; omega))
                have HS4 := hide hS
                clear hS hpe4
                go_wp2_with fail
                refine HLd.out.mono ?_
                rintro e' wl ⟨rfl, hled⟩
                have hX5 := (H4.out.next (by omega) (by omega) HS4.out).led HRL.out (by have := HS4.out.size; omega) hled
                have hq5 := hX5.own.at_ HQ.out.1
                obtain ⟨gl3, eg3, _, nq, _, _⟩ := hq5
                injection eg3 with eg3
                injection eg3 with eg3 _
                subst eg3
                have H5 := hide hX5
                clear hX5 hled HLd
                have hand := andI hb16 HQ.out.2.2.1.1
                have hand16 := andL hb16 HQ.out.2.2.1.1
                go_wp2_with fail
                refine wpAnyT_done (by kernel_rfl) ?_ _
                go_wp2_with fail
                go_roundw
                case rel =>
                  refine ⟨j + 1, b &&& q.pt.null, _, by first | rfl | exact congrArg (Value.int .i64) hand, by go_num, hand16, by omega, by omega, H5.out, ?_⟩
                  rw [← HIN2.out, HQ.out.2.1, List.map_cons, innerGo, if_neg hb]
                case measure => simp [intOf]; omega
              | false =>
                have hstop : innerGo e.pt.lst ((ps.drop (k + 1)).map (·.pt)) 15 M = (b, M') := by
                  rw [← HIN2.out]
                  by_cases hb : b = 0
                  · rw [hb, innerGo_zero]
                  · have : ¬ j < ps.length := by
                      intro hj
                      simp [hj, hb] at hc
                    rw [List.drop_eq_nil_of_le (by omega)]
                    rfl
                have HST := hide hstop
                clear hstop hc
                rename World => W2
                go_upto_region 39 with fail
                refine wp_region_mix (fun z => Below W2.heap.size W2 z) [9] (by kernel_rfl) (fun hcl => ?_)
                have hS : Below W2.heap.size W2 W2.drew := (Below.refl _ _).drew
                refine wpAnyT_free (i := 0) hcl rfl (by kernel_rfl) (v := ?_) (fun _ _ _ h => h) hS (Or.inl ⟨rfl, fun w' _ => ?_⟩) (fun hcl => ?_)
                rotate_left
                · go_simp
                  with_reducible rfl
                simp only [List.getElem_toArray, List.getElem_cons_zero, List.getElem_cons_succ, Act.put, List.setIfInBounds_toArray, List.set_cons_zero, List.set_cons_succ]
                refine wpAnyT_take (i := 1) hcl rfl (by kernel_rfl) (v := ?_) (fun _ _ _ h => h) hS (Or.inl ⟨rfl, fun w' hS => ?_⟩) (fun hcl => ?_)
                rotate_left
                · skip
                  have cx := (H4.out.xbx.nxt hS).cell
                  simp only [PtA.cells] at cx
                  go_simp
                  with_reducible rfl
                simp only [List.getElem_toArray, List.getElem_cons_zero, List.getElem_cons_succ, Act.put, List.setIfInBounds_toArray, List.set_cons_zero, List.set_cons_succ]
                refine wpAnyT_free (i := 2) hcl rfl (by kernel_rfl) (v := ?_) (fun _ _ _ h => h) hS (Or.inl ⟨rfl, fun w' _ => ?_⟩) (fun hcl => ?_)
                rotate_left
                · go_simp
                  with_reducible rfl
                simp only [List.getElem_toArray, List.getElem_cons_zero, List.getElem_cons_succ, Act.put, List.setIfInBounds_toArray, List.set_cons_zero, List.set_cons_succ]
                refine wpAnyT_free (i := 3) hcl rfl (by kernel_rfl) (v := ?_) (fun _ _ _ h => h) hS (Or.inl ⟨rfl, fun w' _ => ?_⟩) (fun hcl => ?_)
                rotate_left
                · go_simp
                  with_reducible rfl
                simp only [List.getElem_toArray, List.getElem_cons_zero, List.getElem_cons_succ, Act.put, List.setIfInBounds_toArray, List.set_cons_zero, List.set_cons_succ]
                refine wpAnyT_free (i := 4) hcl rfl (by kernel_rfl) (v := ?_) (fun _ _ _ h => h) hS (Or.inl ⟨rfl, fun w' _ => ?_⟩) (fun hcl => ?_)
                rotate_left
                · go_simp
                  with_reducible rfl
                simp only [List.getElem_toArray, List.getElem_cons_zero, List.getElem_cons_succ, Act.put, List.setIfInBounds_toArray, List.set_cons_zero, List.set_cons_succ]
                refine wpAnyT_free (i := 5) hcl rfl (by kernel_rfl) (v := ?_) (fun _ _ _ h => h) hS (Or.inl ⟨rfl, fun w' _ => ?_⟩) (fun hcl => ?_)
                rotate_left
                · go_simp
                  with_reducible rfl
                simp only [List.getElem_toArray, List.getElem_cons_zero, List.getElem_cons_succ, Act.put, List.setIfInBounds_toArray, List.set_cons_zero, List.set_cons_succ]
                refine wpAnyT_take (i := 6) hcl rfl (by kernel_rfl) (v := ?_) (fun _ _ _ h => h) hS (Or.inl ⟨rfl, fun w' hS => ?_⟩) (fun hcl => ?_)
                rotate_left
                · skip
                  obtain ⟨gl2, eg2, _, n0, n1, n2⟩ := (H4.out.own.below hS (Nat.le_refl _)).at_ HE.out.1
                  injection eg2 with eg2; injection eg2 with eg2 _; subst eg2
                  go_simp
                  with_reducible rfl
                simp only [List.getElem_toArray, List.getElem_cons_zero, List.getElem_cons_succ, Act.put, List.setIfInBounds_toArray, List.set_cons_zero, List.set_cons_succ]
                refine wpAnyT_free (i := 7) hcl rfl (by kernel_rfl) (v := ?_) (fun _ _ _ h => h) hS (Or.inl ⟨rfl, fun w' _ => ?_⟩) (fun hcl => ?_)
                rotate_left
                · go_simp
                  with_reducible rfl
                simp only [List.getElem_toArray, List.getElem_cons_zero, List.getElem_cons_succ, Act.put, List.setIfInBounds_toArray, List.set_cons_zero, List.set_cons_succ]
                refine wpAnyT_step (i := 8) hcl rfl (by kernel_rfl) (fun hcl => ?_)
                simp only [List.getElem_toArray, List.getElem_cons_zero, List.getElem_cons_succ, Act.put, List.setIfInBounds_toArray, List.set_cons_zero, List.set_cons_succ]
                have hpx8 := H4.out.part ⟨⟨x.pt.null, fun i => x.pt.fst i ||| (e.pt.fst i &&& x.pt.null), x.pt.lst⟩, gj7, x.l⟩ (List.mem_singleton.2 rfl)
                have hpe8 := H4.out.rws e (List.mem_of_getElem? HE.out.1)
                have HMt8 := hide (met17_any N e.l (b) e.pt.lst W2.drew (by omega) hb16 hpe8.1.2.2 (hpe8.2.2.1.next hS))
                have HJ8 := hide (fun (gm2 : Nat) (z : World) (hz : Below W2.heap.size W2 z) (hm : InRow z gm2 N (fun i => e.pt.lst i &&& (b))) => joined17_any N x.l gm2 x.pt.lst (fun i => e.pt.lst i &&& (b)) z (by omega) hpx8.1.2.2 (fun i => andL (hpe8.1.2.2 i) hb16) (hpx8.2.2.1.next hz) hm)
                have HS8 := hide hS
                have HP8 := hide (And.intro hpx8 hpe8)
                clear hS hpx8 hpe8
                go_wp2_with fail
                refine HMt8.out.mono ?_
                rintro e' wm8 ⟨gmt, rfl, hrowm, hgmt, hbm⟩
                have hbmW := HS8.out.trans (hbm.mono HS8.out.size)
                have HBM8 := hide (And.intro hbmW hrowm)
                clear hbmW hrowm hbm HMt8
                go_wp2_with fail
                refine ⟨HBM8.out.1, ?_⟩
                refine wpAnyT_last (i := 9) hcl rfl (by kernel_rfl) (by kernel_rfl) (fun hcl => ?_)
                simp only [List.getElem_toArray, List.getElem_cons_zero, List.getElem_cons_succ, Act.put, List.setIfInBounds_toArray, List.set_cons_zero, List.set_cons_succ]
                go_wp2_with fail
                refine (HJ8.out gmt _ HBM8.out.1 HBM8.out.2).mono ?_
                rintro e' wj8 ⟨gj8, rfl, hrow, hgj, hb⟩
                have hbW := HBM8.out.1.trans (hb.mono HBM8.out.1.size)
                have hX2 := H4.out.next (by omega) (by omega) hbW
                have hzW := hbW.size
                have hgj8 : W2.heap.size ≤ gj8 := Nat.le_trans HBM8.out.1.size hgj
                have cx := hX2.xbx.cell
                simp only [PtA.cells] at cx
                have fx := hX2.xbx.frozen
                have H82 := hide (And.intro hX2 (And.intro hrow hbW))
                clear hX2 hrow hb hbW HJ8 HBM8
                go_wp2_with fail
                refine wpAnyT_last (i := 10) hcl rfl (by kernel_rfl) (by kernel_rfl) (fun hcl => ?_)
                simp only [List.getElem_toArray, List.getElem_cons_zero, List.getElem_cons_succ, Act.put, List.setIfInBounds_toArray, List.set_cons_zero, List.set_cons_succ]
                go_wp2_with fail
                refine wpAnyT_last (i := 11) hcl rfl (by kernel_rfl) (by kernel_rfl) (fun hcl => ?_)
                simp only [List.getElem_toArray, List.getElem_cons_zero, List.getElem_cons_succ, Act.put, List.setIfInBounds_toArray, List.set_cons_zero, List.set_cons_succ]
                go_wp2_with fail
                refine wpAnyT_done (by kernel_rfl) ?_ _
                clear cx fx
                have hX3 := H82.out.1.put hB0 2 (.slice (some ⟨gj8, 0, none⟩) N N) (x' := ⟨⟨x.pt.null, fun i => x.pt.fst i ||| (e.pt.fst i &&& x.pt.null), fun i => x.pt.lst i ||| (e.pt.lst i &&& b)⟩, gj7, gj8⟩) rfl (fun z hz => by
                  obtain rfl := List.mem_singleton.1 hz
                  have hp := H82.out.1.part ⟨⟨x.pt.null, fun i => x.pt.fst i ||| (e.pt.fst i &&& x.pt.null), x.pt.lst⟩, gj7, x.l⟩ (List.mem_singleton.2 rfl)
                  exact ⟨⟨hp.1.1, hp.1.2.1, fun i => orL (HP8.out.1.1.2.2 i) (andL (HP8.out.2.1.2.2 i) hb16)⟩, hp.2.1, H82.out.2.1, hp.2.2.2.1, by show y.heap.size + 2 ≤ gj8; omega⟩)
                have H83 := hide hX3
                clear hX3 H82 HS8
                generalize (wj8.setCell ⟨gx, 2, none⟩ (.slice (some ⟨gj8, 0, none⟩) N N)) = W3 at *
                have hlW3 := H83.out.xbx.lt
                go_upto_region 40 with fail
                refine wp_region_mix (fun z => Below W3.heap.size W3 z) [9] (by kernel_rfl) (fun hcl => ?_)
                have ha := andI hnx HE.out.2.2.1.1.1
                have hS : Below W3.heap.size W3 W3.drew := (Below.refl _ _).drew
                refine wpAnyT_free (i := 0) hcl rfl (by kernel_rfl) (v := ?_) (fun _ _ _ h => h) hS (Or.inl ⟨rfl, fun w' _ => ?_⟩) (fun hcl => ?_)
                rotate_left
                · go_simp
                  with_reducible rfl
                simp only [List.getElem_toArray, List.getElem_cons_zero, List.getElem_cons_succ, Act.put, List.setIfInBounds_toArray, List.set_cons_zero, List.set_cons_succ]
                refine wpAnyT_take (i := 1) hcl rfl (by kernel_rfl) (v := ?_) (fun _ _ _ h => h) hS (Or.inl ⟨rfl, fun w' hS => ?_⟩) (fun hcl => ?_)
                rotate_left
                · skip
                  have cx := (H83.out.xbx.nxt hS).cell
                  simp only [PtA.cells] at cx
                  go_simp
                  with_reducible rfl
                simp only [List.getElem_toArray, List.getElem_cons_zero, List.getElem_cons_succ, Act.put, List.setIfInBounds_toArray, List.set_cons_zero, List.set_cons_succ]
                refine wpAnyT_free (i := 2) hcl rfl (by kernel_rfl) (v := ?_) (fun _ _ _ h => h) hS (Or.inl ⟨rfl, fun w' _ => ?_⟩) (fun hcl => ?_)
                rotate_left
                · go_simp
                  with_reducible rfl
                simp only [List.getElem_toArray, List.getElem_cons_zero, List.getElem_cons_succ, Act.put, List.setIfInBounds_toArray, List.set_cons_zero, List.set_cons_succ]
                refine wpAnyT_free (i := 3) hcl rfl (by kernel_rfl) (v := ?_) (fun _ _ _ h => h) hS (Or.inl ⟨rfl, fun w' _ => ?_⟩) (fun hcl => ?_)
                rotate_left
                · go_simp
                  with_reducible rfl
                simp only [List.getElem_toArray, List.getElem_cons_zero, List.getElem_cons_succ, Act.put, List.setIfInBounds_toArray, List.set_cons_zero, List.set_cons_succ]
                refine wpAnyT_free (i := 4) hcl rfl (by kernel_rfl) (v := ?_) (fun _ _ _ h => h) hS (Or.inl ⟨rfl, fun w' _ => ?_⟩) (fun hcl => ?_)
                rotate_left
                · go_simp
                  with_reducible rfl
                simp only [List.getElem_toArray, List.getElem_cons_zero, List.getElem_cons_succ, Act.put, List.setIfInBounds_toArray, List.set_cons_zero, List.set_cons_succ]
                refine wpAnyT_free (i := 5) hcl rfl (by kernel_rfl) (v := ?_) (fun _ _ _ h => h) hS (Or.inl ⟨rfl, fun w' _ => ?_⟩) (fun hcl => ?_)
                rotate_left
                · go_simp
                  with_reducible rfl
                simp only [List.getElem_toArray, List.getElem_cons_zero, List.getElem_cons_succ, Act.put, List.setIfInBounds_toArray, List.set_cons_zero, List.set_cons_succ]
                refine wpAnyT_take (i := 6) hcl rfl (by kernel_rfl) (v := ?_) (fun _ _ _ h => h) hS (Or.inl ⟨rfl, fun w' hS => ?_⟩) (fun hcl => ?_)
                rotate_left
                · skip
                  obtain ⟨gl2, eg2, _, n0, n1, n2⟩ := (H83.out.own.below hS (Nat.le_refl _)).at_ HE.out.1
                  injection eg2 with eg2; injection eg2 with eg2 _; subst eg2
                  go_simp
                  with_reducible rfl
                simp only [List.getElem_toArray, List.getElem_cons_zero, List.getElem_cons_succ, Act.put, List.setIfInBounds_toArray, List.set_cons_zero, List.set_cons_succ]
                refine wpAnyT_free (i := 7) hcl rfl (by kernel_rfl) (v := ?_) (fun _ _ _ h => h) hS (Or.inl ⟨rfl, fun w' _ => ?_⟩) (fun hcl => ?_)
                rotate_left
                · go_simp
                  with_reducible rfl
                simp only [List.getElem_toArray, List.getElem_cons_zero, List.getElem_cons_succ, Act.put, List.setIfInBounds_toArray, List.set_cons_zero, List.set_cons_succ]
                refine wpAnyT_free (i := 8) hcl rfl (by kernel_rfl) (v := ?_) (fun _ _ _ h => h) hS (Or.inl ⟨rfl, fun w' _ => ?_⟩) (fun hcl => ?_)
                rotate_left
                · go_simp
                  with_reducible rfl
                simp only [List.getElem_toArray, List.getElem_cons_zero, List.getElem_cons_succ, Act.put, List.setIfInBounds_toArray, List.set_cons_zero, List.set_cons_succ]
                refine wpAnyT_last (i := 9) hcl rfl (by kernel_rfl) (by kernel_rfl) (fun hcl => ?_)
                simp only [List.getElem_toArray, List.getElem_cons_zero, List.getElem_cons_succ, Act.put, List.setIfInBounds_toArray, List.set_cons_zero, List.set_cons_succ]
                have cx := (H83.out.xbx.nxt hS).cell
                simp only [PtA.cells] at cx
                have fx := (H83.out.xbx.nxt hS).frozen
                clear hS
                go_wp2_with fail
                refine wpAnyT_done (by kernel_rfl) ?_ _
                clear cx fx
                have hX9 := H83.out.put hB0 0 (.int .i64 ((x.pt.null &&& e.pt.null : Nat) : Int)) (x' := ⟨⟨x.pt.null &&& e.pt.null, fun i => x.pt.fst i ||| (e.pt.fst i &&& x.pt.null), fun i => x.pt.lst i ||| (e.pt.lst i &&& b)⟩, gj7, gj8⟩) rfl (fun z hz => by
                  obtain rfl := List.mem_singleton.1 hz
                  have hp := H83.out.part _ (List.mem_singleton.2 rfl)
                  exact ⟨⟨andL hnx HE.out.2.2.1.1.1, hp.1.2⟩, hp.2⟩)
                have hz9 : W3.heap.size = (W3.setCell ⟨gx, 0, none⟩ (.int .i64 ((x.pt.null &&& e.pt.null : Nat) : Int))).heap.size := by simp
                replace hX9 := hX9.next (by omega) (by omega) (Below.refl _ _).drew
                have H9 := hide hX9
                clear hX9 ha hz9 H83
                generalize (W3.setCell ⟨gx, 0, none⟩ (.int .i64 ((x.pt.null &&& e.pt.null : Nat) : Int))).drew = W9 at *
                have hl9 := H9.out.xbx.lt
                go_wp2_with fail
                go_roundw
                case rel =>
                  refine ⟨k + 1, _, M', by go_num, hlt, H9.out, ?_⟩
                  rw [← HPT.out, HE.out.2.1, List.map_cons, seqGo, HST.out]
                case measure => simp [intOf]; omega
        · -- alternatives
          obtain ⟨PA, Pc, hu5, hpc⟩ := HX.out.own.form
          subst hu5
          clear hpc
          have hpsl : ps.length ≤ 1000000 := by
            have h2 : ∀ (l : List T) (s : St), (TL.of17 l s).1.length = l.length := by
              intro l
              induction l with
              | nil => intro s; rfl
              | cons t l ih2 => intro s; simp only [TL.of17, List.length_cons]; rw [ih2]
            have := congrArg List.length HX.out.pts
            rw [List.length_map, h2] at this
            omega
          have cb := HX.out.box.cell
          have hcur : gx < w4.heap.size := hgxw
          go_wp2_with fail
          clear cb
          go_loopw [9] (fun iv wr => ∃ (k : Nat) (x : PtA), iv = .int .i64 k ∧ k ≤ ps.length ∧ XAt17 gm N fb fc rows B0 s sv l y #[.int .i64 6, .int .u64 s0, .int .u64 s1', .int .u64 s2, .int .u64 s3, .slice A l.length c, .int .i64 num, .int .i64 mn, .int .i64 mx, .bool bare] ps (.slice PA ps.length Pc) sv1 s1.M s1.S x gx wr ∧ x.pt = ((ps.take k).map (·.pt)).foldl joinPt zeroPt) (fun iv _ => ps.length - (intOf iv).toNat)
          case atStart => exact ⟨0, _, rfl, by omega, HX.out, rfl⟩
          case round =>
            clear HX
            obtain ⟨k, x, rfl, hk, hX, hx⟩ := hrel
            have HX := hide hX
            have HPT := hide hx
            clear hX hx
            have hgxl := HX.out.xbx.lt
            have hlow := HX.out.low
            by_cases hlt : k < ps.length
            case neg =>
              have g2 : decide ((k : Int) < (ps.length : Int)) = false := decide_eq_false (by omega)
              have hR : R = (x.pt, ⟨s1.S, s1.M⟩) := by
                rw [HOF.out, HPT.out, List.take_of_length_le (by omega), HPL.out]
                rfl
              have HRR := hide hR
              clear hR
              have cx := HX.out.xbx.cell
              simp only [PtA.cells] at cx
              go_wp2_with (refine wpList_store_row rfl _ _ _ rfl (y.heap.size + 1) 0 _ _ _ rfl rfl HX.out.res Tryd.sizePart (by simp) (by simp [Value.oneCell']) ?_)
              intro w9 hrow2 hg9 hz9
              have hrow := hrow2.out
              rw [splice_full (by rfl)] at hrow
              have hs9 : Same (fun b => b < wr.heap.size ∧ b ≠ y.heap.size + 1) wr w9 := fun b hb => hg9.block b hb.1 (fun e => hb.2 (by injection e))
              have hb9 : Below B0 y w9 := below_grew HX.out.below hg9 hB0 (fun g hg => by injection hg with hg; omega)
              have HF := hide (And.intro hrow (HX.out.fin HRL.out hgl hfl HRR.out (by have := HX.out.xbx.lt; have := HX.out.low; omega) hs9 hb9))
              clear hrow hrow2 hg9 hz9 hs9 hb9 cx
              go_wp2_with fail
              refine bodyPost_ret (results_cell_row rfl _ _ (y.heap.size + 1) _ _ (0, 0) _ rfl HF.out.1 Tryd.underlying126 rfl Tryd.sizePart) rfl ?_
              exact ⟨_, _, rfl, HF.out.2⟩
            have g2 : decide ((k : Int) < (ps.length : Int)) = true := decide_eq_true (by omega)
            have he := List.getElem?_eq_getElem hlt
            have htk : ps.take (k + 1) = ps.take k ++ [ps[k]] := by rw [List.take_add_one, he]; rfl
            have hpe := HX.out.rws _ (List.getElem_mem hlt)
            generalize ps[k] = e at *
            obtain ⟨gl, rfl, hgll, n0, n1, n2⟩ := HX.out.own.at_ he
            have hpx := HX.out.part x (by simp)
            have ho := orI hpx.1.1 hpe.1.1
            have HE := hide (And.intro he (And.intro htk (And.intro hpe hpx)))
            clear he htk hpe hpx n0 n1 n2
            go_upto_region 24 with fail
            refine wp_region_mix (fun z => Below wr.heap.size wr z) [9] (by kernel_rfl) (fun hcl => ?_)
            have hS : Below wr.heap.size wr wr.drew := (Below.refl _ _).drew
            refine wpAnyT_free (i := 0) hcl rfl (by kernel_rfl) (v := ?_) (fun _ _ _ h => h) hS (Or.inl ⟨rfl, fun w' _ => ?_⟩) (fun hcl => ?_)
            rotate_left
            · go_simp
              with_reducible rfl
            simp only [List.getElem_toArray, List.getElem_cons_zero, List.getElem_cons_succ, Act.put, List.setIfInBounds_toArray, List.set_cons_zero, List.set_cons_succ]
            refine wpAnyT_take (i := 1) hcl rfl (by kernel_rfl) (v := ?_) (fun _ _ _ h => h) hS (Or.inl ⟨rfl, fun w' hS => ?_⟩) (fun hcl => ?_)
            rotate_left
            · skip
              have cx := (HX.out.xbx.nxt hS).cell
              simp only [PtA.cells] at cx
              go_simp
              with_reducible rfl
            simp only [List.getElem_toArray, List.getElem_cons_zero, List.getElem_cons_succ, Act.put, List.setIfInBounds_toArray, List.set_cons_zero, List.set_cons_succ]
            refine wpAnyT_free (i := 2) hcl rfl (by kernel_rfl) (v := ?_) (fun _ _ _ h => h) hS (Or.inl ⟨rfl, fun w' _ => ?_⟩) (fun hcl => ?_)
            rotate_left
            · go_simp
              with_reducible rfl
            simp only [List.getElem_toArray, List.getElem_cons_zero, List.getElem_cons_succ, Act.put, List.setIfInBounds_toArray, List.set_cons_zero, List.set_cons_succ]
            refine wpAnyT_free (i := 3) hcl rfl (by kernel_rfl) (v := ?_) (fun _ _ _ h => h) hS (Or.inl ⟨rfl, fun w' _ => ?_⟩) (fun hcl => ?_)
            rotate_left
            · go_simp
              with_reducible rfl
            simp only [List.getElem_toArray, List.getElem_cons_zero, List.getElem_cons_succ, Act.put, List.setIfInBounds_toArray, List.set_cons_zero, List.set_cons_succ]
            refine wpAnyT_free (i := 4) hcl rfl (by kernel_rfl) (v := ?_) (fun _ _ _ h => h) hS (Or.inl ⟨rfl, fun w' _ => ?_⟩) (fun hcl => ?_)
            rotate_left
            · go_simp
              with_reducible rfl
            simp only [List.getElem_toArray, List.getElem_cons_zero, List.getElem_cons_succ, Act.put, List.setIfInBounds_toArray, List.set_cons_zero, List.set_cons_succ]
            refine wpAnyT_free (i := 5) hcl rfl (by kernel_rfl) (v := ?_) (fun _ _ _ h => h) hS (Or.inl ⟨rfl, fun w' _ => ?_⟩) (fun hcl => ?_)
            rotate_left
            · go_simp
              with_reducible rfl
            simp only [List.getElem_toArray, List.getElem_cons_zero, List.getElem_cons_succ, Act.put, List.setIfInBounds_toArray, List.set_cons_zero, List.set_cons_succ]
            refine wpAnyT_take (i := 6) hcl rfl (by kernel_rfl) (v := ?_) (fun _ _ _ h => h) hS (Or.inl ⟨rfl, fun w' hS => ?_⟩) (fun hcl => ?_)
            rotate_left
            · skip
              obtain ⟨gl2, eg2, _, n0, n1, n2⟩ := (HX.out.own.below hS (Nat.le_refl _)).at_ HE.out.1
              injection eg2 with eg2; injection eg2 with eg2 _; subst eg2
              go_simp
              with_reducible rfl
            simp only [List.getElem_toArray, List.getElem_cons_zero, List.getElem_cons_succ, Act.put, List.setIfInBounds_toArray, List.set_cons_zero, List.set_cons_succ]
            refine wpAnyT_free (i := 7) hcl rfl (by kernel_rfl) (v := ?_) (fun _ _ _ h => h) hS (Or.inl ⟨rfl, fun w' _ => ?_⟩) (fun hcl => ?_)
            rotate_left
            · go_simp
              with_reducible rfl
            simp only [List.getElem_toArray, List.getElem_cons_zero, List.getElem_cons_succ, Act.put, List.setIfInBounds_toArray, List.set_cons_zero, List.set_cons_succ]
            refine wpAnyT_free (i := 8) hcl rfl (by kernel_rfl) (v := ?_) (fun _ _ _ h => h) hS (Or.inl ⟨rfl, fun w' _ => ?_⟩) (fun hcl => ?_)
            rotate_left
            · go_simp
              with_reducible rfl
            simp only [List.getElem_toArray, List.getElem_cons_zero, List.getElem_cons_succ, Act.put, List.setIfInBounds_toArray, List.set_cons_zero, List.set_cons_succ]
            refine wpAnyT_last (i := 9) hcl rfl (by kernel_rfl) (by kernel_rfl) (fun hcl => ?_)
            simp only [List.getElem_toArray, List.getElem_cons_zero, List.getElem_cons_succ, Act.put, List.setIfInBounds_toArray, List.set_cons_zero, List.set_cons_succ]
            have cx := (HX.out.xbx.nxt hS).cell
            simp only [PtA.cells] at cx
            have fx := (HX.out.xbx.nxt hS).frozen
            clear hS
            go_wp2_with fail
            refine wpAnyT_done (by kernel_rfl) ?_ _
            clear cx fx
            have hX1 := HX.out.put hB0 0 (.int .i64 ((x.pt.null ||| e.pt.null : Nat) : Int)) (x' := ⟨⟨x.pt.null ||| e.pt.null, x.pt.fst, x.pt.lst⟩, x.f, x.l⟩) rfl (fun z hz => by
              obtain rfl := List.mem_singleton.1 hz
              exact ⟨⟨orL HE.out.2.2.2.1.1 HE.out.2.2.1.1.1, HE.out.2.2.2.1.2⟩, HE.out.2.2.2.2⟩)
            have hz1 : wr.heap.size = (wr.setCell ⟨gx, 0, none⟩ (.int .i64 ((x.pt.null ||| e.pt.null : Nat) : Int))).heap.size := by simp
            replace hX1 := hX1.next (by omega) (by omega) (Below.refl _ _).drew
            have H1 := hide hX1
            clear hX1 ho hz1
            rename World => W0
            generalize (W0.setCell ⟨gx, 0, none⟩ (.int .i64 ((x.pt.null ||| e.pt.null : Nat) : Int))).drew = W1 at *
            have hl1 := H1.out.xbx.lt
            go_upto_region 25 with fail
            refine wp_region_mix (fun z => Below W1.heap.size W1 z) [7] (by kernel_rfl) (fun hcl => ?_)
            have hS : Below W1.heap.size W1 W1.drew := (Below.refl _ _).drew
            refine wpAnyT_free (i := 0) hcl rfl (by kernel_rfl) (v := ?_) (fun _ _ _ h => h) hS (Or.inl ⟨rfl, fun w' _ => ?_⟩) (fun hcl => ?_)
            rotate_left
            · go_simp
              with_reducible rfl
            simp only [List.getElem_toArray, List.getElem_cons_zero, List.getElem_cons_succ, Act.put, List.setIfInBounds_toArray, List.set_cons_zero, List.set_cons_succ]
            refine wpAnyT_take (i := 1) hcl rfl (by kernel_rfl) (v := ?_) (fun _ _ _ h => h) hS (Or.inl ⟨rfl, fun w' hS => ?_⟩) (fun hcl => ?_)
            rotate_left
            · skip
              have cx := (H1.out.xbx.nxt hS).cell
              simp only [PtA.cells] at cx
              go_simp
              with_reducible rfl
            simp only [List.getElem_toArray, List.getElem_cons_zero, List.getElem_cons_succ, Act.put, List.setIfInBounds_toArray, List.set_cons_zero, List.set_cons_succ]
            refine wpAnyT_free (i := 2) hcl rfl (by kernel_rfl) (v := ?_) (fun _ _ _ h => h) hS (Or.inl ⟨rfl, fun w' _ => ?_⟩) (fun hcl => ?_)
            rotate_left
            · go_simp
              with_reducible rfl
            simp only [List.getElem_toArray, List.getElem_cons_zero, List.getElem_cons_succ, Act.put, List.setIfInBounds_toArray, List.set_cons_zero, List.set_cons_succ]
            refine wpAnyT_free (i := 3) hcl rfl (by kernel_rfl) (v := ?_) (fun _ _ _ h => h) hS (Or.inl ⟨rfl, fun w' _ => ?_⟩) (fun hcl => ?_)
            rotate_left
            · go_simp
              with_reducible rfl
            simp only [List.getElem_toArray, List.getElem_cons_zero, List.getElem_cons_succ, Act.put, List.setIfInBounds_toArray, List.set_cons_zero, List.set_cons_succ]
            refine wpAnyT_free (i := 4) hcl rfl (by kernel_rfl) (v := ?_) (fun _ _ _ h => h) hS (Or.inl ⟨rfl, fun w' _ => ?_⟩) (fun hcl => ?_)
            rotate_left
            · go_simp
              with_reducible rfl
            simp only [List.getElem_toArray, List.getElem_cons_zero, List.getElem_cons_succ, Act.put, List.setIfInBounds_toArray, List.set_cons_zero, List.set_cons_succ]
            refine wpAnyT_free (i := 5) hcl rfl (by kernel_rfl) (v := ?_) (fun _ _ _ h => h) hS (Or.inl ⟨rfl, fun w' _ => ?_⟩) (fun hcl => ?_)
            rotate_left
            · go_simp
              with_reducible rfl
            simp only [List.getElem_toArray, List.getElem_cons_zero, List.getElem_cons_succ, Act.put, List.setIfInBounds_toArray, List.set_cons_zero, List.set_cons_succ]
            refine wpAnyT_take (i := 6) hcl rfl (by kernel_rfl) (v := ?_) (fun _ _ _ h => h) hS (Or.inl ⟨rfl, fun w' hS => ?_⟩) (fun hcl => ?_)
            rotate_left
            · skip
              obtain ⟨gl2, eg2, _, n0, n1, n2⟩ := (H1.out.own.below hS (Nat.le_refl _)).at_ HE.out.1
              injection eg2 with eg2; injection eg2 with eg2 _; subst eg2
              go_simp
              with_reducible rfl
            simp only [List.getElem_toArray, List.getElem_cons_zero, List.getElem_cons_succ, Act.put, List.setIfInBounds_toArray, List.set_cons_zero, List.set_cons_succ]
            refine wpAnyT_last (i := 7) hcl rfl (by kernel_rfl) (by kernel_rfl) (fun hcl => ?_)
            simp only [List.getElem_toArray, List.getElem_cons_zero, List.getElem_cons_succ, Act.put, List.setIfInBounds_toArray, List.set_cons_zero, List.set_cons_succ]
            have hpx5 := H1.out.part ⟨⟨x.pt.null ||| e.pt.null, x.pt.fst, x.pt.lst⟩, x.f, x.l⟩ (List.mem_singleton.2 rfl)
            have hpe5 := H1.out.rws e (List.mem_of_getElem? HE.out.1)
            have HJ5 := hide (joined17_any N x.f e.f x.pt.fst e.pt.fst W1.drew (by omega) hpx5.1.2.1 hpe5.1.2.1 (hpx5.2.1.next hS) (hpe5.2.1.next hS))
            have HS5 := hide hS
            have HP5 := hide (And.intro hpx5 hpe5)
            clear hS hpx5 hpe5
            go_wp2_with fail
            refine HJ5.out.mono ?_
            rintro e' wj5 ⟨gj5, rfl, hrow, hgj, hb⟩
            have hbW := HS5.out.trans (hb.mono HS5.out.size)
            have hX2 := H1.out.next (by omega) (by omega) hbW
            have hzW := hbW.size
            have hgj5 : W1.heap.size ≤ gj5 := Nat.le_trans HS5.out.size hgj
            have cx := hX2.xbx.cell
            simp only [PtA.cells] at cx
            have fx := hX2.xbx.frozen
            have H52 := hide (And.intro hX2 (And.intro hrow hbW))
            clear hX2 hrow hb hbW HJ5
            go_wp2_with fail
            refine wpAnyT_last (i := 8) hcl rfl (by kernel_rfl) (by kernel_rfl) (fun hcl => ?_)
            simp only [List.getElem_toArray, List.getElem_cons_zero, List.getElem_cons_succ, Act.put, List.setIfInBounds_toArray, List.set_cons_zero, List.set_cons_succ]
            go_wp2_with fail
            refine wpAnyT_last (i := 9) hcl rfl (by kernel_rfl) (by kernel_rfl) (fun hcl => ?_)
            simp only [List.getElem_toArray, List.getElem_cons_zero, List.getElem_cons_succ, Act.put, List.setIfInBounds_toArray, List.set_cons_zero, List.set_cons_succ]
            go_wp2_with fail
            refine wpAnyT_done (by kernel_rfl) ?_ _
            clear cx fx
            have hX3 := H52.out.1.put hB0 1 (.slice (some ⟨gj5, 0, none⟩) N N) (x' := ⟨⟨x.pt.null ||| e.pt.null, fun i => x.pt.fst i ||| e.pt.fst i, x.pt.lst⟩, gj5, x.l⟩) rfl (fun z hz => by
              obtain rfl := List.mem_singleton.1 hz
              have hp := H52.out.1.part ⟨⟨x.pt.null ||| e.pt.null, x.pt.fst, x.pt.lst⟩, x.f, x.l⟩ (List.mem_singleton.2 rfl)
              exact ⟨⟨hp.1.1, fun i => orL (HP5.out.1.1.2.1 i) (HP5.out.2.1.2.1 i), hp.1.2.2⟩, H52.out.2.1, hp.2.2.1, by show y.heap.size + 2 ≤ gj5; omega, hp.2.2.2.2⟩)
            have H53 := hide hX3
            clear hX3 H52 HS5 HP5
            generalize (wj5.setCell ⟨gx, 1, none⟩ (.slice (some ⟨gj5, 0, none⟩) N N)) = W2 at *
            have hlW2 := H53.out.xbx.lt
            go_upto_region 26 with fail
            refine wp_region_mix (fun z => Below W2.heap.size W2 z) [7] (by kernel_rfl) (fun hcl => ?_)
            have hS : Below W2.heap.size W2 W2.drew := (Below.refl _ _).drew
            refine wpAnyT_free (i := 0) hcl rfl (by kernel_rfl) (v := ?_) (fun _ _ _ h => h) hS (Or.inl ⟨rfl, fun w' _ => ?_⟩) (fun hcl => ?_)
            rotate_left
            · go_simp
              with_reducible rfl
            simp only [List.getElem_toArray, List.getElem_cons_zero, List.getElem_cons_succ, Act.put, List.setIfInBounds_toArray, List.set_cons_zero, List.set_cons_succ]
            refine wpAnyT_take (i := 1) hcl rfl (by kernel_rfl) (v := ?_) (fun _ _ _ h => h) hS (Or.inl ⟨rfl, fun w' hS => ?_⟩) (fun hcl => ?_)
            rotate_left
            · skip
              have cx := (H53.out.xbx.nxt hS).cell
              simp only [PtA.cells] at cx
              go_simp
              with_reducible rfl
            simp only [List.getElem_toArray, List.getElem_cons_zero, List.getElem_cons_succ, Act.put, List.setIfInBounds_toArray, List.set_cons_zero, List.set_cons_succ]
            refine wpAnyT_free (i := 2) hcl rfl (by kernel_rfl) (v := ?_) (fun _ _ _ h => h) hS (Or.inl ⟨rfl, fun w' _ => ?_⟩) (fun hcl => ?_)
            rotate_left
            · go_simp
              with_reducible rfl
            simp only [List.getElem_toArray, List.getElem_cons_zero, List.getElem_cons_succ, Act.put, List.setIfInBounds_toArray, List.set_cons_zero, List.set_cons_succ]
            refine wpAnyT_free (i := 3) hcl rfl (by kernel_rfl) (v := ?_) (fun _ _ _ h => h) hS (Or.inl ⟨rfl, fun w' _ => ?_⟩) (fun hcl => ?_)
            rotate_left
            · go_simp
              with_reducible rfl
            simp only [List.getElem_toArray, List.getElem_cons_zero, List.getElem_cons_succ, Act.put, List.setIfInBounds_toArray, List.set_cons_zero, List.set_cons_succ]
            refine wpAnyT_free (i := 4) hcl rfl (by kernel_rfl) (v := ?_) (fun _ _ _ h => h) hS (Or.inl ⟨rfl, fun w' _ => ?_⟩) (fun hcl => ?_)
            rotate_left
            · go_simp
              with_reducible rfl
            simp only [List.getElem_toArray, List.getElem_cons_zero, List.getElem_cons_succ, Act.put, List.setIfInBounds_toArray, List.set_cons_zero, List.set_cons_succ]
            refine wpAnyT_free (i := 5) hcl rfl (by kernel_rfl) (v := ?_) (fun _ _ _ h => h) hS (Or.inl ⟨rfl, fun w' _ => ?_⟩) (fun hcl => ?_)
            rotate_left
            · go_simp
              with_reducible rfl
            simp only [List.getElem_toArray, List.getElem_cons_zero, List.getElem_cons_succ, Act.put, List.setIfInBounds_toArray, List.set_cons_zero, List.set_cons_succ]
            refine wpAnyT_take (i := 6) hcl rfl (by kernel_rfl) (v := ?_) (fun _ _ _ h => h) hS (Or.inl ⟨rfl, fun w' hS => ?_⟩) (fun hcl => ?_)
            rotate_left
            · skip
              obtain ⟨gl2, eg2, _, n0, n1, n2⟩ := (H53.out.own.below hS (Nat.le_refl _)).at_ HE.out.1
              injection eg2 with eg2; injection eg2 with eg2 _; subst eg2
              go_simp
              with_reducible rfl
            simp only [List.getElem_toArray, List.getElem_cons_zero, List.getElem_cons_succ, Act.put, List.setIfInBounds_toArray, List.set_cons_zero, List.set_cons_succ]
            refine wpAnyT_last (i := 7) hcl rfl (by kernel_rfl) (by kernel_rfl) (fun hcl => ?_)
            simp only [List.getElem_toArray, List.getElem_cons_zero, List.getElem_cons_succ, Act.put, List.setIfInBounds_toArray, List.set_cons_zero, List.set_cons_succ]
            have hpx6 := H53.out.part ⟨⟨x.pt.null ||| e.pt.null, fun i => x.pt.fst i ||| e.pt.fst i, x.pt.lst⟩, gj5, x.l⟩ (List.mem_singleton.2 rfl)
            have hpe6 := H53.out.rws e (List.mem_of_getElem? HE.out.1)
            have HJ6 := hide (joined17_any N x.l e.l x.pt.lst e.pt.lst W2.drew (by omega) hpx6.1.2.2 hpe6.1.2.2 (hpx6.2.2.1.next hS) (hpe6.2.2.1.next hS))
            have HS6 := hide hS
            have HP6 := hide (And.intro hpx6 hpe6)
            clear hS hpx6 hpe6
            go_wp2_with fail
            refine HJ6.out.mono ?_
            rintro e' wj6 ⟨gj6, rfl, hrow, hgj, hb⟩
            have hbW := HS6.out.trans (hb.mono HS6.out.size)
            have hX2 := H53.out.next (by omega) (by omega) hbW
            have hzW := hbW.size
            have hgj6 : W2.heap.size ≤ gj6 := Nat.le_trans HS6.out.size hgj
            have cx := hX2.xbx.cell
            simp only [PtA.cells] at cx
            have fx := hX2.xbx.frozen
            have H62 := hide (And.intro hX2 (And.intro hrow hbW))
            clear hX2 hrow hb hbW HJ6
            go_wp2_with fail
            refine wpAnyT_last (i := 8) hcl rfl (by kernel_rfl) (by kernel_rfl) (fun hcl => ?_)
            simp only [List.getElem_toArray, List.getElem_cons_zero, List.getElem_cons_succ, Act.put, List.setIfInBounds_toArray, List.set_cons_zero, List.set_cons_succ]
            go_wp2_with fail
            refine wpAnyT_last (i := 9) hcl rfl (by kernel_rfl) (by kernel_rfl) (fun hcl => ?_)
            simp only [List.getElem_toArray, List.getElem_cons_zero, List.getElem_cons_succ, Act.put, List.setIfInBounds_toArray, List.set_cons_zero, List.set_cons_succ]
            go_wp2_with fail
            refine wpAnyT_done (by kernel_rfl) ?_ _
            clear cx fx
            have hX3 := H62.out.1.put hB0 2 (.slice (some ⟨gj6, 0, none⟩) N N) (x' := ⟨⟨x.pt.null ||| e.pt.null, fun i => x.pt.fst i ||| e.pt.fst i, fun i => x.pt.lst i ||| e.pt.lst i⟩, gj5, gj6⟩) rfl (fun z hz => by
              obtain rfl := List.mem_singleton.1 hz
              have hp := H62.out.1.part ⟨⟨x.pt.null ||| e.pt.null, fun i => x.pt.fst i ||| e.pt.fst i, x.pt.lst⟩, gj5, x.l⟩ (List.mem_singleton.2 rfl)
              exact ⟨⟨hp.1.1, hp.1.2.1, fun i => orL (HP6.out.1.1.2.2 i) (HP6.out.2.1.2.2 i)⟩, hp.2.1, H62.out.2.1, hp.2.2.2.1, by show y.heap.size + 2 ≤ gj6; omega⟩)
            have H63 := hide hX3
            clear hX3 H62 HS6 HP6
            generalize (wj6.setCell ⟨gx, 2, none⟩ (.slice (some ⟨gj6, 0, none⟩) N N)) = W3 at *
            have hlW3 := H63.out.xbx.lt
            go_wp2_with fail
            go_roundw
            case rel => exact ⟨k + 1, _, by go_num, hlt, H63.out, by rw [HE.out.2.1, List.map_append, List.foldl_append, ← HPT.out]; rfl⟩
            case measure => simp [intOf]; omega
        · -- a group
          obtain ⟨PA, Pc, hu5, hpc⟩ := HX.out.own.form
          subst hu5
          clear hpc
          have hpsl : ps.length ≤ 1000000 := by
            have h2 : ∀ (l : List T) (s : St), (TL.of17 l s).1.length = l.length := by
              intro l
              induction l with
              | nil => intro s; rfl
              | cons t l ih2 => intro s; simp only [TL.of17, List.length_cons]; rw [ih2]
            have := congrArg List.length HX.out.pts
            rw [List.length_map, h2] at this
            omega
          have cb := HX.out.box.cell
          have hcur : gx < w4.heap.size := hgxw
          go_wp2_with fail
          clear cb
          go_loopw [9] (fun iv wr => ∃ (k : Nat) (x : PtA), iv = .int .i64 k ∧ k ≤ ps.length ∧ XAt17 gm N fb fc rows B0 s sv l y #[.int .i64 7, .int .u64 s0, .int .u64 s1', .int .u64 s2, .int .u64 s3, .slice A l.length c, .int .i64 num, .int .i64 mn, .int .i64 mx, .bool bare] ps (.slice PA ps.length Pc) sv1 s1.M s1.S x gx wr ∧ x.pt = ((ps.take k).map (·.pt)).foldl joinPt zeroPt) (fun iv _ => ps.length - (intOf iv).toNat)
          case atStart => exact ⟨0, _, rfl, by omega, HX.out, rfl⟩
          case round =>
            clear HX
            obtain ⟨k, x, rfl, hk, hX, hx⟩ := hrel
            have HX := hide hX
            have HPT := hide hx
            clear hX hx
            have hgxl := HX.out.xbx.lt
            have hlow := HX.out.low
            by_cases hlt : k < ps.length
            case neg =>
              have g2 : decide ((k : Int) < (ps.length : Int)) = false := decide_eq_false (by omega)
              have hR : R = (x.pt, ⟨s1.S, s1.M⟩) := by
                rw [HOF.out, HPT.out, List.take_of_length_le (by omega), HPL.out]
                rfl
              have HRR := hide hR
              clear hR
              have cx := HX.out.xbx.cell
              simp only [PtA.cells] at cx
              go_wp2_with (refine wpList_store_row rfl _ _ _ rfl (y.heap.size + 1) 0 _ _ _ rfl rfl HX.out.res Tryd.sizePart (by simp) (by simp [Value.oneCell']) ?_)
              intro w9 hrow2 hg9 hz9
              have hrow := hrow2.out
              rw [splice_full (by rfl)] at hrow
              have hs9 : Same (fun b => b < wr.heap.size ∧ b ≠ y.heap.size + 1) wr w9 := fun b hb => hg9.block b hb.1 (fun e => hb.2 (by injection e))
              have hb9 : Below B0 y w9 := below_grew HX.out.below hg9 hB0 (fun g hg => by injection hg with hg; omega)
              have HF := hide (And.intro hrow (HX.out.fin HRL.out hgl hfl HRR.out (by have := HX.out.xbx.lt; have := HX.out.low; omega) hs9 hb9))
              clear hrow hrow2 hg9 hz9 hs9 hb9 cx
              go_wp2_with fail
              refine bodyPost_ret (results_cell_row rfl _ _ (y.heap.size + 1) _ _ (0, 0) _ rfl HF.out.1 Tryd.underlying126 rfl Tryd.sizePart) rfl ?_
              exact ⟨_, _, rfl, HF.out.2⟩
            have g2 : decide ((k : Int) < (ps.length : Int)) = true := decide_eq_true (by omega)
            have he := List.getElem?_eq_getElem hlt
            have htk : ps.take (k + 1) = ps.take k ++ [ps[k]] := by rw [List.take_add_one, he]; rfl
            have hpe := HX.out.rws _ (List.getElem_mem hlt)
            generalize ps[k] = e at *
            obtain ⟨gl, rfl, hgll, n0, n1, n2⟩ := HX.out.own.at_ he
            have hpx := HX.out.part x (by simp)
            have ho := orI hpx.1.1 hpe.1.1
            have HE := hide (And.intro he (And.intro htk (And.intro hpe hpx)))
            clear he htk hpe hpx n0 n1 n2
            go_upto_region 24 with fail
            refine wp_region_mix (fun z => Below wr.heap.size wr z) [9] (by kernel_rfl) (fun hcl => ?_)
            have hS : Below wr.heap.size wr wr.drew := (Below.refl _ _).drew
            refine wpAnyT_free (i := 0) hcl rfl (by kernel_rfl) (v := ?_) (fun _ _ _ h => h) hS (Or.inl ⟨rfl, fun w' _ => ?_⟩) (fun hcl => ?_)
            rotate_left
            · go_simp
              with_reducible rfl
            simp only [List.getElem_toArray, List.getElem_cons_zero, List.getElem_cons_succ, Act.put, List.setIfInBounds_toArray, List.set_cons_zero, List.set_cons_succ]
            refine wpAnyT_take (i := 1) hcl rfl (by kernel_rfl) (v := ?_) (fun _ _ _ h => h) hS (Or.inl ⟨rfl, fun w' hS => ?_⟩) (fun hcl => ?_)
            rotate_left
            · skip
              have cx := (HX.out.xbx.nxt hS).cell
              simp only [PtA.cells] at cx
              go_simp
              with_reducible rfl
            simp only [List.getElem_toArray, List.getElem_cons_zero, List.getElem_cons_succ, Act.put, List.setIfInBounds_toArray, List.set_cons_zero, List.set_cons_succ]
            refine wpAnyT_free (i := 2) hcl rfl (by kernel_rfl) (v := ?_) (fun _ _ _ h => h) hS (Or.inl ⟨rfl, fun w' _ => ?_⟩) (fun hcl => ?_)
            rotate_left
            · go_simp
              with_reducible rfl
            simp only [List.getElem_toArray, List.getElem_cons_zero, List.getElem_cons_succ, Act.put, List.setIfInBounds_toArray, List.set_cons_zero, List.set_cons_succ]
            refine wpAnyT_free (i := 3) hcl rfl (by kernel_rfl) (v := ?_) (fun _ _ _ h => h) hS (Or.inl ⟨rfl, fun w' _ => ?_⟩) (fun hcl => ?_)
            rotate_left
            · go_simp
              with_reducible rfl
            simp only [List.getElem_toArray, List.getElem_cons_zero, List.getElem_cons_succ, Act.put, List.setIfInBounds_toArray, List.set_cons_zero, List.set_cons_succ]
            refine wpAnyT_free (i := 4) hcl rfl (by kernel_rfl) (v := ?_) (fun _ _ _ h => h) hS (Or.inl ⟨rfl, fun w' _ => ?_⟩) (fun hcl => ?_)
            rotate_left
            · go_simp
              with_reducible rfl
            simp only [List.getElem_toArray, List.getElem_cons_zero, List.getElem_cons_succ, Act.put, List.setIfInBounds_toArray, List.set_cons_zero, List.set_cons_succ]
            refine wpAnyT_free (i := 5) hcl rfl (by kernel_rfl) (v := ?_) (fun _ _ _ h => h) hS (Or.inl ⟨rfl, fun w' _ => ?_⟩) (fun hcl => ?_)
            rotate_left
            · go_simp
              with_reducible rfl
            simp only [List.getElem_toArray, List.getElem_cons_zero, List.getElem_cons_succ, Act.put, List.setIfInBounds_toArray, List.set_cons_zero, List.set_cons_succ]
            refine wpAnyT_take (i := 6) hcl rfl (by kernel_rfl) (v := ?_) (fun _ _ _ h => h) hS (Or.inl ⟨rfl, fun w' hS => ?_⟩) (fun hcl => ?_)
            rotate_left
            · skip
              obtain ⟨gl2, eg2, _, n0, n1, n2⟩ := (HX.out.own.below hS (Nat.le_refl _)).at_ HE.out.1
              injection eg2 with eg2; injection eg2 with eg2 _; subst eg2
              go_simp
              with_reducible rfl
            simp only [List.getElem_toArray, List.getElem_cons_zero, List.getElem_cons_succ, Act.put, List.setIfInBounds_toArray, List.set_cons_zero, List.set_cons_succ]
            refine wpAnyT_free (i := 7) hcl rfl (by kernel_rfl) (v := ?_) (fun _ _ _ h => h) hS (Or.inl ⟨rfl, fun w' _ => ?_⟩) (fun hcl => ?_)
            rotate_left
            · go_simp
              with_reducible rfl
            simp only [List.getElem_toArray, List.getElem_cons_zero, List.getElem_cons_succ, Act.put, List.setIfInBounds_toArray, List.set_cons_zero, List.set_cons_succ]
            refine wpAnyT_free (i := 8) hcl rfl (by kernel_rfl) (v := ?_) (fun _ _ _ h => h) hS (Or.inl ⟨rfl, fun w' _ => ?_⟩) (fun hcl => ?_)
            rotate_left
            · go_simp
              with_reducible rfl
            simp only [List.getElem_toArray, List.getElem_cons_zero, List.getElem_cons_succ, Act.put, List.setIfInBounds_toArray, List.set_cons_zero, List.set_cons_succ]
            refine wpAnyT_last (i := 9) hcl rfl (by kernel_rfl) (by kernel_rfl) (fun hcl => ?_)
            simp only [List.getElem_toArray, List.getElem_cons_zero, List.getElem_cons_succ, Act.put, List.setIfInBounds_toArray, List.set_cons_zero, List.set_cons_succ]
            have cx := (HX.out.xbx.nxt hS).cell
            simp only [PtA.cells] at cx
            have fx := (HX.out.xbx.nxt hS).frozen
            clear hS
            go_wp2_with fail
            refine wpAnyT_done (by kernel_rfl) ?_ _
            clear cx fx
            have hX1 := HX.out.put hB0 0 (.int .i64 ((x.pt.null ||| e.pt.null : Nat) : Int)) (x' := ⟨⟨x.pt.null ||| e.pt.null, x.pt.fst, x.pt.lst⟩, x.f, x.l⟩) rfl (fun z hz => by
              obtain rfl := List.mem_singleton.1 hz
              exact ⟨⟨orL HE.out.2.2.2.1.1 HE.out.2.2.1.1.1, HE.out.2.2.2.1.2⟩, HE.out.2.2.2.2⟩)
            have hz1 : wr.heap.size = (wr.setCell ⟨gx, 0, none⟩ (.int .i64 ((x.pt.null ||| e.pt.null : Nat) : Int))).heap.size := by simp
            replace hX1 := hX1.next (by omega) (by omega) (Below.refl _ _).drew
            have H1 := hide hX1
            clear hX1 ho hz1
            rename World => W0
            generalize (W0.setCell ⟨gx, 0, none⟩ (.int .i64 ((x.pt.null ||| e.pt.null : Nat) : Int))).drew = W1 at *
            have hl1 := H1.out.xbx.lt
            go_upto_region 25 with fail
            refine wp_region_mix (fun z => Below W1.heap.size W1 z) [7] (by kernel_rfl) (fun hcl => ?_)
            have hS : Below W1.heap.size W1 W1.drew := (Below.refl _ _).drew
            refine wpAnyT_free (i := 0) hcl rfl (by kernel_rfl) (v := ?_) (fun _ _ _ h => h) hS (Or.inl ⟨rfl, fun w' _ => ?_⟩) (fun hcl => ?_)
            rotate_left
            · go_simp
              with_reducible rfl
            simp only [List.getElem_toArray, List.getElem_cons_zero, List.getElem_cons_succ, Act.put, List.setIfInBounds_toArray, List.set_cons_zero, List.set_cons_succ]
            refine wpAnyT_take (i := 1) hcl rfl (by kernel_rfl) (v := ?_) (fun _ _ _ h => h) hS (Or.inl ⟨rfl, fun w' hS => ?_⟩) (fun hcl => ?_)
            rotate_left
            · skip
              have cx := (H1.out.xbx.nxt hS).cell
              simp only [PtA.cells] at cx
              go_simp
              with_reducible rfl
            simp only [List.getElem_toArray, List.getElem_cons_zero, List.getElem_cons_succ, Act.put, List.setIfInBounds_toArray, List.set_cons_zero, List.set_cons_succ]
            refine wpAnyT_free (i := 2) hcl rfl (by kernel_rfl) (v := ?_) (fun _ _ _ h => h) hS (Or.inl ⟨rfl, fun w' _ => ?_⟩) (fun hcl => ?_)
            rotate_left
            · go_simp
              with_reducible rfl
            simp only [List.getElem_toArray, List.getElem_cons_zero, List.getElem_cons_succ, Act.put, List.setIfInBounds_toArray, List.set_cons_zero, List.set_cons_succ]
            refine wpAnyT_free (i := 3) hcl rfl (by kernel_rfl) (v := ?_) (fun _ _ _ h => h) hS (Or.inl ⟨rfl, fun w' _ => ?_⟩) (fun hcl => ?_)
            rotate_left
            · go_simp
              with_reducible rfl
            simp only [List.getElem_toArray, List.getElem_cons_zero, List.getElem_cons_succ, Act.put, List.setIfInBounds_toArray, List.set_cons_zero, List.set_cons_succ]
            refine wpAnyT_free (i := 4) hcl rfl (by kernel_rfl) (v := ?_) (fun _ _ _ h => h) hS (Or.inl ⟨rfl, fun w' _ => ?_⟩) (fun hcl => ?_)
            rotate_left
            · go_simp
              with_reducible rfl
            simp only [List.getElem_toArray, List.getElem_cons_zero, List.getElem_cons_succ, Act.put, List.setIfInBounds_toArray, List.set_cons_zero, List.set_cons_succ]
            refine wpAnyT_free (i := 5) hcl rfl (by kernel_rfl) (v := ?_) (fun _ _ _ h => h) hS (Or.inl ⟨rfl, fun w' _ => ?_⟩) (fun hcl => ?_)
            rotate_left
            · go_simp
              with_reducible rfl
            simp only [List.getElem_toArray, List.getElem_cons_zero, List.getElem_cons_succ, Act.put, List.setIfInBounds_toArray, List.set_cons_zero, List.set_cons_succ]
            refine wpAnyT_take (i := 6) hcl rfl (by kernel_rfl) (v := ?_) (fun _ _ _ h => h) hS (Or.inl ⟨rfl, fun w' hS => ?_⟩) (fun hcl => ?_)
            rotate_left
            · skip
              obtain ⟨gl2, eg2, _, n0, n1, n2⟩ := (H1.out.own.below hS (Nat.le_refl _)).at_ HE.out.1
              injection eg2 with eg2; injection eg2 with eg2 _; subst eg2
              go_simp
              with_reducible rfl
            simp only [List.getElem_toArray, List.getElem_cons_zero, List.getElem_cons_succ, Act.put, List.setIfInBounds_toArray, List.set_cons_zero, List.set_cons_succ]
            refine wpAnyT_last (i := 7) hcl rfl (by kernel_rfl) (by kernel_rfl) (fun hcl => ?_)
            simp only [List.getElem_toArray, List.getElem_cons_zero, List.getElem_cons_succ, Act.put, List.setIfInBounds_toArray, List.set_cons_zero, List.set_cons_succ]
            have hpx5 := H1.out.part ⟨⟨x.pt.null ||| e.pt.null, x.pt.fst, x.pt.lst⟩, x.f, x.l⟩ (List.mem_singleton.2 rfl)
            have hpe5 := H1.out.rws e (List.mem_of_getElem? HE.out.1)
            have HJ5 := hide (joined17_any N x.f e.f x.pt.fst e.pt.fst W1.drew (by omega) hpx5.1.2.1 hpe5.1.2.1 (hpx5.2.1.next hS) (hpe5.2.1.next hS))
            have HS5 := hide hS
            have HP5 := hide (And.intro hpx5 hpe5)
            clear hS hpx5 hpe5
            go_wp2_with fail
            refine HJ5.out.mono ?_
            rintro e' wj5 ⟨gj5, rfl, hrow, hgj, hb⟩
            have hbW := HS5.out.trans (hb.mono HS5.out.size)
            have hX2 := H1.out.next (by omega) (by omega) hbW
            have hzW := hbW.size
            have hgj5 : W1.heap.size ≤ gj5 := Nat.le_trans HS5.out.size hgj
            have cx := hX2.xbx.cell
            simp only [PtA.cells] at cx
            have fx := hX2.xbx.frozen
            have H52 := hide (And.intro hX2 (And.intro hrow hbW))
            clear hX2 hrow hb hbW HJ5
            go_wp2_with fail
            refine wpAnyT_last (i := 8) hcl rfl (by kernel_rfl) (by kernel_rfl) (fun hcl => ?_)
            simp only [List.getElem_toArray, List.getElem_cons_zero, List.getElem_cons_succ, Act.put, List.setIfInBounds_toArray, List.set_cons_zero, List.set_cons_succ]
            go_wp2_with fail
            refine wpAnyT_last (i := 9) hcl rfl (by kernel_rfl) (by kernel_rfl) (fun hcl => ?_)
            simp only [List.getElem_toArray, List.getElem_cons_zero, List.getElem_cons_succ, Act.put, List.setIfInBounds_toArray, List.set_cons_zero, List.set_cons_succ]
            go_wp2_with fail
            refine wpAnyT_done (by kernel_rfl) ?_ _
            clear cx fx
            have hX3 := H52.out.1.put hB0 1 (.slice (some ⟨gj5, 0, none⟩) N N) (x' := ⟨⟨x.pt.null ||| e.pt.null, fun i => x.pt.fst i ||| e.pt.fst i, x.pt.lst⟩, gj5, x.l⟩) rfl (fun z hz => by
              obtain rfl := List.mem_singleton.1 hz
              have hp := H52.out.1.part ⟨⟨x.pt.null ||| e.pt.null, x.pt.fst, x.pt.lst⟩, x.f, x.l⟩ (List.mem_singleton.2 rfl)
              exact ⟨⟨hp.1.1, fun i => orL (HP5.out.1.1.2.1 i) (HP5.out.2.1.2.1 i), hp.1.2.2⟩, H52.out.2.1, hp.2.2.1, by show y.heap.size + 2 ≤ gj5; omega, hp.2.2.2.2⟩)
            have H53 := hide hX3
            clear hX3 H52 HS5 HP5
            generalize (wj5.setCell ⟨gx, 1, none⟩ (.slice (some ⟨gj5, 0, none⟩) N N)) = W2 at *
            have hlW2 := H53.out.xbx.lt
            go_upto_region 26 with fail
            refine wp_region_mix (fun z => Below W2.heap.size W2 z) [7] (by kernel_rfl) (fun hcl => ?_)
            have hS : Below W2.heap.size W2 W2.drew := (Below.refl _ _).drew
            refine wpAnyT_free (i := 0) hcl rfl (by kernel_rfl) (v := ?_) (fun _ _ _ h => h) hS (Or.inl ⟨rfl, fun w' _ => ?_⟩) (fun hcl => ?_)
            rotate_left
            · go_simp
              with_reducible rfl
            simp only [List.getElem_toArray, List.getElem_cons_zero, List.getElem_cons_succ, Act.put, List.setIfInBounds_toArray, List.set_cons_zero, List.set_cons_succ]
            refine wpAnyT_take (i := 1) hcl rfl (by kernel_rfl) (v := ?_) (fun _ _ _ h => h) hS (Or.inl ⟨rfl, fun w' hS => ?_⟩) (fun hcl => ?_)
            rotate_left
            · skip
              have cx := (H53.out.xbx.nxt hS).cell
              simp only [PtA.cells] at cx
              go_simp
              with_reducible rfl
            simp only [List.getElem_toArray, List.getElem_cons_zero, List.getElem_cons_succ, Act.put, List.setIfInBounds_toArray, List.set_cons_zero, List.set_cons_succ]
            refine wpAnyT_free (i := 2) hcl rfl (by kernel_rfl) (v := ?_) (fun _ _ _ h => h) hS (Or.inl ⟨rfl, fun w' _ => ?_⟩) (fun hcl => ?_)
            rotate_left
            · go_simp
              with_reducible rfl
            simp only [List.getElem_toArray, List.getElem_cons_zero, List.getElem_cons_succ, Act.put, List.setIfInBounds_toArray, List.set_cons_zero, List.set_cons_succ]
            refine wpAnyT_free (i := 3) hcl rfl (by kernel_rfl) (v := ?_) (fun _ _ _ h => h) hS (Or.inl ⟨rfl, fun w' _ => ?_⟩) (fun hcl => ?_)
            rotate_left
            · go_simp
              with_reducible rfl
            simp only [List.getElem_toArray, List.getElem_cons_zero, List.getElem_cons_succ, Act.put, List.setIfInBounds_toArray, List.set_cons_zero, List.set_cons_succ]
            refine wpAnyT_free (i := 4) hcl rfl (by kernel_rfl) (v := ?_) (fun _ _ _ h => h) hS (Or.inl ⟨rfl, fun w' _ => ?_⟩) (fun hcl => ?_)
            rotate_left
            · go_simp
              with_reducible rfl
            simp only [List.getElem_toArray, List.getElem_cons_zero, List.getElem_cons_succ, Act.put, List.setIfInBounds_toArray, List.set_cons_zero, List.set_cons_succ]
            refine wpAnyT_free (i := 5) hcl rfl (by kernel_rfl) (v := ?_) (fun _ _ _ h => h) hS (Or.inl ⟨rfl, fun w' _ => ?_⟩) (fun hcl => ?_)
            rotate_left
            · go_simp
              with_reducible rfl
            simp only [List.getElem_toArray, List.getElem_cons_zero, List.getElem_cons_succ, Act.put, List.setIfInBounds_toArray, List.set_cons_zero, List.set_cons_succ]
            refine wpAnyT_take (i := 6) hcl rfl (by kernel_rfl) (v := ?_) (fun _ _ _ h => h) hS (Or.inl ⟨rfl, fun w' hS => ?_⟩) (fun hcl => ?_)
            rotate_left
            · skip
              obtain ⟨gl2, eg2, _, n0, n1, n2⟩ := (H53.out.own.below hS (Nat.le_refl _)).at_ HE.out.1
              injection eg2 with eg2; injection eg2 with eg2 _; subst eg2
              go_simp
              with_reducible rfl
            simp only [List.getElem_toArray, List.getElem_cons_zero, List.getElem_cons_succ, Act.put, List.setIfInBounds_toArray, List.set_cons_zero, List.set_cons_succ]
            refine wpAnyT_last (i := 7) hcl rfl (by kernel_rfl) (by kernel_rfl) (fun hcl => ?_)
            simp only [List.getElem_toArray, List.getElem_cons_zero, List.getElem_cons_succ, Act.put, List.setIfInBounds_toArray, List.set_cons_zero, List.set_cons_succ]
            have hpx6 := H53.out.part ⟨⟨x.pt.null ||| e.pt.null, fun i => x.pt.fst i ||| e.pt.fst i, x.pt.lst⟩, gj5, x.l⟩ (List.mem_singleton.2 rfl)
            have hpe6 := H53.out.rws e (List.mem_of_getElem? HE.out.1)
            have HJ6 := hide (joined17_any N x.l e.l x.pt.lst e.pt.lst W2.drew (by omega) hpx6.1.2.2 hpe6.1.2.2 (hpx6.2.2.1.next hS) (hpe6.2.2.1.next hS))
            have HS6 := hide hS
            have HP6 := hide (And.intro hpx6 hpe6)
            clear hS hpx6 hpe6
            go_wp2_with fail
            refine HJ6.out.mono ?_
            rintro e' wj6 ⟨gj6, rfl, hrow, hgj, hb⟩
            have hbW := HS6.out.trans (hb.mono HS6.out.size)
            have hX2 := H53.out.next (by omega) (by omega) hbW
            have hzW := hbW.size
            have hgj6 : W2.heap.size ≤ gj6 := Nat.le_trans HS6.out.size hgj
            have cx := hX2.xbx.cell
            simp only [PtA.cells] at cx
            have fx := hX2.xbx.frozen
            have H62 := hide (And.intro hX2 (And.intro hrow hbW))
            clear hX2 hrow hb hbW HJ6
            go_wp2_with fail
            refine wpAnyT_last (i := 8) hcl rfl (by kernel_rfl) (by kernel_rfl) (fun hcl => ?_)
            simp only [List.getElem_toArray, List.getElem_cons_zero, List.getElem_cons_succ, Act.put, List.setIfInBounds_toArray, List.set_cons_zero, List.set_cons_succ]
            go_wp2_with fail
            refine wpAnyT_last (i := 9) hcl rfl (by kernel_rfl) (by kernel_rfl) (fun hcl => ?_)
            simp only [List.getElem_toArray, List.getElem_cons_zero, List.getElem_cons_succ, Act.put, List.setIfInBounds_toArray, List.set_cons_zero, List.set_cons_succ]
            go_wp2_with fail
            refine wpAnyT_done (by kernel_rfl) ?_ _
            clear cx fx
            have hX3 := H62.out.1.put hB0 2 (.slice (some ⟨gj6, 0, none⟩) N N) (x' := ⟨⟨x.pt.null ||| e.pt.null, fun i => x.pt.fst i ||| e.pt.fst i, fun i => x.pt.lst i ||| e.pt.lst i⟩, gj5, gj6⟩) rfl (fun z hz => by
              obtain rfl := List.mem_singleton.1 hz
              have hp := H62.out.1.part ⟨⟨x.pt.null ||| e.pt.null, fun i => x.pt.fst i ||| e.pt.fst i, x.pt.lst⟩, gj5, x.l⟩ (List.mem_singleton.2 rfl)
              exact ⟨⟨hp.1.1, hp.1.2.1, fun i => orL (HP6.out.1.1.2.2 i) (HP6.out.2.1.2.2 i)⟩, hp.2.1, H62.out.2.1, hp.2.2.2.1, by show y.heap.size + 2 ≤ gj6; omega⟩)
            have H63 := hide hX3
            clear hX3 H62 HS6 HP6
            generalize (wj6.setCell ⟨gx, 2, none⟩ (.slice (some ⟨gj6, 0, none⟩) N N)) = W3 at *
            have hlW3 := H63.out.xbx.lt
            go_wp2_with fail
            go_roundw
            case rel => exact ⟨k + 1, _, by go_num, hlt, H63.out, by rw [HE.out.2.1, List.map_append, List.foldl_append, ← HPT.out]; rfl⟩
            case measure => simp [intOf]; omega
        · -- a leaf
          have hnone := hleaf (by omega)
          have hgl2 := hgl
          have cb := HX.out.box.cell
          have cx := HX.out.xbx.cell
          simp only [PtA.cells, zeroPt] at cx
          have fx := HX.out.xbx.frozen
          have hX0 := HX.out.put hB0 0 (.int .i64 15) (x' := ⟨⟨15, fun _ => 0, fun _ => 0⟩, g1', g2'⟩) rfl (fun z hz => by
            obtain rfl := List.mem_singleton.1 hz
            have hp := HX.out.part ⟨zeroPt, g1', g2'⟩ (List.mem_singleton.2 rfl)
            exact ⟨⟨by show (15 : Nat) < 16; omega, hp.1.2⟩, hp.2⟩)
          have hR : R = (blankPt 15, ⟨s1.S, s1.M⟩) := HOF.out
          have HF0 := hide (And.intro hX0 hR)
          clear hX0 hR
          go_upto_region 46 with fail
          clear cb cx fx HX
          generalize (w4.setCell ⟨gx, 0, none⟩ (.int .i64 15)) = w5 at *
          have cx := HF0.out.1.xbx.cell
          simp only [PtA.cells] at cx
          go_wp2_with (refine wpList_store_row rfl _ _ _ rfl (y.heap.size + 1) 0 _ _ _ rfl rfl HF0.out.1.res Tryd.sizePart (by simp) (by simp [Value.oneCell']) ?_)
          intro w9 hrow2 hg9 hz9
          have hrow := hrow2.out
          rw [splice_full (by rfl)] at hrow
          have hs9 : Same (fun b => b < w5.heap.size ∧ b ≠ y.heap.size + 1) w5 w9 := fun b hb => hg9.block b hb.1 (fun e => hb.2 (by injection e))
          have hb9 : Below B0 y w9 := below_grew HF0.out.1.below hg9 hB0 (fun g hg => by injection hg with hg; omega)
          have HF := hide (And.intro hrow (HF0.out.1.fin HRL.out hgl hfl HF0.out.2 (by have := HF0.out.1.xbx.lt; have := HF0.out.1.low; omega) hs9 hb9))
          clear hrow hrow2 hg9 hz9 hs9 hb9 cx
          go_wp2_with fail
          refine bodyPost_ret (results_cell_row rfl _ _ (y.heap.size + 1) _ _ (0, 0) _ rfl HF.out.1 Tryd.underlying126 rfl Tryd.sizePart) rfl ?_
          exact ⟨_, _, rfl, HF.out.2⟩
        · -- a leaf
          have hnone := hleaf (by omega)
          have hgl2 := hgl
          have cb := HX.out.box.cell
          have cx := HX.out.xbx.cell
          simp only [PtA.cells, zeroPt] at cx
          have fx := HX.out.xbx.frozen
          have hX0 := HX.out.put hB0 0 (.int .i64 10) (x' := ⟨⟨10, fun _ => 0, fun _ => 0⟩, g1', g2'⟩) rfl (fun z hz => by
            obtain rfl := List.mem_singleton.1 hz
            have hp := HX.out.part ⟨zeroPt, g1', g2'⟩ (List.mem_singleton.2 rfl)
            exact ⟨⟨by show (10 : Nat) < 16; omega, hp.1.2⟩, hp.2⟩)
          have hR : R = (blankPt 10, ⟨s1.S, s1.M⟩) := HOF.out
          have HF0 := hide (And.intro hX0 hR)
          clear hX0 hR
          go_upto_region 46 with fail
          clear cb cx fx HX
          generalize (w4.setCell ⟨gx, 0, none⟩ (.int .i64 10)) = w5 at *
          have cx := HF0.out.1.xbx.cell
          simp only [PtA.cells] at cx
          go_wp2_with (refine wpList_store_row rfl _ _ _ rfl (y.heap.size + 1) 0 _ _ _ rfl rfl HF0.out.1.res Tryd.sizePart (by simp) (by simp [Value.oneCell']) ?_)
          intro w9 hrow2 hg9 hz9
          have hrow := hrow2.out
          rw [splice_full (by rfl)] at hrow
          have hs9 : Same (fun b => b < w5.heap.size ∧ b ≠ y.heap.size + 1) w5 w9 := fun b hb => hg9.block b hb.1 (fun e => hb.2 (by injection e))
          have hb9 : Below B0 y w9 := below_grew HF0.out.1.below hg9 hB0 (fun g hg => by injection hg with hg; omega)
          have HF := hide (And.intro hrow (HF0.out.1.fin HRL.out hgl hfl HF0.out.2 (by have := HF0.out.1.xbx.lt; have := HF0.out.1.low; omega) hs9 hb9))
          clear hrow hrow2 hg9 hz9 hs9 hb9 cx
          go_wp2_with fail
          refine bodyPost_ret (results_cell_row rfl _ _ (y.heap.size + 1) _ _ (0, 0) _ rfl HF.out.1 Tryd.underlying126 rfl Tryd.sizePart) rfl ?_
          exact ⟨_, _, rfl, HF.out.2⟩
        · -- a leaf
          have hnone := hleaf (by omega)
          have hgl2 := hgl
          have cb := HX.out.box.cell
          have cx := HX.out.xbx.cell
          simp only [PtA.cells, zeroPt] at cx
          have fx := HX.out.xbx.frozen
          have hX0 := HX.out.put hB0 0 (.int .i64 12) (x' := ⟨⟨12, fun _ => 0, fun _ => 0⟩, g1', g2'⟩) rfl (fun z hz => by
            obtain rfl := List.mem_singleton.1 hz
            have hp := HX.out.part ⟨zeroPt, g1', g2'⟩ (List.mem_singleton.2 rfl)
            exact ⟨⟨by show (12 : Nat) < 16; omega, hp.1.2⟩, hp.2⟩)
          have hR : R = (blankPt 12, ⟨s1.S, s1.M⟩) := HOF.out
          have HF0 := hide (And.intro hX0 hR)
          clear hX0 hR
          go_upto_region 46 with fail
          clear cb cx fx HX
          generalize (w4.setCell ⟨gx, 0, none⟩ (.int .i64 12)) = w5 at *
          have cx := HF0.out.1.xbx.cell
          simp only [PtA.cells] at cx
          go_wp2_with (refine wpList_store_row rfl _ _ _ rfl (y.heap.size + 1) 0 _ _ _ rfl rfl HF0.out.1.res Tryd.sizePart (by simp) (by simp [Value.oneCell']) ?_)
          intro w9 hrow2 hg9 hz9
          have hrow := hrow2.out
          rw [splice_full (by rfl)] at hrow
          have hs9 : Same (fun b => b < w5.heap.size ∧ b ≠ y.heap.size + 1) w5 w9 := fun b hb => hg9.block b hb.1 (fun e => hb.2 (by injection e))
          have hb9 : Below B0 y w9 := below_grew HF0.out.1.below hg9 hB0 (fun g hg => by injection hg with hg; omega)
          have HF := hide (And.intro hrow (HF0.out.1.fin HRL.out hgl hfl HF0.out.2 (by have := HF0.out.1.xbx.lt; have := HF0.out.1.low; omega) hs9 hb9))
          clear hrow hrow2 hg9 hz9 hs9 hb9 cx
          go_wp2_with fail
          refine bodyPost_ret (results_cell_row rfl _ _ (y.heap.size + 1) _ _ (0, 0) _ rfl HF.out.1 Tryd.underlying126 rfl Tryd.sizePart) rfl ?_
          exact ⟨_, _, rfl, HF.out.2⟩
        · -- a repeat
          obtain ⟨PA, Pc, hu5, hpc⟩ := HX.out.own.form
          subst hu5
          clear hpc
          have hpsl : ps.length = 1 := by
            have h2 : ∀ (l : List T) (s : St), (TL.of17 l s).1.length = l.length := by
              intro l
              induction l with
              | nil => intro s; rfl
              | cons t l ih2 => intro s; simp only [TL.of17, List.length_cons]; rw [ih2]
            have := congrArg List.length HX.out.pts
            rw [List.length_map, h2, hrep rfl] at this
            exact this
          obtain ⟨e, he0⟩ := List.length_eq_one_iff.1 hpsl
          have he : ps[0]? = some e := by rw [he0]; rfl
          have hR0 : R = repPt17 mx s1 [e.pt] := by
            rw [HOF.out, ← HPL.out, he0]
            rfl
          have hpe := HX.out.rws e (by rw [he0]; simp)
          obtain ⟨gl, hgla, hgll, n0, n1, n2⟩ := HX.out.own.at_ he
          subst hgla
          rw [Nat.zero_mul] at n0 n1 n2
          have hPS := hide (And.intro he0 (And.intro hR0 hpe))
          rw [hpsl] at HX ⊢
          clear he0 he hR0 hpe
          have cb := HX.out.box.cell
          have cl : ∀ i : Nat, i < 3 → w4.cell? ⟨gl, i, none⟩ = (PtA.cells N e)[i]? := fun i hi => by
            have : i = 0 ∨ i = 1 ∨ i = 2 := by omega
            rcases this with h | h | h <;> subst h <;> assumption
          have cx := HX.out.xbx.cell
          simp only [PtA.cells, zeroPt] at cx
          go_upto_region 42 with fail
          clear cx cb
          have c0 := cl 0 (by decide)
          have c1 := cl 1 (by decide)
          have c2 := cl 2 (by decide)
          clear cl
          simp only [PtA.cells, List.getElem?_cons_zero, List.getElem?_cons_succ] at c0 c1 c2
          go_wp2_with (refine wpList_store_row rfl _ _ _ rfl gx 0 _ _ _ rfl rfl HX.out.xbx Tryd.sizePart (by simp [PtA.cells]) (by simp [Value.oneCell']) ?_)
          intro w5 hrow2 hg5 hz5
          have hrow := hrow2.out
          rw [splice_full (by rfl)] at hrow
          have hs5 : Same (fun b => b < w4.heap.size ∧ b ≠ gx) w4 w5 := fun b hb => hg5.block b hb.1 (fun e => hb.2 (by injection e))
          have hb5 : Below B0 w4 w5 := below_grew (Below.refl _ _) hg5 (by have := HX.out.low; have := HX.out.xbx.lt; omega) (fun g hg => by injection hg with hg; have := HX.out.low; omega)
          have hX5 := HX.out.row hB0 (x' := e) hs5 hb5 hrow (fun z hz => by
            obtain rfl := List.mem_singleton.1 hz
            exact hPS.out.2.2)
          have hX6 := hX5.put hB0 0 (.int .i64 15) (x' := ⟨⟨15, e.pt.fst, e.pt.lst⟩, e.f, e.l⟩) rfl (fun z hz => by
            obtain rfl := List.mem_singleton.1 hz
            have hp := hX5.part e (List.mem_singleton.2 rfl)
            exact ⟨⟨by show (15 : Nat) < 16; omega, hp.1.2⟩, hp.2⟩)
          have cb := hX5.box.cell
          have cx := hX5.xbx.cell
          have fx := hX5.xbx.frozen
          simp only [PtA.cells] at cx
          have H6 := hide hX6
          clear c0 c1 c2 HX hrow hrow2 hg5 hz5 hs5 hb5 hX5 hX6
          by_cases hmx : mx = -1
          · subst hmx
            go_upto_region 45 with fail
            clear cb cx fx
            generalize (w5.setCell ⟨gx, 0, none⟩ (.int .i64 15)) = w6 at *
            have hl := H6.out.part _ (List.mem_singleton.2 rfl)
            have cx := H6.out.xbx.cell
            simp only [PtA.cells] at cx
            have hlow := H6.out.low
            have hxl := H6.out.xbx.lt
            have HLd := hide (lead17_any gm N fb fc e.l e.f 15 B0 rows sv1 s1.M s1.S e.pt.lst e.pt.fst w6 (by omega) (by omega) hl.1.2.2 hl.1.2.1 H6.out.at_ hl.2.2.1 hl.2.1 (fun i hi e9 => by have := HRL.out i hi; have := hl.2.2.2.2; simp only at this; omega) (fun i hi e9 => by have := HRL.out i hi; have := hl.2.2.2.1; simp only at this; omega))
            clear hl
            go_wp2_with fail
            refine HLd.out.mono ?_
            rintro e' w7 ⟨rfl, hled⟩
            have H7 := hide (H6.out.led HRL.out (by omega) hled)
            have hR : R = (⟨15, e.pt.fst, e.pt.lst⟩, ⟨s1.S, ledM s1.M e.pt.lst e.pt.fst 15⟩) := hPS.out.2.1
            have HR7 := hide hR
            clear hled HLd cx H6 hlow hxl hR
            go_upto_region 46 with fail
            generalize w7 = w8 at *
            have cx := H7.out.xbx.cell
            simp only [PtA.cells] at cx
            go_wp2_with (refine wpList_store_row rfl _ _ _ rfl (y.heap.size + 1) 0 _ _ _ rfl rfl H7.out.res Tryd.sizePart (by simp) (by simp [Value.oneCell']) ?_)
            intro w9 hrow2 hg9 hz9
            have hrow := hrow2.out
            rw [splice_full (by rfl)] at hrow
            have hs9 : Same (fun b => b < w8.heap.size ∧ b ≠ y.heap.size + 1) w8 w9 := fun b hb => hg9.block b hb.1 (fun e => hb.2 (by injection e))
            have hb9 : Below B0 y w9 := below_grew H7.out.below hg9 hB0 (fun g hg => by injection hg with hg; omega)
            have HF := hide (And.intro hrow (H7.out.fin HRL.out hgl hfl HR7.out (by have := H7.out.xbx.lt; have := H7.out.low; omega) hs9 hb9))
            clear hrow hrow2 hg9 hz9 hs9 hb9 cx
            go_wp2_with fail
            refine bodyPost_ret (results_cell_row rfl _ _ (y.heap.size + 1) _ _ (0, 0) _ rfl HF.out.1 Tryd.underlying126 rfl Tryd.sizePart) rfl ?_
            exact ⟨_, _, rfl, HF.out.2⟩
          · have hmb : decide (mx = -1) = false := decide_eq_false hmx
            have hmq : (mx == -1) = false := beq_eq_false_iff_ne.2 hmx
            go_upto_region 46 with fail
            clear cb cx fx
            have hR : R = (⟨15, e.pt.fst, e.pt.lst⟩, ⟨s1.S, s1.M⟩) := by
              rw [hPS.out.2.1]
              simp only [repPt17, if_neg hmx]
            have HR7 := hide hR
            clear hR
            generalize (w5.setCell ⟨gx, 0, none⟩ (.int .i64 15)) = w8 at *
            have cx := H6.out.xbx.cell
            simp only [PtA.cells] at cx
            go_wp2_with (refine wpList_store_row rfl _ _ _ rfl (y.heap.size + 1) 0 _ _ _ rfl rfl H6.out.res Tryd.sizePart (by simp) (by simp [Value.oneCell']) ?_)
            intro w9 hrow2 hg9 hz9
            have hrow := hrow2.out
            rw [splice_full (by rfl)] at hrow
            have hs9 : Same (fun b => b < w8.heap.size ∧ b ≠ y.heap.size + 1) w8 w9 := fun b hb => hg9.block b hb.1 (fun e => hb.2 (by injection e))
            have hb9 : Below B0 y w9 := below_grew H6.out.below hg9 hB0 (fun g hg => by injection hg with hg; omega)
            have HF := hide (And.intro hrow (H6.out.fin HRL.out hgl hfl HR7.out (by have := H6.out.xbx.lt; have := H6.out.low; omega) hs9 hb9))
            clear hrow hrow2 hg9 hz9 hs9 hb9 cx
            go_wp2_with fail
            refine bodyPost_ret (results_cell_row rfl _ _ (y.heap.size + 1) _ _ (0, 0) _ rfl HF.out.1 Tryd.underlying126 rfl Tryd.sizePart) rfl ?_
            exact ⟨_, _, rfl, HF.out.2⟩
end Go.Proofs.YtbbhobojghmkpaaDoor
