/- trawlref17.Maker.of: the ways of a tree. (Printed by gen_of17.py.) -/
import Derived.Test.YtbbhobojghmkpaaDoorLead17
import Derived.Test.YtbbhobojghmkpaaDoorTree
set_option linter.unusedSimpArgs false
set_option linter.unusedVariables false
namespace Go.Proofs.YtbbhobojghmkpaaDoor
open Go.RowKit

/-- A node's part: ways of nothing, of its firsts, of its lasts. -/
structure Pt where
  null : Nat
  fst : Nat → Nat
  lst : Nat → Nat
def Pt.small (p : Pt) : Prop := p.null < 16 ∧ (∀ i, p.fst i < 16) ∧ ∀ i, p.lst i < 16
/-- The positions so far, the ways between them. -/
structure St where
  S : List Se
  M : Nat → Nat → Nat

def joinPt (x y : Pt) : Pt := ⟨x.null ||| y.null, fun i => x.fst i ||| y.fst i, fun i => x.lst i ||| y.lst i⟩
def innerGo (l : Nat → Nat) : List Pt → Nat → (Nat → Nat → Nat) → Nat × (Nat → Nat → Nat)
  | [], b, M => (b, M)
  | q :: qs, b, M => if b = 0 then (b, M) else innerGo l qs (b &&& q.null) (ledM M l q.fst b)
def seqGo : Pt → List Pt → (Nat → Nat → Nat) → Pt × (Nat → Nat → Nat)
  | x, [], M => (x, M)
  | x, p :: ps, M => seqGo ⟨x.null &&& p.null, fun i => x.fst i ||| (p.fst i &&& x.null), fun i => x.lst i ||| (p.lst i &&& (innerGo p.lst ps 15 M).1)⟩ ps (innerGo p.lst ps 15 M).2
def zeroPt : Pt := ⟨0, fun _ => 0, fun _ => 0⟩
def blankPt (n : Nat) : Pt := ⟨n, fun _ => 0, fun _ => 0⟩
def repPt17 (mx : Int) (s : St) : List Pt → Pt × St
  | [] => (blankPt 15, s)
  | p :: _ => (⟨15, p.fst, p.lst⟩, if mx = -1 then ⟨s.S, ledM s.M p.lst p.fst 15⟩ else s)
def node17 (h : Hd) (ps : List Pt) (s : St) : Pt × St :=
  if h.kind = 2 then (⟨0, fun i => if i = s.S.length then 15 else 0, fun i => if i = s.S.length then 15 else 0⟩, ⟨s.S ++ [(h.s0, h.s1, h.s2, h.s3)], s.M⟩)
  else if h.kind = 6 then (ps.foldl joinPt zeroPt, s)
  else if h.kind = 1 then (blankPt 15, s)
  else if h.kind = 3 then (blankPt 10, s)
  else if h.kind = 4 then (blankPt 12, s)
  else if h.kind = 8 then repPt17 h.max s ps
  else if h.kind = 5 then ((seqGo ⟨15, fun _ => 0, fun _ => 0⟩ ps s.M).1, ⟨s.S, (seqGo ⟨15, fun _ => 0, fun _ => 0⟩ ps s.M).2⟩)
  else (ps.foldl joinPt zeroPt, s)
mutual
def T.of17 : T → St → Pt × St
  | .mk h l, s => node17 h (TL.of17 l s).1 (TL.of17 l s).2
def TL.of17 : List T → St → List Pt × St
  | [], s => ([], s)
  | t :: l, s => ((t.of17 s).1 :: (TL.of17 l (t.of17 s).2).1, (TL.of17 l (t.of17 s).2).2)
end
theorem TL.of17_snoc : ∀ (l : List T) (t : T) (s : St), TL.of17 (l ++ [t]) s = ((TL.of17 l s).1 ++ [(t.of17 (TL.of17 l s).2).1], (t.of17 (TL.of17 l s).2).2)
  | [], t, s => rfl
  | u :: l, t, s => by simp only [List.cons_append, TL.of17]; rw [TL.of17_snoc l t]
mutual
/-- Kinds from 1 to 8; leaves have no Subs, each repeat has one. -/
def T.three : T → Prop
  | .mk h l => ((1 ≤ h.kind ∧ h.kind ≤ 8) ∧ (h.kind ≤ 4 → l = []) ∧ (h.kind = 8 → l.length = 1)) ∧ TL.three l
def TL.three : List T → Prop
  | [] => True
  | t :: l => t.three ∧ TL.three l
end
theorem TL.three_mem : ∀ {l : List T}, TL.three l → ∀ t ∈ l, t.three
  | t :: l, h, s, hs => by
    rcases List.mem_cons.1 hs with e | e
    · subst e; exact h.1
    · exact TL.three_mem h.2 s e

theorem Tryd.infoPart : (Tryd.prog.info? 126).map (fun i => (i.zero, i.size, i.bytes)) = some (some (.agg #[.int .i64 0, .slice none 0 0, .slice none 0 0]), 3, 56) := by kernel_rfl
theorem Tryd.sizePart : (Tryd.prog.info? 126).map (·.size) = some 3 := by kernel_rfl
/-- A part in memory: where its lists lie. -/
structure PtA where
  pt : Pt
  f : Nat
  l : Nat
def PtA.cells (N : Nat) (x : PtA) : List Value := [.int .i64 ((x.pt.null : Nat) : Int), .slice (some ⟨x.f, 0, none⟩) N N, .slice (some ⟨x.l, 0, none⟩) N N]
def OwnPt (N base : Nat) (w : World) (v : Value) (l : List PtA) : Prop := w.ownsRow base 126 3 v l.length (l.flatMap (PtA.cells N))
section
variable {N base : Nat} {w w' : World} {v : Value} {l : List PtA}
theorem OwnPt.nil (N base : Nat) (w : World) : OwnPt N base w (.slice none 0 0) [] := World.ownsRow_nil _ _ _ _
theorem OwnPt.same {ok : Nat → Prop} (h : OwnPt N base w v l) (hs : Same ok w w') (hk : ∀ g, v.ownBlock = some g → ok g) : OwnPt N base w' v l := by
  refine ⟨h.1, ?_⟩
  rcases h.2 with h | ⟨g, cap, cur, e, hb, hg, r⟩
  · exact .inl h
  · exact .inr ⟨g, cap, cur, e, hb, (hs g (hk g (by rw [e]; rfl))).trans hg, r⟩
theorem OwnPt.below {B : Nat} (h : OwnPt N base w v l) (hb : Below B w w') (hB : w.heap.size ≤ B) : OwnPt N base w' v l :=
  h.same (same_of_below hb) fun g hg => Nat.lt_of_lt_of_le (World.ownsRow.lt h g hg).2 hB
theorem OwnPt.ne_type (h : OwnPt N base w v l) {g : Nat} {t : TypeId} {cs : Array Value} (hb : Blk w g t cs) (ht : t ≠ 126) : ∀ k, v.ownBlock = some k → k ≠ g := fun k hk e => by
  subst e
  rcases h.2 with ⟨e1, _⟩ | ⟨g2, cap, cur, e1, _, hg, _⟩
  · rw [e1] at hk; cases hk
  · rw [e1] at hk
    obtain rfl : g2 = k := by simpa [Value.ownBlock] using hk
    exact Blk.ne_type hb (show Blk w g2 126 cur from hg) ht rfl
theorem flatMap_pt (N : Nat) : ∀ (l : List PtA) (i : Nat) (e : PtA), l[i]? = some e → ∀ j u, (PtA.cells N e)[j]? = some u → (l.flatMap (PtA.cells N))[i * 3 + j]? = some u
  | e :: l, 0, f, h, j, u, hu => by
    obtain rfl : e = f := by simpa using h
    rw [List.flatMap_cons, Nat.zero_mul, Nat.zero_add, List.getElem?_append_left (by have := (List.getElem?_eq_some_iff.1 hu).1; exact this)]
    exact hu
  | e :: l, i + 1, f, h, j, u, hu => by
    rw [List.flatMap_cons, List.getElem?_append_right (by simp [PtA.cells]; omega)]
    have : (i + 1) * 3 + j - (PtA.cells N e).length = i * 3 + j := by simp [PtA.cells]; omega
    rw [this]
    exact flatMap_pt N l i f (by simpa using h) j u hu
theorem OwnPt.form (h : OwnPt N base w v l) : ∃ A c, v = .slice A l.length c ∧ ∀ i x, l[i]? = some x → ∃ g, A = some ⟨g, 0, none⟩ ∧ base ≤ g ∧ g < w.heap.size ∧ w.cell? ⟨g, i * 3, none⟩ = some (.int .i64 ((x.pt.null : Nat) : Int)) ∧ w.cell? ⟨g, i * 3 + 1, none⟩ = some (.slice (some ⟨x.f, 0, none⟩) N N) ∧ w.cell? ⟨g, i * 3 + 2, none⟩ = some (.slice (some ⟨x.l, 0, none⟩) N N) := by
  rcases h.2 with ⟨e, h0⟩ | ⟨g, cap, cur, e, hb, hg, hn, hc, hz, hx⟩
  · refine ⟨none, 0, by rw [e, h0], fun i x hi => ?_⟩
    rw [List.eq_nil_of_length_eq_zero h0] at hi
    simp at hi
  · have key : ∀ i x, l[i]? = some x → ∀ j u, (PtA.cells N x)[j]? = some u → w.cell? ⟨g, i * 3 + j, none⟩ = some u := fun i x hi j u hu => by
      have h2 := World.ownsRow.cells h (g := g) (by rw [e]; rfl) (i * 3 + j) u (flatMap_pt N l i x hi j u hu)
      rw [Addr.add_lit, Nat.zero_add] at h2
      exact h2
    exact ⟨some ⟨g, 0, none⟩, cap, e, fun i x hi => ⟨g, rfl, hb, (World.ownsRow.lt h g (by rw [e]; rfl)).2, key i x hi 0 _ rfl, key i x hi 1 _ rfl, key i x hi 2 _ rfl⟩⟩
end
section
variable {w : World} {ops : Array Oper} {rest : List Oper} {o : Oper} {a : Act} {Q : Exit → Act → World → Prop}
theorem wpList_append_part (hgd : o.guard = none) (s x : Operand) (ho : o.op = .call { callee := .builtin .append, args := #[s, x], argTypes := #[146, 146] })
    (N base : Nat) (v : Value) (l : List PtA) (hs : a.eval s = v) (hg : OwnPt N base w v l) (e : PtA) (g cap : Nat)
    (hx : a.eval x = .slice (some ⟨g, 0, none⟩) 1 cap) (hb : Blk w g 126 (PtA.cells N e).toArray) (hl : l.length < 1000000) (hbase : base ≤ w.heap.size)
    (h : ∀ v' w', OwnPt N base w' v' (l ++ [e]) → w.grownBy w' v.ownBlock → wpList Tryd.prog ops Q rest (a.put o.dst v') w') : wpList Tryd.prog ops Q (o :: rest) a w := by
  obtain ⟨i, hi, hz0, hz1, hz2⟩ := info_parts Tryd.infoPart
  refine wpList_append_own_at w hgd s x 146 ho base 126 i _ 3 56 Tryd.underlying146 hi hz0 hz1 hz2 rfl (by decide) v l.length _ hs hg ⟨g, 0, none⟩ 1 cap (PtA.cells N e) hx rfl ?_ (by simp [Value.oneCell', PtA.cells]) (by simp only [maxLen]; omega) (by omega) hbase ?_
  · intro j u hu
    rw [Addr.add_lit, Nat.zero_add, hb.cell]
    simpa using hu
  intro v' w' hown hgr _ _
  refine h v' w' ?_ hgr
  simpa [OwnPt, List.flatMap_append] using hown
end

/-- The lists of parts lie in memory from block lo on. -/
def PtsAt (w : World) (N lo : Nat) (ps : List PtA) : Prop := ∀ x ∈ ps, x.pt.small ∧ InRow w x.f N x.pt.fst ∧ InRow w x.l N x.pt.lst ∧ lo ≤ x.f ∧ lo ≤ x.l

/-- What of answers. -/
structure Of17 (gm N fb fc : Nat) (rows : Nat → Nat) (B0 : Nat) (s : St) (sv : Value) (r : Pt × St) (y : World) (x : PtA) (sv' : Value) (y' : World) : Prop where
  pt : x.pt = r.1
  at_ : MkAt y' gm N fb fc rows sv' r.2.M B0 r.2.S
  part : PtsAt y' N y.heap.size [x]
  below : Below B0 y y'
  svb : ∀ h, sv'.ownBlock = some h → sv.ownBlock = some h ∨ y.heap.size ≤ h
  same : Same (fun b => b < y.heap.size ∧ b ≠ gm ∧ (∀ i, i < N → b ≠ rows i) ∧ sv.ownBlock ≠ some b) y y'
def OfPost (gm N fb fc : Nat) (rows : Nat → Nat) (B0 : Nat) (s : St) (sv : Value) (r : Pt × St) (y : World) (e : Ending) (y' : World) : Prop :=
  ∃ x sv', e = .returned (.agg (PtA.cells N x).toArray) ∧ Of17 gm N fb fc rows B0 s sv r y x sv' y'
end Go.Proofs.YtbbhobojghmkpaaDoor
