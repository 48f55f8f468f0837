/- trawlref17.Of, walked. (Printed by gen_of17c.py.) -/
import Derived.Test.YtbbhobojghmkpaaDoorOf17b
import Derived.Test.YtbbhobojghmkpaaDoorRefExp
import Derived.Test.YtbbhobojghmkpaaDoorEdges17
import Derived.Test.YtbbhobojghmkpaaDoorPo
set_option linter.unusedSimpArgs false
set_option linter.unusedVariables false
namespace Go.Proofs.YtbbhobojghmkpaaDoor
open Go.RowKit

theorem Tryd.infoInts17 : (Tryd.prog.info? 55).map (fun i => (i.zero, i.size, i.bytes)) = some (some (.slice none 0 0), 1, 24) := by kernel_rfl
theorem Tryd.infoEdges17 : (Tryd.prog.info? 72).map (fun i => (i.zero, i.size, i.bytes)) = some (some (.slice none 0 0), 1, 24) := by kernel_rfl
theorem Tryd.sizePo17 : (Tryd.prog.info? 75).map (·.size) = some 5 := by kernel_rfl
section
variable {w : World} {ops : Array Oper} {rest : List Oper} {o : Oper} {a : Act} {Q : Exit → Act → World → Prop}
theorem wpList_append_val (S E : TypeId) (hu : Tryd.prog.underlying S = some (.slice E)) (hinfo : (Tryd.prog.info? E).map (fun i => (i.zero, i.size, i.bytes)) = some (some (.slice none 0 0), 1, 24)) (hgd : o.guard = none) (s x : Operand) (ho : o.op = .call { callee := .builtin .append, args := #[s, x], argTypes := #[S, S] })
    (base : Nat) (v : Value) (l : List Value) (hs : a.eval s = v) (hg : w.ownsRow base E 1 v l.length l) (u : Value) (g cap : Nat) (hu1 : u.oneCell' = true)
    (hx : a.eval x = .slice (some ⟨g, 0, none⟩) 1 cap) (hb : Blk w g E #[u]) (hl : l.length < 1000000) (hbase : base ≤ w.heap.size)
    (h : ∀ v' w', w'.ownsRow base E 1 v' (l ++ [u]).length (l ++ [u]) → w.grownBy w' v.ownBlock → (v'.ownBlock = v.ownBlock ∨ v'.ownBlock = some w.heap.size) → (∃ A c, v' = .slice A (l.length + 1) c) → wpList Tryd.prog ops Q rest (a.put o.dst v') w') : wpList Tryd.prog ops Q (o :: rest) a w := by
  obtain ⟨i, hi, hz0, hz1, hz2⟩ := info_parts hinfo
  refine wpList_append_own_at w hgd s x S ho base E i _ 1 24 hu hi hz0 hz1 hz2 rfl (by decide) v l.length _ hs hg ⟨g, 0, none⟩ 1 cap [u] hx rfl ?_ (by simpa using hu1) (by simp only [maxLen]; omega) (by omega) hbase ?_
  · intro j u' hu
    rw [Addr.add_lit, Nat.zero_add, hb.cell]
    simpa using hu
  intro v' w' hown hgr _ h4
  refine h v' w' ?_ hgr h4 ?_
  · simpa using hown
  · rcases hown.2 with ⟨_, h0⟩ | ⟨g, cap, cur, e, _⟩
    · omega
    · exact ⟨_, _, e⟩
end
theorem ownV_form {w : World} {base : Nat} {E : TypeId} {v : Value} {l : List Value} (h : w.ownsRow base E 1 v l.length l) : ∃ A c, v = .slice A l.length c := by
  rcases h.2 with ⟨e, h0⟩ | ⟨g, cap, cur, e, _⟩
  · exact ⟨none, 0, by rw [e, h0]⟩
  · exact ⟨_, _, e⟩
theorem ownV_same {w w' : World} {base size n : Nat} {E : TypeId} {v : Value} {l : List Value} {ok : Nat → Prop} (h : w.ownsRow base E size v n l) (hs : Same ok w w') (hk : ∀ g, v.ownBlock = some g → ok g) : w'.ownsRow base E size v n l := by
  refine ⟨h.1, ?_⟩
  rcases h.2 with h | ⟨g, cap, cur, e, hb, hg, r⟩
  · exact .inl h
  · exact .inr ⟨g, cap, cur, e, hb, (hs g (hk g (by rw [e]; rfl))).trans hg, r⟩
theorem ownV_ne {w : World} {base size n : Nat} {E : TypeId} {v : Value} {l : List Value} (h : w.ownsRow base E size v n l) {g : Nat} {t : TypeId} {cs : Array Value} (hb : Blk w g t cs) (ht : t ≠ E) : ∀ k, v.ownBlock = some k → k ≠ g := fun k hk e => by
  subst e
  rcases h.2 with ⟨e1, _⟩ | ⟨g2, cap, cur, e1, _, hg, _⟩
  · rw [e1] at hk; cases hk
  · rw [e1] at hk
    obtain rfl : g2 = k := by simpa [Value.ownBlock] using hk
    exact Blk.ne_type hb (show Blk w g2 E cur from hg) ht rfl
theorem same_grown {w w' : World} {row : Option Nat} (hg : w.grownBy w' row) : Same (fun b => b < w.heap.size ∧ some b ≠ row) w w' := fun b hb => hg.block b hb.1 hb.2

theorem OwnEd.lower {b b' : Nat} {w : World} {v : Value} {l : List Ed} (h : OwnEd b w v l) (hb : b' ≤ b) : OwnEd b' w v l := by
  refine ⟨h.1, ?_⟩
  rcases h.2 with h | ⟨g, cap, cur, e, hb2, hg, r⟩
  · exact .inl h
  · exact .inr ⟨g, cap, cur, e, by omega, hg, r⟩

theorem TL.three_append : ∀ a b : List T, TL.three a → TL.three b → TL.three (a ++ b)
  | [], _, _, h => h
  | _ :: a, b, h, k => ⟨h.1, TL.three_append a b h.2 k⟩
theorem three_replicate {x : T} (hx : x.three) : ∀ n, TL.three (List.replicate n x)
  | 0 => trivial
  | n + 1 => ⟨hx, three_replicate hx n⟩
theorem three_rep {x : T} (hx : x.three) (num mn mx : Int) (b : Bool) : (T.mk ⟨8, 0, 0, 0, 0, num, mn, mx, b⟩ [x]).three := ⟨⟨⟨by show (1 : Int) ≤ 8; omega, by show (8 : Int) ≤ 8; omega⟩, fun h => by simp at h, fun _ => rfl⟩, hx, trivial⟩
theorem three_opt {x : T} (hx : x.three) : ∀ n b, TL.three (optList x n b)
  | 0, _ => trivial
  | n + 1, b => ⟨three_rep hx 0 0 1 b, three_opt hx n true⟩
theorem three_seq {l : List T} (h : TL.three l) : (T.seq l).three := by
  match l, h with
  | [], _ => exact ⟨⟨⟨by decide, by decide⟩, fun _ => rfl, fun h => by simp at h⟩, trivial⟩
  | [t], h => exact h.1
  | a :: b :: r, h => exact ⟨⟨⟨by decide, by decide⟩, fun h => by simp at h, fun h => by simp at h⟩, h⟩
theorem formed_three {h : Hd} {n : Nat} (hf : h.formed (n : Int) = true) : (1 ≤ h.kind ∧ h.kind ≤ 8) ∧ (h.kind ≤ 4 → n = 0) ∧ (h.kind = 8 → n = 1) := by
  unfold Hd.formed at hf
  split at hf
  · rename_i h1
    simp at hf
    refine ⟨by omega, fun _ => by omega, fun h => by omega⟩
  split at hf
  · rename_i h1 h2
    simp at hf
    refine ⟨by omega, fun _ => by omega, fun h => by omega⟩
  split at hf
  · rename_i h1 h2 h3
    refine ⟨by omega, fun h => by omega, fun h => by omega⟩
  split at hf
  · rename_i h1 h2 h3 h4
    refine ⟨by omega, fun h => by omega, fun h => by omega⟩
  split at hf
  · rename_i h1 h2 h3 h4 h5
    simp at hf
    refine ⟨by omega, fun h => by omega, fun _ => by omega⟩
  · cases hf
mutual
theorem T.exp_three : ∀ t : T, t.form = true → t.exp.three
  | .mk h l, hf => by
    have hl : TL.form l = true := by
      rw [T.form_eq, Bool.and_eq_true] at hf
      exact hf.2
    have hfm : h.formed (l.length : Int) = true := by
      rw [T.form_eq, Bool.and_eq_true] at hf
      exact hf.1
    have h3 := formed_three hfm
    have ih := TL.exp_three l hl
    rw [T.exp]
    split
    · rename_i h8
      match l, ih, h3.2.2 h8 with
      | [t], ih, _ =>
        have hx : t.exp.three := ih.1
        rw [TL.expRep]
        split
        · exact three_seq trivial
        split
        · exact ⟨⟨h3.1, fun h => by omega, fun _ => rfl⟩, hx, trivial⟩
        · refine three_seq ?_
          unfold repList
          refine TL.three_append _ _ (TL.three_append _ _ (three_replicate hx _) (three_opt hx _ _)) ?_
          split
          · exact ⟨three_rep hx 0 0 (-1) true, trivial⟩
          · trivial
    · refine ⟨⟨h3.1, fun h => ?_, fun h => by omega⟩, ih⟩
      have := h3.2.1 h
      have e : l = [] := List.eq_nil_of_length_eq_zero this
      rw [e]
      rfl
theorem TL.exp_three : ∀ l : List T, TL.form l = true → TL.three (TL.exp l)
  | [], _ => trivial
  | t :: l, hf => by
    have h1 : t.form = true := TL.form_mem hf (by simp)
    have h2 : TL.form l = true := by
      simp only [TL.form, Bool.and_eq_true] at hf
      exact hf.2
    exact ⟨T.exp_three t h1, TL.exp_three l h2⟩
end

theorem T.In.nxt17 {w w' : World} {t : T} {B : Option Addr} (h : T.In w (· < w.heap.size) t B) (hb : Below w.heap.size w w') : T.In w' (· < w'.heap.size) t B := h.same (same_of_below hb) (fun y hy => Nat.lt_of_lt_of_le hy hb.size)
/-- The positions of a tree. -/
def T.posits (t : T) : Po :=
  ⟨(t.of17 ⟨[], fun _ _ => 0⟩).2.S, (((t.of17 ⟨[], fun _ _ => 0⟩).1.null : Nat) : Int), edgesOf t.leaves (t.of17 ⟨[], fun _ _ => 0⟩).1.fst, edgesOf t.leaves (t.of17 ⟨[], fun _ _ => 0⟩).1.lst, (List.range t.leaves).map fun i => edgesOf t.leaves ((t.of17 ⟨[], fun _ _ => 0⟩).2.M i)⟩
def PositsMade (t : T) (w : World) (e : Ending) (w' : World) : Prop := ∃ a, e = .returned (.agg (t.posits.cells a).toArray) ∧ PoIn (fun b => w.heap.size ≤ b ∧ b < w'.heap.size) w' t.posits a ∧ Below w.heap.size w w'

def rowVals (n : Nat) (rs : List Nat) : List Value := rs.map fun r => Value.slice (some ⟨r, 0, none⟩) n n
/-- The maker while its rows are laid. -/
structure Mk17 (w : World) (N gt gm : Nat) (ct : Array Value) (t : T) (A : Option Addr) (rs : List Nat) (v : Value) (wr : World) : Prop where
  tree : T.In wr (· < gm) t A
  box : Blk wr gt 27 ct
  res : Blk wr (w.heap.size + 1) 75 #[.slice none 0 0, .int .i64 0, .slice none 0 0, .slice none 0 0, .slice none 0 0]
  mkr : Blk wr gm 123 #[.int .i64 (N : Int), .slice none 0 0, v]
  fol : wr.ownsRow gm 55 1 v (rowVals N rs).length (rowVals N rs)
  rows : ∀ r ∈ rs, InRow wr r N (fun _ => 0) ∧ gm ≤ r
  nodup : rs.Nodup
  below : Below w.heap.size w wr
  nil : rs = [] → v = .slice none 0 0
section
variable {w wr w' : World} {N gt gm : Nat} {ct : Array Value} {t : T} {A : Option Addr} {rs : List Nat} {v : Value}
theorem Mk17.next (h : Mk17 w N gt gm ct t A rs v wr) (hb : Below wr.heap.size wr w') : Mk17 w N gt gm ct t A rs v w' :=
  ⟨h.tree.same (same_of_below (hb.mono (by have := h.mkr.lt; omega) : Below gm wr w')) fun _ x => x, h.box.nxt hb, h.res.nxt hb, h.mkr.nxt hb, ownV_same h.fol (same_of_below hb) fun g hg => (World.ownsRow.lt h.fol g hg).2, fun r hr => ⟨(h.rows r hr).1.next hb, (h.rows r hr).2⟩, h.nodup, h.below.trans (hb.mono (by have := h.below.size; omega)), h.nil⟩
theorem Mk17.push (h : Mk17 w N gt gm ct t A rs v wr) (hgw : w.heap.size + 2 ≤ gm) (hgt : gt < gm) {w1 w2 : World} {r : Nat} {v' : Value} (h1 : Mk17 w N gt gm ct t A rs v w1) (hr : InRow w1 r N (fun _ => 0)) (hrw : wr.heap.size ≤ r) (ho : w2.ownsRow gm 55 1 v' (rowVals N rs ++ [Value.slice (some ⟨r, 0, none⟩) N N]).length (rowVals N rs ++ [.slice (some ⟨r, 0, none⟩) N N])) (hg : w1.grownBy w2 v.ownBlock) :
    Mk17 w N gt gm ct t A (rs ++ [r]) v' (w2.setCell ⟨gm, 2, none⟩ v') := by
  have hs := same_grown hg
  have hz := hg.size
  have hne : ∀ {g : Nat} {t : TypeId} {cs : Array Value}, Blk w1 g t cs → t ≠ 55 → g < w1.heap.size ∧ some g ≠ v.ownBlock := fun hb ht => ⟨hb.lt, fun e => ownV_ne h1.fol hb ht _ e.symm rfl⟩
  have hin : ∀ {g : Nat} {f : Nat → Nat}, InRow w1 g N f → g < w1.heap.size ∧ some g ≠ v.ownBlock := fun hb => by
    obtain ⟨row, hb, _⟩ := hb
    exact hne hb (by decide)
  have hs2 : Same (· ≠ gm) w2 (w2.setCell ⟨gm, 2, none⟩ v') := (Same.refl _ _).set (fun h => h rfl) _
  have hmk := h1.mkr.same hs (hne h1.mkr (by decide))
  have hlow : ∀ k, k < gm → k < w1.heap.size ∧ some k ≠ v.ownBlock := fun k hk => ⟨by have := h1.mkr.lt; omega, fun e => by have := (World.ownsRow.lt h1.fol k e.symm).1; omega⟩
  have hrm : ∀ {g : Nat} {f : Nat → Nat}, InRow w2 g N f → g ≠ gm := fun hb => by
    obtain ⟨row, hb, _⟩ := hb
    exact hb.ne_type hmk (by decide)
  have e : rowVals N (rs ++ [r]) = rowVals N rs ++ [.slice (some ⟨r, 0, none⟩) N N] := by simp [rowVals]
  refine ⟨(h1.tree.same (hs.mono fun b hb => hlow b hb) (fun _ x => x)).same (hs2.mono fun b (hb : b < gm) => by omega) (fun _ x => x), (h1.box.same hs (hlow _ hgt)).same hs2 (by omega), (h1.res.same hs (hlow _ (by omega))).same hs2 (by omega), heap_setCell_same w2 gm 2 _ _ _ hmk, ?_, ?_, ?_, ?_, fun h => by simp at h⟩
  · rw [e]
    exact ownV_same ho hs2 (ownV_ne ho hmk (by decide))
  · intro q hq
    rcases List.mem_append.1 hq with hq | hq
    · have h9 := (h1.rows q hq).1.same hs (hin (h1.rows q hq).1)
      exact ⟨h9.same hs2 (hrm h9), (h1.rows q hq).2⟩
    · obtain rfl := List.mem_singleton.1 hq
      have h9 := hr.same hs (hin hr)
      exact ⟨h9.same hs2 (hrm h9), by have := h.mkr.lt; omega⟩
  · refine List.nodup_append.2 ⟨h.nodup, by simp, fun q hq q' hq' e7 => ?_⟩
    obtain rfl := List.mem_singleton.1 hq'
    rw [e7] at hq
    have := (h.rows _ hq).1.lt
    omega
  · exact (below_grew h1.below hg (Nat.le_refl _) (fun g hg => by have := (World.ownsRow.lt h1.fol g hg).1; omega)).setCell (by show w.heap.size ≤ gm; omega) _
theorem Mk17.at_ (h : Mk17 w N gt gm ct t A rs v wr) (hl : rs.length = N) : ∃ fb fc, v = folV N fb fc ∧ MkAt wr gm N fb fc (fun i => rs.getD i 0) (.slice none 0 0) (fun _ _ => 0) gm [] := by
  by_cases h0 : N = 0
  · subst h0
    have hv := h.nil (List.eq_nil_of_length_eq_zero hl)
    refine ⟨0, 0, by rw [hv]; rfl, ⟨?_, fun h => by omega, fun i hi => by omega, fun i j hi => by omega, fun i j => by show (0 : Nat) < 16; omega, fun i hi => by omega, World.ownsRow_nil _ _ _ _⟩⟩
    have := h.mkr
    rw [hv] at this
    exact this
  rcases h.fol.2 with ⟨e, e0⟩ | ⟨fb, fc, cur, e, hb, hg, hn, hc, hz, hx⟩
  · rw [rowVals, List.length_map] at e0; omega
  · have hpos : 0 < N := by omega
    have el : (rowVals N rs).length = N := by simp [rowVals, hl]
    rw [el] at e hx
    have hget : ∀ i, i < N → ∃ r, rs[i]? = some r ∧ rs.getD i 0 = r := fun i hi => ⟨rs[i]'(by omega), List.getElem?_eq_getElem _, by simp [List.getD, List.getElem?_eq_getElem (show i < rs.length by omega)]⟩
    rw [← folV_pos hpos] at e
    refine ⟨fb, fc, e, ⟨by rw [← e]; exact h.mkr, fun _ => ⟨cur, hg, fun i hi => ?_⟩, fun i hi => ?_, fun i j hi hj e => ?_, fun i j => by show (0 : Nat) < 16; omega, fun i hi => ?_, World.ownsRow_nil _ _ _ _⟩⟩
    · obtain ⟨r, hr, hd⟩ := hget i hi
      rw [hd]
      have h1 : (rowVals N rs)[i]? = some (.slice (some ⟨r, 0, none⟩) N N) := by simp [rowVals, hr]
      rw [← hx, List.getElem?_take_of_lt (by omega)] at h1
      simpa using h1
    · obtain ⟨r, hr, hd⟩ := hget i hi
      show InRow wr (rs.getD i 0) N _
      rw [hd]
      exact (h.rows r (List.mem_of_getElem? hr)).1
    · obtain ⟨r, hr, hd⟩ := hget i hi
      obtain ⟨q, hq, hd2⟩ := hget j hj
      have e2 : r = q := by rw [← hd, ← hd2]; exact e
      subst e2
      exact (List.getElem?_inj (by omega) h.nodup).1 (hr.trans hq.symm)
    · obtain ⟨r, hr, hd⟩ := hget i hi
      show gm ≤ rs.getD i 0
      rw [hd]
      exact (h.rows r (List.mem_of_getElem? hr)).2
end

theorem flatMap_se17 : ∀ (l : List Se) (i : Nat) (e : Se), l[i]? = some e → ∀ j u, (Se.cells e)[j]? = some u → (l.flatMap Se.cells)[i * 4 + j]? = some u
  | e :: l, 0, f, h, j, u, hu => by
    obtain rfl : e = f := by simpa using h
    rw [List.flatMap_cons, Nat.zero_mul, Nat.zero_add, List.getElem?_append_left (by have := (List.getElem?_eq_some_iff.1 hu).1; exact this)]
    exact hu
  | e :: l, i + 1, f, h, j, u, hu => by
    rw [List.flatMap_cons, List.getElem?_append_right (by simp [Se.cells]; omega)]
    have : (i + 1) * 4 + j - (Se.cells e).length = i * 4 + j := by simp [Se.cells]; omega
    rw [this]
    exact flatMap_se17 l i f (by simpa using h) j u hu
theorem sets_in {w : World} {base : Nat} {v : Value} {S : List Se} (h : w.ownsRow base 24 4 v S.length (S.flatMap Se.cells)) : ∃ A c, v = .slice A S.length c ∧ SeIn (fun b => base ≤ b ∧ b < w.heap.size) w S A := by
  rcases h.2 with ⟨e, h0⟩ | ⟨g, cap, cur, e, hb, hg, hn, hc, hz, hx⟩
  · exact ⟨none, 0, by rw [e, h0], .inl (List.eq_nil_of_length_eq_zero h0)⟩
  · refine ⟨some ⟨g, 0, none⟩, cap, e, .inr ⟨g, 0, rfl, ⟨hb, (World.ownsRow.lt h g (by rw [e]; rfl)).2⟩, fun i x hx => fun j u hu => ?_⟩⟩
    have h1 := flatMap_se17 S i x hx j u hu
    have h2 := World.ownsRow.cells h (g := g) (by rw [e]; rfl) (i * 4 + j) u h1
    rw [Addr.add_lit] at h2 ⊢
    rw [Nat.zero_add] at h2 ⊢
    exact h2
theorem EdIn.wide {ok ok' : Nat → Prop} {w : World} {l : List Ed} {A : Option Addr} (h : EdIn ok w l A) (hk : ∀ b, ok b → ok' b) : EdIn ok' w l A := h.same (Same.refl _ _) hk
theorem SeIn.wide {ok ok' : Nat → Prop} {w : World} {l : List Se} {A : Option Addr} (h : SeIn ok w l A) (hk : ∀ b, ok b → ok' b) : SeIn ok' w l A := h.same (Same.refl _ _) hk

/-- The positions while the rows that follow are laid. -/
structure Fol17 (w : World) (gm N fb fc lo g : Nat) (rows : Nat → Nat) (sv : Value) (M : Nat → Nat → Nat) (S : List Se) (x : Pt) (v1 v2 : Value) (k : Nat) (vs : List Value) (fv : Value) (wr : World) : Prop where
  at_ : MkAt wr gm N fb fc rows sv M gm S
  box : Blk wr g 75 #[sv, .int .i64 ((x.null : Nat) : Int), v1, v2, fv]
  e1 : OwnEd lo wr v1 (edgesOf N x.fst)
  e2 : OwnEd lo wr v2 (edgesOf N x.lst)
  own : wr.ownsRow lo 72 1 fv vs.length vs
  len : vs.length = k
  each : ∀ i, i < k → ∃ v, vs[i]? = some v ∧ OwnEd lo wr v (edgesOf N (M i))
  res : Blk wr (w.heap.size + 1) 75 #[.slice none 0 0, .int .i64 0, .slice none 0 0, .slice none 0 0, .slice none 0 0]
  below : Below w.heap.size w wr
section
variable {w wr w' : World} {gm N fb fc lo g : Nat} {rows : Nat → Nat} {sv : Value} {M : Nat → Nat → Nat} {S : List Se} {x : Pt} {v1 v2 : Value} {k : Nat} {vs : List Value} {fv : Value}
theorem Fol17.same (h : Fol17 w gm N fb fc lo g rows sv M S x v1 v2 k vs fv wr) {ok : Nat → Prop} (hs : Same ok wr w') (hall : ∀ {q : Nat} {t : TypeId} {cs : Array Value}, Blk wr q t cs → t ≠ 72 → ok q) {vs' : List Value} {fv' : Value} (ho : w'.ownsRow lo 72 1 fv' vs'.length vs') {k' : Nat} (hl : vs'.length = k') (he : ∀ i, i < k' → ∃ v, vs'[i]? = some v ∧ OwnEd lo w' v (edgesOf N (M i))) (hbx : Blk w' g 75 #[sv, .int .i64 ((x.null : Nat) : Int), v1, v2, fv']) (hb : Below w.heap.size w w') : Fol17 w gm N fb fc lo g rows sv M S x v1 v2 k' vs' fv' w' := by
  have hed : ∀ {v : Value} {l : List Ed}, OwnEd lo wr v l → OwnEd lo w' v l := fun {v l} h9 => h9.same hs fun q hq => by
    rcases h9.2 with ⟨e, _⟩ | ⟨q2, cap, cur, e, _, hg, _⟩
    · rw [e] at hq; cases hq
    · rw [e] at hq
      obtain rfl : q2 = q := by simpa [Value.ownBlock] using hq
      exact hall (show Blk wr q2 79 cur from hg) (by decide)
  refine ⟨h.at_.same hs (hall h.at_.box (by decide)) (fun h0 => by obtain ⟨row, hr, _⟩ := h.at_.fol h0; exact hall hr (by decide)) (fun i hi => ?_) (fun q hq => ?_), hbx, hed h.e1, hed h.e2, ho, hl, he, h.res.same hs (hall h.res (by decide)), hb⟩
  · obtain ⟨r, h9, _⟩ := h.at_.row i hi
    exact hall h9 (by decide)
  · rcases h.at_.sets.2 with ⟨e, _⟩ | ⟨q2, cap, cur, e, _, hg, _⟩
    · rw [e] at hq; cases hq
    · rw [e] at hq
      obtain rfl : q2 = q := by simpa [Value.ownBlock] using hq
      exact hall (show Blk wr q2 24 cur from hg) (by decide)
theorem OwnEd.blk17 {w : World} {lo : Nat} {v : Value} {l : List Ed} (h : OwnEd lo w v l) : ∀ q, v.ownBlock = some q → ∃ cur, Blk w q 79 cur ∧ lo ≤ q := fun q hq => by
  rcases h.2 with ⟨e, _⟩ | ⟨q2, cap, cur, e, hb, hg, _⟩
  · rw [e] at hq; cases hq
  · rw [e] at hq
    obtain rfl : q2 = q := by simpa [Value.ownBlock] using hq
    exact ⟨cur, hg, hb⟩
theorem Fol17.next (h : Fol17 w gm N fb fc lo g rows sv M S x v1 v2 k vs fv wr) (hb : Below wr.heap.size wr w') : Fol17 w gm N fb fc lo g rows sv M S x v1 v2 k vs fv w' :=
  h.same (same_of_below hb) (fun h9 _ => h9.lt) (ownV_same h.own (same_of_below hb) fun q hq => (World.ownsRow.lt h.own q hq).2) h.len (fun i hi => by
    obtain ⟨v, h1, h2⟩ := h.each i hi
    exact ⟨v, h1, h2.below hb (Nat.le_refl _)⟩) (h.box.nxt hb) (h.below.trans (hb.mono h.below.size))
theorem Fol17.push (h : Fol17 w gm N fb fc lo g rows sv M S x v1 v2 k vs fv wr) (hwl : w.heap.size + 2 ≤ lo) (hlg : lo ≤ g) {w2 : World} {v fv' : Value} (hv : OwnEd lo wr v (edgesOf N (M k))) (ho : w2.ownsRow lo 72 1 fv' (vs ++ [v]).length (vs ++ [v])) (hg : wr.grownBy w2 fv.ownBlock) :
    Fol17 w gm N fb fc lo g rows sv M S x v1 v2 (k + 1) (vs ++ [v]) fv' (w2.setCell ⟨g, 4, none⟩ fv') := by
  have hs := same_grown hg
  have hne : ∀ {q : Nat} {t : TypeId} {cs : Array Value}, Blk wr q t cs → t ≠ 72 → q < wr.heap.size ∧ some q ≠ fv.ownBlock := fun hb ht => ⟨hb.lt, fun e => ownV_ne h.own hb ht _ e.symm rfl⟩
  have hs2 : Same (· ≠ g) w2 (w2.setCell ⟨g, 4, none⟩ fv') := (Same.refl _ _).set (fun h => h rfl) _
  have hbx := h.box.same hs (hne h.box (by decide))
  have hed : ∀ {v : Value} {l : List Ed}, OwnEd lo wr v l → OwnEd lo (w2.setCell ⟨g, 4, none⟩ fv') v l := fun {v l} h9 => by
    have h8 : OwnEd lo w2 v l := h9.same hs fun q hq => by
      obtain ⟨cur, hb, _⟩ := h9.blk17 q hq
      exact hne hb (by decide)
    exact h8.same hs2 fun q hq => by
      obtain ⟨cur, hb, _⟩ := h8.blk17 q hq
      exact hb.ne_type hbx (by decide)
  have hbel2 : Below w.heap.size w w2 := below_grew h.below hg (Nat.le_refl _) (fun q hq => by have := (World.ownsRow.lt h.own q hq).1; omega)
  have hA : Fol17 w gm N fb fc lo g rows sv M S x v1 v2 k vs fv wr := h
  have hM2 : MkAt w2 gm N fb fc rows sv M gm S := h.at_.same hs (hne h.at_.box (by decide)) (fun h0 => by obtain ⟨row, hr, _⟩ := h.at_.fol h0; exact hne hr (by decide)) (fun i hi => by
    obtain ⟨r, h9, _⟩ := h.at_.row i hi
    exact hne h9 (by decide)) (fun q hq => by
    rcases h.at_.sets.2 with ⟨e, _⟩ | ⟨q2, cap, cur, e, _, hg, _⟩
    · rw [e] at hq; cases hq
    · rw [e] at hq
      obtain rfl : q2 = q := by simpa [Value.ownBlock] using hq
      exact hne (show Blk wr q2 24 cur from hg) (by decide))
  obtain ⟨n1, n2, n3⟩ := hM2.ne_int hbx (by decide) (by decide) (by decide)
  refine ⟨hM2.same hs2 (fun e => n1 e.symm) (fun h0 => by obtain ⟨row2, hr2, _⟩ := hM2.fol h0; exact hr2.ne_type hbx (by decide)) (fun i hi e => n2 i hi e.symm) (fun q hq e => n3 (e ▸ hq)), heap_setCell_same w2 g 4 _ _ _ hbx, hed h.e1, hed h.e2, ownV_same ho hs2 (ownV_ne ho hbx (by decide)), by rw [List.length_append, h.len]; rfl, fun i hi => ?_, (h.res.same hs (hne h.res (by decide))).same hs2 (by omega), hbel2.setCell (by show w.heap.size ≤ g; omega) _⟩
  by_cases hik : i < k
  · obtain ⟨u, h1, h2⟩ := h.each i hik
    exact ⟨u, by rw [List.getElem?_append_left (by rw [h.len]; exact hik)]; exact h1, hed h2⟩
  · obtain rfl : i = k := by omega
    exact ⟨v, by rw [List.getElem?_append_right (by rw [h.len]; exact Nat.le_refl _), h.len, Nat.sub_self]; rfl, hed hv⟩
theorem Fol17.po (h : Fol17 w gm N fb fc lo g rows sv M S x v1 v2 N vs fv wr) (hgl : gm ≤ lo) : ∃ a : PoA, #[sv, .int .i64 ((x.null : Nat) : Int), v1, v2, fv] = ((Po.mk S ((x.null : Nat) : Int) (edgesOf N x.fst) (edgesOf N x.lst) ((List.range N).map fun i => edgesOf N (M i))).cells a).toArray ∧ PoIn (fun b => gm ≤ b ∧ b < wr.heap.size) wr (Po.mk S ((x.null : Nat) : Int) (edgesOf N x.fst) (edgesOf N x.lst) ((List.range N).map fun i => edgesOf N (M i))) a := by
  obtain ⟨As, cs, rfl, hs⟩ := sets_in h.at_.sets
  obtain ⟨A1, c1, rfl, h1⟩ := h.e1.form
  obtain ⟨A2, c2, rfl, h2⟩ := h.e2.form
  have hwd : ∀ b, lo ≤ b ∧ b < wr.heap.size → gm ≤ b ∧ b < wr.heap.size := fun b hb => ⟨by omega, hb.2⟩
  have hlen := h.len
  rcases h.own.2 with ⟨rfl, h0⟩ | ⟨q, cap, cur, rfl, hb, hg, hn, hc, hz, hx⟩
  · obtain rfl : N = 0 := by omega
    exact ⟨⟨As, A1, A2, none, cs, c1, c2, 0⟩, rfl, ⟨hs, h1.wide hwd, h2.wide hwd, .inl rfl⟩⟩
  · refine ⟨⟨As, A1, A2, some ⟨q, 0, none⟩, cs, c1, c2, cap⟩, by simp [Po.cells, hlen], ⟨hs, h1.wide hwd, h2.wide hwd, .inr ⟨q, 0, rfl, ⟨by omega, (World.ownsRow.lt h.own q rfl).2⟩, fun i r hi => ?_⟩⟩⟩
    have hi2 : i < N := by
      have := (List.getElem?_eq_some_iff.1 hi).1
      simpa using this
    obtain ⟨u, hu, hou⟩ := h.each i hi2
    obtain rfl : edgesOf N (M i) = r := by simpa [List.getElem?_map, hi2] using hi
    obtain ⟨B, c, rfl, hB⟩ := hou.form
    refine ⟨B, c, fun j u hj => ?_, hB.wide hwd⟩
    have h9 := World.ownsRow.cells h.own (g := q) rfl i _ hu
    have hj0 : j = 0 := by
      have := (List.getElem?_eq_some_iff.1 hj).1
      simp at this
      omega
    subst hj0
    obtain rfl := Option.some.inj hj
    rw [Addr.add_lit] at h9 ⊢
    simpa using h9
end

set_option maxRecDepth 100000 in
set_option maxHeartbeats 4000000 in
theorem of17All_any (t0 : T) (A : Option Addr) (c : Nat) (w : World) (hK0 : t0.nodes ≤ 900000) (hf0 : t0.form = true) (hs0 : t0.size ≤ 2000) (hin : T.In w (· < w.heap.size) t0 A) :
    Calls Tryd.prog 55 #[.agg (t0.hd.cells (.slice A t0.subs.length c)).toArray] w (PositsMade t0.exp w) := by
  have HEX := hide (fun (z : World) (hz : Below w.heap.size w z) => refExp_any 900000 t0 hK0 (by omega) hf0 hs0 A c z (hin.same (ok' := (· < z.heap.size)) (same_of_below hz) (fun b hb => Nat.lt_of_lt_of_le hb hz.size)))
  have hK : t0.exp.nodes ≤ 900000 := by have := T.exp_nodes t0 hf0 hs0; omega
  have h3 := T.exp_three t0 hf0
  clear hK0 hf0 hs0
  generalize t0.exp = t at *
  have HLV := hide (fun (A : Option Addr) (c : Nat) (z : World) (hz : T.In z (· < z.heap.size) t A) => refLeaves_any 900000 t A c z hK (by omega) hz)
  have HOF := hide (fun (gm N fb fc B0 : Nat) (rows : Nat → Nat) (hN : N ≤ 900000) (hgm : B0 ≤ gm) (A : Option Addr) (c : Nat) (y : World) (sv : Value) => of17_any gm N fb fc B0 rows hN hgm 900000 t A c y ⟨[], fun _ _ => 0⟩ sv hK (by omega) h3)
  have hNl := t.leaves_le
  have hN9 : t.leaves ≤ 900000 := by omega
  have HPM := hide (fun (e : Ending) (w' : World) (h : ∃ a, e = .returned (.agg ((Po.mk (t.of17 ⟨[], fun _ _ => 0⟩).2.S (((t.of17 ⟨[], fun _ _ => 0⟩).1.null : Nat) : Int) (edgesOf t.leaves (t.of17 ⟨[], fun _ _ => 0⟩).1.fst) (edgesOf t.leaves (t.of17 ⟨[], fun _ _ => 0⟩).1.lst) ((List.range t.leaves).map fun i => edgesOf t.leaves ((t.of17 ⟨[], fun _ _ => 0⟩).2.M i))).cells a).toArray) ∧ PoIn (fun b => w.heap.size ≤ b ∧ b < w'.heap.size) w' (Po.mk (t.of17 ⟨[], fun _ _ => 0⟩).2.S (((t.of17 ⟨[], fun _ _ => 0⟩).1.null : Nat) : Int) (edgesOf t.leaves (t.of17 ⟨[], fun _ _ => 0⟩).1.fst) (edgesOf t.leaves (t.of17 ⟨[], fun _ _ => 0⟩).1.lst) ((List.range t.leaves).map fun i => edgesOf t.leaves ((t.of17 ⟨[], fun _ _ => 0⟩).2.M i))) a ∧ Below w.heap.size w w') => show PositsMade t w e w' from h)
  generalize t.of17 ⟨[], fun _ _ => 0⟩ = R at *
  generalize hN : t.leaves = N at *
  have HN := hide hN
  have hN8 : (N : Int) ≤ 900000 := by omega
  clear hN hNl hin hK
  obtain ⟨⟨kind0, s00, s10, s20, s30, num0, mn0, mx0, bare0⟩, l0⟩ := t0
  obtain ⟨⟨kind, s0, s1', s2, s3, num, mn, mx, bare⟩, l⟩ := t
  simp only [T.hd, T.subs, Hd.cells] at HEX HLV HOF ⊢
  go_enter Tryd.func55, Tryd.ntmps55
  go_wp2_with fail
  have hb1 := ((Below.refl w.heap.size w).alloc (Nat.le_refl _) (.cells #[.int .i64 kind0, .int .u64 s00, .int .u64 s10, .int .u64 s20, .int .u64 s30, .slice A l0.length c, .int .i64 num0, .int .i64 mn0, .int .i64 mx0, .bool bare0] 27)).alloc (by simp) (.cells #[.slice none 0 0, .int .i64 0, .slice none 0 0, .slice none 0 0, .slice none 0 0] 75)
  have hr1 := Blk.new (w.alloc (.cells #[.int .i64 kind0, .int .u64 s00, .int .u64 s10, .int .u64 s20, .int .u64 s30, .slice A l0.length c, .int .i64 num0, .int .i64 mn0, .int .i64 mx0, .bool bare0] 27)) 75 #[.slice none 0 0, .int .i64 0, .slice none 0 0, .slice none 0 0, .slice none 0 0]
  rw [World.size_alloc] at hr1
  have hz1 : w.heap.size + 2 ≤ ((w.alloc (.cells #[.int .i64 kind0, .int .u64 s00, .int .u64 s10, .int .u64 s20, .int .u64 s30, .slice A l0.length c, .int .i64 num0, .int .i64 mn0, .int .i64 mx0, .bool bare0] 27)).alloc (.cells #[.slice none 0 0, .int .i64 0, .slice none 0 0, .slice none 0 0, .slice none 0 0] 75)).heap.size := by simp
  have HR1 := hide (And.intro hb1 hr1)
  clear hb1 hr1
  generalize ((w.alloc (.cells #[.int .i64 kind0, .int .u64 s00, .int .u64 s10, .int .u64 s20, .int .u64 s30, .slice A l0.length c, .int .i64 num0, .int .i64 mn0, .int .i64 mx0, .bool bare0] 27)).alloc (.cells #[.slice none 0 0, .int .i64 0, .slice none 0 0, .slice none 0 0, .slice none 0 0] 75)) = Y0 at *
  refine (HEX.out _ HR1.out.1).mono ?_
  rintro e w1 ⟨A2, c2, rfl, hown, hb⟩
  have hz2 := hb.size
  have hin1 : T.In w1 (· < w1.heap.size) (T.mk ⟨kind, s0, s1', s2, s3, num, mn, mx, bare⟩ l) A2 := hown.same (ok' := (· < w1.heap.size)) (Same.refl _ _) fun b hb => hb.2
  have HB1 := hide (And.intro (HR1.out.1.trans (hb.mono HR1.out.1.size)) (And.intro (HR1.out.2.nxt hb) hin1))
  clear hown hb hin1 HEX HR1
  simp only [T.hd, T.subs, Hd.cells]
  go_wp2_with (first | refine wpList_store_row rfl _ _ _ rfl w1.heap.size 0 _ _ _ rfl rfl (Blk.new w1 27 _) Tryd.sizeNode (by simp) (by simp [Value.oneCell']) ?_ | fail)
  intro w2 hrow2 hg2 hz3
  have hrow := hrow2.out
  rw [splice_full (by rfl)] at hrow
  have hb2 : Below w1.heap.size w1 w2 := below_grew ((Below.refl _ _).alloc (Nat.le_refl _) _) hg2 (Nat.le_refl _) (fun g hg => by injection hg with hg; omega)
  have hl2 : w1.heap.size < w2.heap.size := by omega
  have HB2 := hide (And.intro (HB1.out.1.trans (hb2.mono HB1.out.1.size)) (And.intro (HB1.out.2.1.nxt hb2) (And.intro (T.In.nxt17 HB1.out.2.2 hb2) hrow)))
  clear hrow hrow2 hg2 hz3 hb2 HB1
  have cb := HB2.out.2.2.2.cell
  go_wp2_with fail
  refine (HLV.out A2 c2 w2 HB2.out.2.2.1).mono ?_
  rintro e w3 ⟨rfl, hb⟩
  have hl3 := hb.size
  have hM0 : Mk17 w N w1.heap.size w3.heap.size #[.int .i64 kind, .int .u64 s0, .int .u64 s1', .int .u64 s2, .int .u64 s3, .slice A2 l.length c2, .int .i64 num, .int .i64 mn, .int .i64 mx, .bool bare] (T.mk ⟨kind, s0, s1', s2, s3, num, mn, mx, bare⟩ l) A2 [] (.slice none 0 0) (w3.alloc (.cells #[.int .i64 (N : Int), .slice none 0 0, .slice none 0 0] 123)) := by
    have hal := (Below.refl w3.heap.size w3).alloc (Nat.le_refl _) (.cells #[.int .i64 (N : Int), .slice none 0 0, .slice none 0 0] 123)
    exact ⟨((T.In.nxt17 HB2.out.2.2.1 hb).same (ok' := (· < w3.heap.size)) (same_of_below hal) fun _ x => x), (HB2.out.2.2.2.nxt hb).nxt hal, (HB2.out.2.1.nxt hb).nxt hal, Blk.new _ _ _, World.ownsRow_nil _ _ _ _, fun r hr => (by cases hr), List.nodup_nil, (HB2.out.1.trans (hb.mono HB2.out.1.size)).trans (hal.mono (by have := HB2.out.1.size; omega)), fun _ => rfl⟩
  have HM0 := hide hM0
  clear hM0 hb cb HB2 HLV
  go_wp2_with fail
  have hgmw : w3.heap.size < (w3.alloc (.cells #[.int .i64 (N : Int), .slice none 0 0, .slice none 0 0] 123)).heap.size := by simp
  generalize (w3.alloc (.cells #[.int .i64 (N : Int), .slice none 0 0, .slice none 0 0] 123)) = Y1 at *
  generalize w3.heap.size = gm at *
  generalize w1.heap.size = gt at *
  have hgw : w.heap.size + 2 ≤ gt := by omega
  have hgt : gt < gm := by omega
  clear hz1 hz2 hl2 hl3
  clear w1 w2 w3 Y0
  go_loopw [6] (fun kv wr => ∃ (k : Nat) (rs : List Nat) (v : Value), kv = .int .i64 k ∧ k ≤ N ∧ rs.length = k ∧ Mk17 w N gt gm #[.int .i64 kind, .int .u64 s0, .int .u64 s1', .int .u64 s2, .int .u64 s3, .slice A2 l.length c2, .int .i64 num, .int .i64 mn, .int .i64 mx, .bool bare] (T.mk ⟨kind, s0, s1', s2, s3, num, mn, mx, bare⟩ l) A2 rs v wr) (fun kv _ => N - (intOf kv).toNat)
  case atStart => exact ⟨0, [], _, rfl, by omega, rfl, HM0.out⟩
  case round =>
    clear HM0
    obtain ⟨k, rs, v, rfl, hk, hrs, hM⟩ := hrel
    have HM := hide hM
    have HRS := hide hrs
    clear hM hrs
    obtain ⟨Av, Ac, hv⟩ := ownV_form HM.out.fol
    have hvl : (rowVals N rs).length = k := by rw [rowVals, List.length_map, HRS.out]
    rw [hvl] at hv
    subst hv
    have HVL := hide hvl
    clear hvl
    have hgml := HM.out.mkr.lt
    by_cases hlt : k < N
    case neg =>
      have g1 : decide ((k : Int) < (N : Int)) = false := decide_eq_false (by omega)
      have hkN : k = N := by omega
      obtain ⟨fb, fc, hv, hat⟩ := HM.out.at_ (by rw [HRS.out]; omega)
      clear hv
      subst k
      have HAT := hide hat
      clear hat g1
      generalize (fun i => rs.getD i 0) = rows at *
      have g1 : decide ((N : Int) < (N : Int)) = false := decide_eq_false (by omega)
      have cb := HM.out.box.cell
      have HO := hide (HOF.out gm N fb fc gm rows hN9 (Nat.le_refl _) A2 c2 wr (.slice none 0 0) HM.out.tree (by omega) HAT.out (by show 0 + N ≤ N; omega))
      go_wp2_with fail
      refine HO.out.mono ?_
      rintro e y ⟨x, sv', rfl, hof⟩
      have HOO := hide hof
      have hyl := hof.below.size
      clear hof HO cb
      simp only [PtA.cells]
      go_wp2_with (first | refine wpList_store_row rfl _ _ _ rfl y.heap.size 0 _ _ _ rfl rfl (Blk.new y 126 _) Tryd.sizePart (by simp) (by simp [Value.oneCell']) ?_ | fail)
      intro y2 hrow2 hg2 hz3
      have hrow := hrow2.out
      rw [splice_full (by rfl)] at hrow
      have hb2 : Below y.heap.size y y2 := below_grew ((Below.refl _ _).alloc (Nat.le_refl _) _) hg2 (Nat.le_refl _) (fun g hg => by injection hg with hg; omega)
      have hl2 : y.heap.size < y2.heap.size := by omega
      have H7 := hide (And.intro (HOO.out.at_.next hb2) (And.intro (fun z hz => by
        obtain ⟨h1, h2, h3, h4, h5⟩ := HOO.out.part z hz
        exact ⟨h1, h2.next hb2, h3.next hb2, h4, h5⟩ : PtsAt y2 N wr.heap.size [x]) (And.intro (show Blk y2 y.heap.size 126 (PtA.cells N x).toArray from hrow) (And.intro ((HM.out.res.below HOO.out.below (by omega)).nxt hb2) ((HM.out.below.trans (HOO.out.below.mono (by omega))).trans (hb2.mono (by have := HM.out.below.size; omega)))))))
      have HPX := hide HOO.out.pt
      clear hrow hrow2 hg2 hz3 hb2 HOO HAT HM HVL
      obtain ⟨As, cs, hsv⟩ := sets_form H7.out.1.sets
      subst hsv
      generalize y.heap.size = g7 at *
      go_upto_region 9 with fail
      go_cut [8] (fun p wx => ∃ g A1 c1 A2 c2, p = .pointer (some ⟨g, 0, none⟩) ∧ Blk wx g 75 #[.slice As R.2.S.length cs, .int .i64 ((x.pt.null : Nat) : Int), .slice A1 (edgesOf N x.pt.fst).length c1, .slice A2 (edgesOf N x.pt.lst).length c2, .slice none 0 0] ∧ OwnEd y2.heap.size wx (.slice A1 (edgesOf N x.pt.fst).length c1) (edgesOf N x.pt.fst) ∧ OwnEd y2.heap.size wx (.slice A2 (edgesOf N x.pt.lst).length c2) (edgesOf N x.pt.lst) ∧ y2.heap.size ≤ g ∧ Below y2.heap.size y2 wx)
      case first =>
        refine wp_region_mix (fun z => Below y2.heap.size y2 z) [14] (by kernel_rfl) (fun hcl => ?_)
        have hS : Below y2.heap.size y2 y2.drew := (Below.refl _ _).drew
        have he1 := (H7.out.2.1 x (List.mem_singleton.2 rfl)).2.1
        have he2 := (H7.out.2.1 x (List.mem_singleton.2 rfl)).2.2.1
        have HE1 := hide (fun (z : World) (hz : Below y2.heap.size y2 z) => edges17_any N x.f x.pt.fst z hN9 (he1.next hz))
        have HE2 := hide (fun (z : World) (hz : Below y2.heap.size y2 z) => edges17_any N x.l x.pt.lst z hN9 (he2.next hz))
        clear he1 he2
        refine wpAnyT_free (i := 0) hcl rfl (by kernel_rfl) (v := ?_) (fun _ _ _ h => h) hS (Or.inl ⟨rfl, fun w' _ => ?_⟩) (fun hcl => ?_)
        rotate_left
        · go_simp
          with_reducible rfl
        simp only [List.getElem_toArray, List.getElem_cons_zero, List.getElem_cons_succ, Act.put, List.setIfInBounds_toArray, List.set_cons_zero, List.set_cons_succ]
        refine wpAnyT_free (i := 1) hcl rfl (by kernel_rfl) (v := ?_) (fun _ _ _ h => h) hS (Or.inl ⟨rfl, fun w' _ => ?_⟩) (fun hcl => ?_)
        rotate_left
        · go_simp
          with_reducible rfl
        simp only [List.getElem_toArray, List.getElem_cons_zero, List.getElem_cons_succ, Act.put, List.setIfInBounds_toArray, List.set_cons_zero, List.set_cons_succ]
        refine wpAnyT_free (i := 2) hcl rfl (by kernel_rfl) (v := ?_) (fun _ _ _ h => h) hS (Or.inl ⟨rfl, fun w' _ => ?_⟩) (fun hcl => ?_)
        rotate_left
        · go_simp
          with_reducible rfl
        simp only [List.getElem_toArray, List.getElem_cons_zero, List.getElem_cons_succ, Act.put, List.setIfInBounds_toArray, List.set_cons_zero, List.set_cons_succ]
        refine wpAnyT_take (i := 3) hcl rfl (by kernel_rfl) (v := ?_) (fun _ _ _ h => h) hS (Or.inl ⟨rfl, fun w' hS => ?_⟩) (fun hcl => ?_)
        rotate_left
        · skip
          have cg := (H7.out.1.box.nxt hS).cell
          go_simp
          with_reducible rfl
        simp only [List.getElem_toArray, List.getElem_cons_zero, List.getElem_cons_succ, Act.put, List.setIfInBounds_toArray, List.set_cons_zero, List.set_cons_succ]
        refine wpAnyT_free (i := 4) hcl rfl (by kernel_rfl) (v := ?_) (fun _ _ _ h => h) hS (Or.inl ⟨rfl, fun w' _ => ?_⟩) (fun hcl => ?_)
        rotate_left
        · go_simp
          with_reducible rfl
        simp only [List.getElem_toArray, List.getElem_cons_zero, List.getElem_cons_succ, Act.put, List.setIfInBounds_toArray, List.set_cons_zero, List.set_cons_succ]
        refine wpAnyT_take (i := 5) hcl rfl (by kernel_rfl) (v := ?_) (fun _ _ _ h => h) hS (Or.inl ⟨rfl, fun w' hS => ?_⟩) (fun hcl => ?_)
        rotate_left
        · skip
          have c7 := (H7.out.2.2.1.nxt hS).cell
          simp only [PtA.cells] at c7
          go_simp
          with_reducible rfl
        simp only [List.getElem_toArray, List.getElem_cons_zero, List.getElem_cons_succ, Act.put, List.setIfInBounds_toArray, List.set_cons_zero, List.set_cons_succ]
        refine wpAnyT_free (i := 6) hcl rfl (by kernel_rfl) (v := ?_) (fun _ _ _ h => h) hS (Or.inl ⟨rfl, fun w' _ => ?_⟩) (fun hcl => ?_)
        rotate_left
        · go_simp
          with_reducible rfl
        simp only [List.getElem_toArray, List.getElem_cons_zero, List.getElem_cons_succ, Act.put, List.setIfInBounds_toArray, List.set_cons_zero, List.set_cons_succ]
        refine wpAnyT_take (i := 7) hcl rfl (by kernel_rfl) (v := ?_) (fun _ _ _ h => h) hS (Or.inl ⟨rfl, fun w' hS => ?_⟩) (fun hcl => ?_)
        rotate_left
        · skip
          have c7 := (H7.out.2.2.1.nxt hS).cell
          simp only [PtA.cells] at c7
          go_simp
          with_reducible rfl
        simp only [List.getElem_toArray, List.getElem_cons_zero, List.getElem_cons_succ, Act.put, List.setIfInBounds_toArray, List.set_cons_zero, List.set_cons_succ]
        refine wpAnyT_free (i := 9) hcl rfl (by kernel_rfl) (v := ?_) (fun _ _ _ h => h) hS (Or.inl ⟨rfl, fun w' _ => ?_⟩) (fun hcl => ?_)
        rotate_left
        · go_simp
          with_reducible rfl
        simp only [List.getElem_toArray, List.getElem_cons_zero, List.getElem_cons_succ, Act.put, List.setIfInBounds_toArray, List.set_cons_zero, List.set_cons_succ]
        refine wpAnyT_take (i := 10) hcl rfl (by kernel_rfl) (v := ?_) (fun _ _ _ h => h) hS (Or.inl ⟨rfl, fun w' hS => ?_⟩) (fun hcl => ?_)
        rotate_left
        · skip
          have c7 := (H7.out.2.2.1.nxt hS).cell
          simp only [PtA.cells] at c7
          go_simp
          with_reducible rfl
        simp only [List.getElem_toArray, List.getElem_cons_zero, List.getElem_cons_succ, Act.put, List.setIfInBounds_toArray, List.set_cons_zero, List.set_cons_succ]
        have HS0 := hide hS
        clear hS
        refine wpAnyT_pick2 (i := 8) (j := 13) hcl rfl rfl (by kernel_rfl) (fun hcl => ?_) (fun hcl => ?_)
        · simp only [List.getElem_toArray, List.getElem_cons_zero, List.getElem_cons_succ, Act.put, List.setIfInBounds_toArray, List.set_cons_zero, List.set_cons_succ]
          go_wp2_with fail
          refine (HE1.out _ HS0.out).mono ?_
          rintro e z0 ⟨v1, rfl, ho1, hb⟩
          obtain ⟨Ae1, ce1, rfl, _⟩ := ho1.form
          have HS1 := hide (HS0.out.trans (hb.mono HS0.out.size))
          have HO1 := hide (ho1.lower HS0.out.size)
          clear ho1 hb HE1
          go_wp2_with fail
          refine ⟨HS1.out, ?_⟩
          refine wpAnyT_pick2 (i := 11) (j := 13) hcl rfl rfl (by kernel_rfl) (fun hcl => ?_) (fun hcl => ?_)
          · simp only [List.getElem_toArray, List.getElem_cons_zero, List.getElem_cons_succ, Act.put, List.setIfInBounds_toArray, List.set_cons_zero, List.set_cons_succ]
            go_wp2_with fail
            refine (HE2.out _ HS1.out).mono ?_
            rintro e z1 ⟨v2, rfl, ho2, hb⟩
            obtain ⟨Ae2, ce2, rfl, _⟩ := ho2.form
            have HS2 := hide (HS1.out.trans (hb.mono HS1.out.size))
            have HO2 := hide (ho2.lower HS1.out.size)
            replace HO1 := hide (HO1.out.below hb (Nat.le_refl _))
            clear ho2 hb HE2
            go_wp2_with fail
            refine ⟨HS2.out, ?_⟩
            have hS := HS2.out
            refine wpAnyT_free (i := 12) hcl rfl (by kernel_rfl) (v := ?_) (fun _ _ _ h => h) hS (Or.inl ⟨rfl, fun w' _ => ?_⟩) (fun hcl => ?_)
            rotate_left
            · go_simp
              with_reducible rfl
            simp only [List.getElem_toArray, List.getElem_cons_zero, List.getElem_cons_succ, Act.put, List.setIfInBounds_toArray, List.set_cons_zero, List.set_cons_succ]
            clear hS
            refine wpAnyT_step (i := 13) hcl rfl (by kernel_rfl) (fun hcl => ?_)
            simp only [List.getElem_toArray, List.getElem_cons_zero, List.getElem_cons_succ, Act.put, List.setIfInBounds_toArray, List.set_cons_zero, List.set_cons_succ]
            go_wp2_with fail
            have HS3 := hide (HS2.out.alloc HS2.out.size (.cells #[.slice none 0 0, .int .i64 0, .slice none 0 0, .slice none 0 0, .slice none 0 0] 75))
            refine ⟨HS3.out, ?_⟩
            have HB := hide (Blk.new z1 75 #[.slice none 0 0, .int .i64 0, .slice none 0 0, .slice none 0 0, .slice none 0 0])
            have HG := hide (HS2.out.size)
            replace HO1 := hide (HO1.out.below ((Below.refl _ z1).alloc (Nat.le_refl _) (.cells #[.slice none 0 0, .int .i64 0, .slice none 0 0, .slice none 0 0, .slice none 0 0] 75)) (Nat.le_refl _))
            replace HO2 := hide (HO2.out.below ((Below.refl _ z1).alloc (Nat.le_refl _) (.cells #[.slice none 0 0, .int .i64 0, .slice none 0 0, .slice none 0 0, .slice none 0 0] 75)) (Nat.le_refl _))
            generalize (z1.alloc (.cells #[.slice none 0 0, .int .i64 0, .slice none 0 0, .slice none 0 0, .slice none 0 0] 75)) = za at *
            have hS := HS3.out
            clear hS
            refine wpAnyT_last (i := 14) hcl rfl (by kernel_rfl) (by kernel_rfl) (fun hcl => ?_)
            simp only [List.getElem_toArray, List.getElem_cons_zero, List.getElem_cons_succ, Act.put, List.setIfInBounds_toArray, List.set_cons_zero, List.set_cons_succ]
            go_wp2_with (refine wpList_store_row rfl _ _ _ rfl _ 0 _ _ _ rfl rfl HB.out Tryd.sizePo17 (by simp) (by simp [Value.oneCell']) ?_)
            intro z9 hrow2 hg9 hz9
            have hrow := hrow2.out
            rw [splice_full (by rfl)] at hrow
            have h1 := HO1.out.same (same_grown hg9) (fun q hq => ⟨(World.ownsRow.lt HO1.out q hq).2, fun e => ownV_ne HO1.out HB.out (by decide) q hq (Option.some.inj e)⟩)
            have h2 := HO2.out.same (same_grown hg9) (fun q hq => ⟨(World.ownsRow.lt HO2.out q hq).2, fun e => ownV_ne HO2.out HB.out (by decide) q hq (Option.some.inj e)⟩)
            have h3 := below_grew HS3.out hg9 (Nat.le_refl _) (fun q hq => by rw [← Option.some.inj hq]; exact HG.out)
            have HF := hide (And.intro hrow (And.intro h1 (And.intro h2 (And.intro HG.out h3))))
            clear hrow hrow2 hg9 hz9 h1 h2 h3 HO1 HO2 HB HG
            go_wp2_with fail
            refine wpAnyT_done (by kernel_rfl) ?_ _
            go_wp2_with fail
            go_meet
            case rel => exact ⟨_, _, _, _, _, rfl, HF.out⟩
          · simp only [List.getElem_toArray, List.getElem_cons_zero, List.getElem_cons_succ, Act.put, List.setIfInBounds_toArray, List.set_cons_zero, List.set_cons_succ]
            go_wp2_with fail
            have HS2 := hide (HS1.out.alloc HS1.out.size (.cells #[.slice none 0 0, .int .i64 0, .slice none 0 0, .slice none 0 0, .slice none 0 0] 75))
            refine ⟨HS2.out, ?_⟩
            have HB := hide (Blk.new z0 75 #[.slice none 0 0, .int .i64 0, .slice none 0 0, .slice none 0 0, .slice none 0 0])
            have HG := hide (HS1.out.size)
            replace HO1 := hide (HO1.out.below ((Below.refl _ z0).alloc (Nat.le_refl _) (.cells #[.slice none 0 0, .int .i64 0, .slice none 0 0, .slice none 0 0, .slice none 0 0] 75)) (Nat.le_refl _))
            generalize (z0.alloc (.cells #[.slice none 0 0, .int .i64 0, .slice none 0 0, .slice none 0 0, .slice none 0 0] 75)) = za at *
            refine wpAnyT_step (i := 11) hcl rfl (by kernel_rfl) (fun hcl => ?_)
            simp only [List.getElem_toArray, List.getElem_cons_zero, List.getElem_cons_succ, Act.put, List.setIfInBounds_toArray, List.set_cons_zero, List.set_cons_succ]
            go_wp2_with fail
            refine (HE2.out _ HS2.out).mono ?_
            rintro e z2 ⟨v2, rfl, ho2, hb⟩
            obtain ⟨Ae2, ce2, rfl, _⟩ := ho2.form
            have HS3 := hide (HS2.out.trans (hb.mono HS2.out.size))
            have HO2 := hide (ho2.lower HS2.out.size)
            replace HB := hide (HB.out.nxt hb)
            replace HO1 := hide (HO1.out.below hb (Nat.le_refl _))
            clear ho2 hb HE2
            go_wp2_with fail
            refine ⟨HS3.out, ?_⟩
            have hS := HS3.out
            refine wpAnyT_free (i := 12) hcl rfl (by kernel_rfl) (v := ?_) (fun _ _ _ h => h) hS (Or.inl ⟨rfl, fun w' _ => ?_⟩) (fun hcl => ?_)
            rotate_left
            · go_simp
              with_reducible rfl
            simp only [List.getElem_toArray, List.getElem_cons_zero, List.getElem_cons_succ, Act.put, List.setIfInBounds_toArray, List.set_cons_zero, List.set_cons_succ]
            clear hS
            refine wpAnyT_last (i := 14) hcl rfl (by kernel_rfl) (by kernel_rfl) (fun hcl => ?_)
            simp only [List.getElem_toArray, List.getElem_cons_zero, List.getElem_cons_succ, Act.put, List.setIfInBounds_toArray, List.set_cons_zero, List.set_cons_succ]
            go_wp2_with (refine wpList_store_row rfl _ _ _ rfl _ 0 _ _ _ rfl rfl HB.out Tryd.sizePo17 (by simp) (by simp [Value.oneCell']) ?_)
            intro z9 hrow2 hg9 hz9
            have hrow := hrow2.out
            rw [splice_full (by rfl)] at hrow
            have h1 := HO1.out.same (same_grown hg9) (fun q hq => ⟨(World.ownsRow.lt HO1.out q hq).2, fun e => ownV_ne HO1.out HB.out (by decide) q hq (Option.some.inj e)⟩)
            have h2 := HO2.out.same (same_grown hg9) (fun q hq => ⟨(World.ownsRow.lt HO2.out q hq).2, fun e => ownV_ne HO2.out HB.out (by decide) q hq (Option.some.inj e)⟩)
            have h3 := below_grew HS3.out hg9 (Nat.le_refl _) (fun q hq => by rw [← Option.some.inj hq]; exact HG.out)
            have HF := hide (And.intro hrow (And.intro h1 (And.intro h2 (And.intro HG.out h3))))
            clear hrow hrow2 hg9 hz9 h1 h2 h3 HO1 HO2 HB HG
            go_wp2_with fail
            refine wpAnyT_done (by kernel_rfl) ?_ _
            go_wp2_with fail
            go_meet
            case rel => exact ⟨_, _, _, _, _, rfl, HF.out⟩
        · simp only [List.getElem_toArray, List.getElem_cons_zero, List.getElem_cons_succ, Act.put, List.setIfInBounds_toArray, List.set_cons_zero, List.set_cons_succ]
          go_wp2_with fail
          have HS1 := hide ((Below.refl y2.heap.size y2).alloc (Nat.le_refl _) (.cells #[.slice none 0 0, .int .i64 0, .slice none 0 0, .slice none 0 0, .slice none 0 0] 75)).drew
          refine ⟨HS1.out, ?_⟩
          have HB := hide (show Blk (y2.alloc (.cells #[.slice none 0 0, .int .i64 0, .slice none 0 0, .slice none 0 0, .slice none 0 0] 75)).drew y2.heap.size 75 #[.slice none 0 0, .int .i64 0, .slice none 0 0, .slice none 0 0, .slice none 0 0] from Blk.new y2 _ _)
          have HG := hide (Nat.le_refl y2.heap.size)
          generalize (y2.alloc (.cells #[.slice none 0 0, .int .i64 0, .slice none 0 0, .slice none 0 0, .slice none 0 0] 75)).drew = za at *
          refine wpAnyT_step (i := 8) hcl rfl (by kernel_rfl) (fun hcl => ?_)
          simp only [List.getElem_toArray, List.getElem_cons_zero, List.getElem_cons_succ, Act.put, List.setIfInBounds_toArray, List.set_cons_zero, List.set_cons_succ]
          go_wp2_with fail
          refine (HE1.out _ HS1.out).mono ?_
          rintro e z1 ⟨v1, rfl, ho1, hb⟩
          obtain ⟨Ae1, ce1, rfl, _⟩ := ho1.form
          have HS2 := hide (HS1.out.trans (hb.mono HS1.out.size))
          have HO1 := hide (ho1.lower HS1.out.size)
          replace HB := hide (HB.out.nxt hb)
          clear ho1 hb HE1
          go_wp2_with fail
          refine ⟨HS2.out, ?_⟩
          refine wpAnyT_step (i := 11) hcl rfl (by kernel_rfl) (fun hcl => ?_)
          simp only [List.getElem_toArray, List.getElem_cons_zero, List.getElem_cons_succ, Act.put, List.setIfInBounds_toArray, List.set_cons_zero, List.set_cons_succ]
          go_wp2_with fail
          refine (HE2.out _ HS2.out).mono ?_
          rintro e z2 ⟨v2, rfl, ho2, hb⟩
          obtain ⟨Ae2, ce2, rfl, _⟩ := ho2.form
          have HS3 := hide (HS2.out.trans (hb.mono HS2.out.size))
          have HO2 := hide (ho2.lower HS2.out.size)
          replace HB := hide (HB.out.nxt hb)
          replace HO1 := hide (HO1.out.below hb (Nat.le_refl _))
          clear ho2 hb HE2
          go_wp2_with fail
          refine ⟨HS3.out, ?_⟩
          have hS := HS3.out
          refine wpAnyT_free (i := 12) hcl rfl (by kernel_rfl) (v := ?_) (fun _ _ _ h => h) hS (Or.inl ⟨rfl, fun w' _ => ?_⟩) (fun hcl => ?_)
          rotate_left
          · go_simp
            with_reducible rfl
          simp only [List.getElem_toArray, List.getElem_cons_zero, List.getElem_cons_succ, Act.put, List.setIfInBounds_toArray, List.set_cons_zero, List.set_cons_succ]
          clear hS
          refine wpAnyT_last (i := 14) hcl rfl (by kernel_rfl) (by kernel_rfl) (fun hcl => ?_)
          simp only [List.getElem_toArray, List.getElem_cons_zero, List.getElem_cons_succ, Act.put, List.setIfInBounds_toArray, List.set_cons_zero, List.set_cons_succ]
          go_wp2_with (refine wpList_store_row rfl _ _ _ rfl _ 0 _ _ _ rfl rfl HB.out Tryd.sizePo17 (by simp) (by simp [Value.oneCell']) ?_)
          intro z9 hrow2 hg9 hz9
          have hrow := hrow2.out
          rw [splice_full (by rfl)] at hrow
          have h1 := HO1.out.same (same_grown hg9) (fun q hq => ⟨(World.ownsRow.lt HO1.out q hq).2, fun e => ownV_ne HO1.out HB.out (by decide) q hq (Option.some.inj e)⟩)
          have h2 := HO2.out.same (same_grown hg9) (fun q hq => ⟨(World.ownsRow.lt HO2.out q hq).2, fun e => ownV_ne HO2.out HB.out (by decide) q hq (Option.some.inj e)⟩)
          have h3 := below_grew HS3.out hg9 (Nat.le_refl _) (fun q hq => by rw [← Option.some.inj hq]; exact HG.out)
          have HF := hide (And.intro hrow (And.intro h1 (And.intro h2 (And.intro HG.out h3))))
          clear hrow hrow2 hg9 hz9 h1 h2 h3 HO1 HO2 HB HG
          go_wp2_with fail
          refine wpAnyT_done (by kernel_rfl) ?_ _
          go_wp2_with fail
          go_meet
          case rel => exact ⟨_, _, _, _, _, rfl, HF.out⟩
      case rest =>
      obtain ⟨g8, Ae1, ce1, Ae2, ce2, hp, hbx, ho1, ho2, hge, hbel⟩ := hcut
      subst hp
      have hgml : gm < y2.heap.size := H7.out.1.box.lt
      have HF0 := hide (Fol17.mk (w := w) (gm := gm) (lo := y2.heap.size) (x := x.pt) (k := 0) (vs := []) (H7.out.1.next hbel) hbx ho1 ho2 (World.ownsRow_nil _ _ _ _) rfl (fun i hi => (by omega)) (H7.out.2.2.2.1.nxt hbel) (H7.out.2.2.2.2.trans (hbel.mono (by have := H7.out.2.2.2.2.size; omega))))
      clear hbx ho1 ho2 hbel H7
      go_wp2_with fail
      go_loopw [9] (fun kv wr => ∃ (k : Nat) (vs : List Value) (fv : Value), kv = .int .i64 k ∧ k ≤ N ∧ Fol17 w gm N fb fc y2.heap.size g8 rows (.slice As R.2.S.length cs) R.2.M R.2.S x.pt (.slice Ae1 (edgesOf N x.pt.fst).length ce1) (.slice Ae2 (edgesOf N x.pt.lst).length ce2) k vs fv wr) (fun kv _ => N - (intOf kv).toNat)
      case atStart => exact ⟨0, [], _, rfl, by omega, HF0.out⟩
      case round =>
        clear HF0
        obtain ⟨k, vs, fv, rfl, hk, hF⟩ := hrel
        have HF := hide hF
        clear hF
        obtain ⟨Av, Ac2, hv⟩ := ownV_form HF.out.own
        rw [HF.out.len] at hv
        subst hv
        have hgl8 := HF.out.box.lt
        by_cases hlt : k < N
        case neg =>
          have g2 : decide ((k : Int) < (N : Int)) = false := decide_eq_false (by omega)
          have hkN : k = N := by omega
          subst k
          clear g2
          have g2 : decide ((N : Int) < (N : Int)) = false := decide_eq_false (by omega)
          obtain ⟨ap, hap, hpo⟩ := HF.out.po (by omega)
          have HAP := hide (And.intro hap hpo)
          clear hap hpo
          have c8 := HF.out.box.cell
          go_wp2_with (refine wpList_store_row rfl _ _ _ rfl (w.heap.size + 1) 0 _ _ _ rfl rfl HF.out.res Tryd.sizePo17 (by simp) (by simp [Value.oneCell']) ?_)
          intro w9 hrow2 hg9 hz9
          have hrow := hrow2.out
          rw [splice_full (by rfl)] at hrow
          have hp9 := HAP.out.2.same (ok' := fun b => w.heap.size ≤ b ∧ b < w9.heap.size) ((same_grown hg9).mono fun b hb => ⟨hb.2, fun e => by have := Option.some.inj e; have := hb.1; omega⟩) (fun b hb => ⟨by have := hb.1; omega, by have := hb.2; omega⟩)
          have HF9 := hide (And.intro hrow (And.intro hp9 (below_grew HF.out.below hg9 (Nat.le_refl _) (fun q hq => by rw [← Option.some.inj hq]; omega))))
          clear hrow hrow2 hg9 hz9 hp9 c8
          go_wp2_with fail
          refine bodyPost_ret (results_cell_row rfl _ _ (w.heap.size + 1) _ _ (0, 0) _ rfl HF9.out.1 Tryd.underlying75 rfl Tryd.sizePo17) rfl ?_
          exact HPM.out _ _ ⟨ap, by rw [← HPX.out, ← HAP.out.1], by rw [← HPX.out]; exact HF9.out.2.1, HF9.out.2.2⟩
        have g2 : decide ((k : Int) < (N : Int)) = true := decide_eq_true (by omega)
        have hlk : (edgesOf N (R.2.M k)).length ≤ N := edgesOf_len N _
        go_upto_region 13 with fail
        refine wp_region_mix (fun z => Below wr.heap.size wr z) [11, 12, 13] (by kernel_rfl) (fun hcl => ?_)
        have hS : Below wr.heap.size wr wr.drew := (Below.refl _ _).drew
        refine wpAnyT_free (i := 0) hcl rfl (by kernel_rfl) (v := ?_) (fun _ _ _ h => h) hS (Or.inl ⟨rfl, fun w' _ => ?_⟩) (fun hcl => ?_)
        rotate_left
        · go_simp
          with_reducible rfl
        simp only [List.getElem_toArray, List.getElem_cons_zero, List.getElem_cons_succ, Act.put, List.setIfInBounds_toArray, List.set_cons_zero, List.set_cons_succ]
        refine wpAnyT_take (i := 1) hcl rfl (by kernel_rfl) (v := ?_) (fun _ _ _ h => h) hS (Or.inl ⟨rfl, fun w' hS => ?_⟩) (fun hcl => ?_)
        rotate_left
        · skip
          have c8 := (HF.out.box.nxt hS).cell
          go_simp
          with_reducible rfl
        simp only [List.getElem_toArray, List.getElem_cons_zero, List.getElem_cons_succ, Act.put, List.setIfInBounds_toArray, List.set_cons_zero, List.set_cons_succ]
        refine wpAnyT_free (i := 2) hcl rfl (by kernel_rfl) (v := ?_) (fun _ _ _ h => h) hS (Or.inl ⟨rfl, fun w' _ => ?_⟩) (fun hcl => ?_)
        rotate_left
        · go_simp
          with_reducible rfl
        simp only [List.getElem_toArray, List.getElem_cons_zero, List.getElem_cons_succ, Act.put, List.setIfInBounds_toArray, List.set_cons_zero, List.set_cons_succ]
        refine wpAnyT_free (i := 3) hcl rfl (by kernel_rfl) (v := ?_) (fun _ _ _ h => h) hS (Or.inl ⟨rfl, fun w' _ => ?_⟩) (fun hcl => ?_)
        rotate_left
        · go_simp
          with_reducible rfl
        simp only [List.getElem_toArray, List.getElem_cons_zero, List.getElem_cons_succ, Act.put, List.setIfInBounds_toArray, List.set_cons_zero, List.set_cons_succ]
        refine wpAnyT_free (i := 4) hcl rfl (by kernel_rfl) (v := ?_) (fun _ _ _ h => h) hS (Or.inl ⟨rfl, fun w' _ => ?_⟩) (fun hcl => ?_)
        rotate_left
        · go_simp
          with_reducible rfl
        simp only [List.getElem_toArray, List.getElem_cons_zero, List.getElem_cons_succ, Act.put, List.setIfInBounds_toArray, List.set_cons_zero, List.set_cons_succ]
        refine wpAnyT_take (i := 5) hcl rfl (by kernel_rfl) (v := ?_) (fun _ _ _ h => h) hS (Or.inl ⟨rfl, fun w' hS => ?_⟩) (fun hcl => ?_)
        rotate_left
        · skip
          have cg := (HF.out.at_.box.nxt hS).cell
          simp only [folV_pos (show 0 < N by omega)] at cg
          go_simp
          with_reducible rfl
        simp only [List.getElem_toArray, List.getElem_cons_zero, List.getElem_cons_succ, Act.put, List.setIfInBounds_toArray, List.set_cons_zero, List.set_cons_succ]
        refine wpAnyT_free (i := 6) hcl rfl (by kernel_rfl) (v := ?_) (fun _ _ _ h => h) hS (Or.inl ⟨rfl, fun w' _ => ?_⟩) (fun hcl => ?_)
        rotate_left
        · go_simp
          with_reducible rfl
        simp only [List.getElem_toArray, List.getElem_cons_zero, List.getElem_cons_succ, Act.put, List.setIfInBounds_toArray, List.set_cons_zero, List.set_cons_succ]
        refine wpAnyT_free (i := 7) hcl rfl (by kernel_rfl) (v := ?_) (fun _ _ _ h => h) hS (Or.inl ⟨rfl, fun w' _ => ?_⟩) (fun hcl => ?_)
        rotate_left
        · go_simp
          with_reducible rfl
        simp only [List.getElem_toArray, List.getElem_cons_zero, List.getElem_cons_succ, Act.put, List.setIfInBounds_toArray, List.set_cons_zero, List.set_cons_succ]
        refine wpAnyT_take (i := 8) hcl rfl (by kernel_rfl) (v := ?_) (fun _ _ _ h => h) hS (Or.inl ⟨rfl, fun w' hS => ?_⟩) (fun hcl => ?_)
        rotate_left
        · skip
          obtain ⟨row, hr, hrn⟩ := HF.out.at_.fol (by omega)
          have cf : w'.cell? ⟨fb, k, none⟩ = some (.slice (some ⟨rows k, 0, none⟩) N N) := by rw [(hr.nxt hS).cell, hrn k hlt]
          clear hr hrn
          go_simp
          with_reducible rfl
        simp only [List.getElem_toArray, List.getElem_cons_zero, List.getElem_cons_succ, Act.put, List.setIfInBounds_toArray, List.set_cons_zero, List.set_cons_succ]
        refine wpAnyT_step (i := 9) hcl rfl (by kernel_rfl) (fun hcl => ?_)
        simp only [List.getElem_toArray, List.getElem_cons_zero, List.getElem_cons_succ, Act.put, List.setIfInBounds_toArray, List.set_cons_zero, List.set_cons_succ]
        have HS := hide hS
        have HER := hide (HF.out.at_.row k hlt)
        clear hS
        go_wp2_with fail
        refine (edges17_any N (rows k) (R.2.M k) wr.drew hN9 (HER.out.next HS.out)).mono ?_
        rintro e w4 ⟨ve, rfl, hoe, hb4⟩
        obtain ⟨Ae, ce, rfl, _⟩ := hoe.form
        have hbA := HS.out.trans (hb4.mono HS.out.size)
        have hbB := hbA.alloc hbA.size (.cells #[.slice Ae (edgesOf N (R.2.M k)).length ce] 72)
        have hoe2 := (hoe.lower (b' := y2.heap.size) (by have := HS.out.size; omega)).below ((Below.refl w4.heap.size w4).alloc (Nat.le_refl _) (.cells #[.slice Ae (edgesOf N (R.2.M k)).length ce] 72)) (Nat.le_refl _)
        have HB4 := hide (And.intro hbA (And.intro hbB hoe2))
        clear hoe hoe2 hb4 hbA hbB HER
        go_wp2_with fail
        refine ⟨HB4.out.1, ?_⟩
        refine wpAnyT_step (i := 10) hcl rfl (by kernel_rfl) (fun hcl => ?_)
        simp only [List.getElem_toArray, List.getElem_cons_zero, List.getElem_cons_succ, Act.put, List.setIfInBounds_toArray, List.set_cons_zero, List.set_cons_succ]
        go_wp2_with fail
        refine ⟨HB4.out.2.1, ?_⟩
        refine wpAnyT_last (i := 11) hcl rfl (by kernel_rfl) (by kernel_rfl) (fun hcl => ?_)
        simp only [List.getElem_toArray, List.getElem_cons_zero, List.getElem_cons_succ, Act.put, List.setIfInBounds_toArray, List.set_cons_zero, List.set_cons_succ]
        refine wpList_append_val 73 72 Tryd.underlying73 Tryd.infoEdges17 rfl _ _ rfl y2.heap.size _ vs (by rw [← HF.out.len]; rfl) (HF.out.next HB4.out.2.1).own (.slice Ae (edgesOf N (R.2.M k)).length ce) w4.heap.size 1 rfl rfl (Blk.new w4 72 _) (by rw [HF.out.len]; omega) (by have := HB4.out.2.1.size; omega) ?_
        intro v' w5 ho hg _ hform
        refine wpList_nil ?_
        obtain ⟨A3, c3, hv3⟩ := hform
        rw [HF.out.len] at hv3
        have h1 := HF.out.next HB4.out.2.1
        have hbx5 := h1.box.grown hg (fun e => ownV_ne h1.own h1.box (by decide) _ e.symm rfl)
        have hF5 := h1.push (by omega) (by omega) HB4.out.2.2 ho hg
        subst hv3
        have HF5 := hide hF5
        have c5 := hbx5.cell
        have f5 := hbx5.frozen
        have hg5 := hbx5.lt
        clear hF5 hbx5 h1 hg ho
        go_wp2_with fail
        refine wpAnyT_last (i := 12) hcl rfl (by kernel_rfl) (by kernel_rfl) (fun hcl => ?_)
        simp only [List.getElem_toArray, List.getElem_cons_zero, List.getElem_cons_succ, Act.put, List.setIfInBounds_toArray, List.set_cons_zero, List.set_cons_succ]
        go_wp2_with fail
        refine wpAnyT_last (i := 13) hcl rfl (by kernel_rfl) (by kernel_rfl) (fun hcl => ?_)
        simp only [List.getElem_toArray, List.getElem_cons_zero, List.getElem_cons_succ, Act.put, List.setIfInBounds_toArray, List.set_cons_zero, List.set_cons_succ]
        go_wp2_with fail
        refine wpAnyT_done (by kernel_rfl) ?_ _
        clear c5 f5
        go_wp2_with fail
        go_roundw
        case rel => exact ⟨k + 1, _, _, by go_num, hlt, HF5.out⟩
        case measure => simp [intOf]; omega
    have g1 : decide ((k : Int) < (N : Int)) = true := decide_eq_true (by omega)
    go_upto_region 7 with fail
    refine wp_region_mix (fun z => Below wr.heap.size wr z) [8, 9, 10, 11] (by kernel_rfl) (fun hcl => ?_)
    have hS : Below wr.heap.size wr wr.drew := (Below.refl _ _).drew
    refine wpAnyT_free (i := 0) hcl rfl (by kernel_rfl) (v := ?_) (fun _ _ _ h => h) hS (Or.inl ⟨rfl, fun w' _ => ?_⟩) (fun hcl => ?_)
    rotate_left
    · go_simp
      with_reducible rfl
    simp only [List.getElem_toArray, List.getElem_cons_zero, List.getElem_cons_succ, Act.put, List.setIfInBounds_toArray, List.set_cons_zero, List.set_cons_succ]
    refine wpAnyT_free (i := 1) hcl rfl (by kernel_rfl) (v := ?_) (fun _ _ _ h => h) hS (Or.inl ⟨rfl, fun w' _ => ?_⟩) (fun hcl => ?_)
    rotate_left
    · go_simp
      with_reducible rfl
    simp only [List.getElem_toArray, List.getElem_cons_zero, List.getElem_cons_succ, Act.put, List.setIfInBounds_toArray, List.set_cons_zero, List.set_cons_succ]
    refine wpAnyT_free (i := 2) hcl rfl (by kernel_rfl) (v := ?_) (fun _ _ _ h => h) hS (Or.inl ⟨rfl, fun w' _ => ?_⟩) (fun hcl => ?_)
    rotate_left
    · go_simp
      with_reducible rfl
    simp only [List.getElem_toArray, List.getElem_cons_zero, List.getElem_cons_succ, Act.put, List.setIfInBounds_toArray, List.set_cons_zero, List.set_cons_succ]
    refine wpAnyT_free (i := 3) hcl rfl (by kernel_rfl) (v := ?_) (fun _ _ _ h => h) hS (Or.inl ⟨rfl, fun w' _ => ?_⟩) (fun hcl => ?_)
    rotate_left
    · go_simp
      with_reducible rfl
    simp only [List.getElem_toArray, List.getElem_cons_zero, List.getElem_cons_succ, Act.put, List.setIfInBounds_toArray, List.set_cons_zero, List.set_cons_succ]
    refine wpAnyT_take (i := 4) hcl rfl (by kernel_rfl) (v := ?_) (fun _ _ _ h => h) hS (Or.inl ⟨rfl, fun w' hS => ?_⟩) (fun hcl => ?_)
    rotate_left
    · skip
      have cm := (HM.out.mkr.nxt hS).cell
      go_simp
      with_reducible rfl
    simp only [List.getElem_toArray, List.getElem_cons_zero, List.getElem_cons_succ, Act.put, List.setIfInBounds_toArray, List.set_cons_zero, List.set_cons_succ]
    refine wpAnyT_free (i := 5) hcl rfl (by kernel_rfl) (v := ?_) (fun _ _ _ h => h) hS (Or.inl ⟨rfl, fun w' _ => ?_⟩) (fun hcl => ?_)
    rotate_left
    · go_simp
      with_reducible rfl
    simp only [List.getElem_toArray, List.getElem_cons_zero, List.getElem_cons_succ, Act.put, List.setIfInBounds_toArray, List.set_cons_zero, List.set_cons_succ]
    refine wpAnyT_step (i := 6) hcl rfl (by kernel_rfl) (fun hcl => ?_)
    simp only [List.getElem_toArray, List.getElem_cons_zero, List.getElem_cons_succ, Act.put, List.setIfInBounds_toArray, List.set_cons_zero, List.set_cons_succ]
    have HS := hide hS
    clear hS
    go_wp2_with fail
    refine (none17_any N gm _ wr.drew (by omega) (HM.out.mkr.nxt HS.out) rfl).mono ?_
    rintro e w4 ⟨r, rfl, hr, hrw, hb4⟩
    have hbA := HS.out.trans (hb4.mono HS.out.size)
    have hrw2 : wr.heap.size ≤ r := Nat.le_trans HS.out.size hrw
    have hbB := hbA.alloc hbA.size (.cells #[.slice (some ⟨r, 0, none⟩) N N] 55)
    have HB4 := hide (And.intro hbA (And.intro hbB (And.intro (hr.next ((Below.refl w4.heap.size w4).alloc (Nat.le_refl _) (.cells #[.slice (some ⟨r, 0, none⟩) N N] 55))) hrw2)))
    clear hr hrw hb4 hbA hbB hrw2
    go_wp2_with fail
    refine ⟨HB4.out.1, ?_⟩
    refine wpAnyT_step (i := 7) hcl rfl (by kernel_rfl) (fun hcl => ?_)
    simp only [List.getElem_toArray, List.getElem_cons_zero, List.getElem_cons_succ, Act.put, List.setIfInBounds_toArray, List.set_cons_zero, List.set_cons_succ]
    go_wp2_with fail
    refine ⟨HB4.out.2.1, ?_⟩
    refine wpAnyT_last (i := 8) hcl rfl (by kernel_rfl) (by kernel_rfl) (fun hcl => ?_)
    simp only [List.getElem_toArray, List.getElem_cons_zero, List.getElem_cons_succ, Act.put, List.setIfInBounds_toArray, List.set_cons_zero, List.set_cons_succ]
    refine wpList_append_val 121 55 Tryd.underlying121 Tryd.infoInts17 rfl _ _ rfl gm _ (rowVals N rs) (by rw [← HVL.out]; rfl) (HM.out.next HB4.out.2.1).fol (.slice (some ⟨r, 0, none⟩) N N) w4.heap.size 1 rfl rfl (Blk.new w4 55 _) (by rw [HVL.out]; omega) (by have := HB4.out.2.1.size; omega) ?_
    intro v' w5 ho hg _ hform
    refine wpList_nil ?_
    obtain ⟨A3, c3, hv3⟩ := hform
    rw [HVL.out] at hv3
    have h1 := HM.out.next HB4.out.2.1
    have hmk5 := h1.mkr.grown hg (fun e => ownV_ne h1.fol h1.mkr (by decide) _ e.symm rfl)
    have hM5 := HM.out.push (by omega) hgt h1 HB4.out.2.2.1 HB4.out.2.2.2 ho hg
    subst hv3
    have HM5 := hide hM5
    have c5 := hmk5.cell
    have f5 := hmk5.frozen
    have hg5 := hmk5.lt
    clear hM5 hmk5 h1 hg ho
    go_wp2_with fail
    refine wpAnyT_last (i := 9) hcl rfl (by kernel_rfl) (by kernel_rfl) (fun hcl => ?_)
    simp only [List.getElem_toArray, List.getElem_cons_zero, List.getElem_cons_succ, Act.put, List.setIfInBounds_toArray, List.set_cons_zero, List.set_cons_succ]
    go_wp2_with fail
    refine wpAnyT_last (i := 10) hcl rfl (by kernel_rfl) (by kernel_rfl) (fun hcl => ?_)
    simp only [List.getElem_toArray, List.getElem_cons_zero, List.getElem_cons_succ, Act.put, List.setIfInBounds_toArray, List.set_cons_zero, List.set_cons_succ]
    go_wp2_with fail
    refine wpAnyT_last (i := 11) hcl rfl (by kernel_rfl) (by kernel_rfl) (fun hcl => ?_)
    simp only [List.getElem_toArray, List.getElem_cons_zero, List.getElem_cons_succ, Act.put, List.setIfInBounds_toArray, List.set_cons_zero, List.set_cons_succ]
    go_wp2_with fail
    refine wpAnyT_done (by kernel_rfl) ?_ _
    clear c5 f5
    go_wp2_with fail
    go_roundw
    case rel => exact ⟨k + 1, rs ++ [r], _, by go_num, hlt, by rw [List.length_append, HRS.out]; rfl, HM5.out⟩
    case measure => simp [intOf]; omega
end Go.Proofs.YtbbhobojghmkpaaDoor
