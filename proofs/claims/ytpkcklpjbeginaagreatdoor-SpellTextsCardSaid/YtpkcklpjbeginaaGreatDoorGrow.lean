/- A list of nodes that a call builds by append. -/
import Derived.Test.YtpkcklpjbeginaaGreatDoorProg
import Derived.Test.YtpkcklpjbeginaaGreatDoorMem
import Derived.Maps.AppendAt
namespace Go.Proofs.YtpkcklpjbeginaaGreatDoor
open Go.RowKit

/-- A node without anything. -/
def zeroCells : Array Value := #[.int .i64 0, .int .u64 0, .int .u64 0, .int .u64 0, .int .u64 0, .slice none 0 0, .int .i64 0, .int .i64 0, .int .i64 0, .bool false]
theorem Tryz.infoNode : (Tryz.prog.info? 27).map (fun i => (i.zero, i.size, i.bytes)) = some (some (.agg zeroCells), 10, 96) := by kernel_rfl

theorem Tryz.sizeNode : (Tryz.prog.info? 27).map (·.size) = some 10 := by kernel_rfl

theorem TL.Own.app {w : World} {rest : List Value} : ∀ {l : List T} {xs : List Value} {bs : List Nat}, TL.Own w l xs bs → TL.Own w l (xs ++ rest) bs
 | [], _, _, h => h
 | _ :: _, _, _, ⟨B, c, b1, b2, r, h1, h2, h3, h4⟩ => ⟨B, c, b1, b2, r ++ rest, by rw [h1, List.append_assoc], h2, h3, TL.Own.app h4⟩

/-- The value v is a list of the call's own (its row lies from block base on) that holds the trees l; the memory of their lists is bs. -/
def GrowT (base : Nat) (w : World) (v : Value) (l : List T) (bs : List Nat) : Prop :=
 ∃ xs, w.ownsRow base 27 10 v l.length xs ∧ TL.Own w l xs bs ∧ bs.Nodup ∧ ∀ b ∈ bs, base ≤ b ∧ b < w.heap.size ∧ some b ≠ v.ownBlock

theorem GrowT.nil (base : Nat) (w : World) : GrowT base w (.slice none 0 0) [] [] := ⟨[], World.ownsRow_nil _ _ _ _, rfl, List.nodup_nil, by simp⟩

theorem GrowT.same {base : Nat} {w w' : World} {v : Value} {l : List T} {bs : List Nat} (h : GrowT base w v l bs) (hs : Same (fun b => base ≤ b ∧ b < w.heap.size) w w') (hz : w.heap.size ≤ w'.heap.size) : GrowT base w' v l bs := by
 obtain ⟨xs, h1, h2, h3, h4⟩ := h
 refine ⟨xs, ?_, h2.same (hs.mono fun b hb => ⟨(h4 b hb).1, (h4 b hb).2.1⟩), h3, fun b hb => ⟨(h4 b hb).1, by have := (h4 b hb).2.1; omega, (h4 b hb).2.2⟩⟩
 refine ⟨h1.1, ?_⟩
 rcases h1.2 with h | ⟨g, cap, cur, e, hb, hg, r⟩
 ·exact .inl h
 ·exact .inr ⟨g, cap, cur, e, hb, (hs g ⟨hb, (Array.getElem?_eq_some_iff.1 hg).1⟩).trans hg, r⟩

theorem GrowT.below {base : Nat} {w w' : World} {v : Value} {l : List T} {bs : List Nat} (h : GrowT base w v l bs) (hb : Below w.heap.size w w') : GrowT base w' v l bs :=
 h.same (fun b hx => hb.block b hx.2) hb.size

/-- The finished list. -/
theorem GrowT.own {base : Nat} {w : World} {v : Value} {l : List T} {bs : List Nat} (h : GrowT base w v l bs) (hd : Hd) :
  ∃ A c bs', v = .slice A l.length c ∧ T.Own w (.mk hd l) A bs' ∧ bs'.Nodup ∧ ∀ b ∈ bs', base ≤ b ∧ b < w.heap.size := by
 obtain ⟨xs, h1, h2, h3, h4⟩ := h
 rcases h1.2 with ⟨rfl, h0⟩ | ⟨g, cap, cur, rfl, hb, hg, _, _, _, ht⟩
 ·have hl : l = [] := List.eq_nil_of_length_eq_zero h0
  subst hl
  exact ⟨none, 0, [], rfl, .inl ⟨rfl, rfl⟩, List.nodup_nil, by simp⟩
 ·refine ⟨some ⟨g, 0, none⟩, cap, g :: bs, rfl, .inr ⟨g, cur, bs, rfl, rfl, hg, ?_⟩, List.nodup_cons.2 ⟨fun hm => (h4 g hm).2.2 rfl, h3⟩, fun b hm => ?_⟩
  ·have := h2.app (rest := cur.toList.drop (l.length * 10))
   rwa [← ht, List.take_append_drop] at this
  ·rcases List.mem_cons.1 hm with rfl | hm
   ·exact ⟨hb, (Array.getElem?_eq_some_iff.1 hg).1⟩
   ·exact ⟨(h4 b hm).1, (h4 b hm).2.1⟩

theorem GrowT.form {base : Nat} {w : World} {v : Value} {l : List T} {bs : List Nat} (h : GrowT base w v l bs) : ∃ A c, v = .slice A l.length c := by
 obtain ⟨A, c, _, e, _⟩ := h.own ⟨0, 0, 0, 0, 0, 0, 0, 0, false⟩
 exact ⟨A, c, e⟩

section
variable {w : World} {ops : Array Oper} {rest : List Oper} {o : Oper} {a : Act} {Q : Exit → Act → World → Prop}

/-- 'l = append(l, t)', t a node that the call has just laid as a list of one. -/
theorem wpList_append_node (hgd : o.guard = none) (s x : Operand) (ho : o.op = .call { callee := .builtin .append, args := #[s, x], argTypes := #[25, 25] })
  (base : Nat) (v : Value) (l : List T) (bs : List Nat) (hs : a.eval s = v) (hg : GrowT base w v l bs) (t : T) (B : Option Addr) (c g cap : Nat) (b2 : List Nat)
  (hx : a.eval x = .slice (some ⟨g, 0, none⟩) 1 cap) (hb : Blk w g 27 (t.hd.cells (.slice B t.subs.length c)).toArray) (ht : T.Own w t B b2) (hnd : b2.Nodup)
  (hb2 : ∀ b ∈ b2, base ≤ b ∧ b < w.heap.size ∧ some b ≠ v.ownBlock ∧ b ∉ bs) (hl : l.length < 1000000) (hbase : base ≤ w.heap.size)
  (h : ∀ v' w', GrowT base w' v' (l ++ [t]) (bs ++ b2) → w.grownBy w' v.ownBlock → wpList Tryz.prog ops Q rest (a.put o.dst v') w') : wpList Tryz.prog ops Q (o :: rest) a w := by
 obtain ⟨xs, h1, h2, h3, h4⟩ := hg
 obtain ⟨i, hi, hz0, hz1, hz2⟩ := info_parts Tryz.infoNode
 refine wpList_append_own_at w hgd s x 25 ho base 27 i _ 10 96 Tryz.underlying25 hi hz0 hz1 hz2 rfl (by decide) v l.length xs hs h1 ⟨g, 0, none⟩ 1 cap (t.hd.cells (.slice B t.subs.length c)) hx rfl ?_ (cells_one _ _ _ _) (by simp only [maxLen]; omega) (by omega) hbase ?_
 ·intro j u hu
  rw [Addr.add_lit, Nat.zero_add, hb.cell]
  simpa using hu
 intro v' w' hown hgr _ hat
 have S : Same (fun b => b < w.heap.size ∧ some b ≠ v.ownBlock) w w' := fun b hb => hgr.block b hb.1 hb.2
 have hdisj : ∀ b, b < w.heap.size → some b ≠ v.ownBlock → some b ≠ v'.ownBlock := by
  intro b hb hne
  rcases hat with e | e
  ·rw [e]; exact hne
  ·rw [e]; simp; omega
 refine h v' w' ⟨_, by simpa using hown, ?_, ?_, ?_⟩ hgr
 ·have := TL.Own.snoc (c := c) (tail := []) (ht.same (S.mono fun b hb => ⟨(hb2 b hb).2.1, (hb2 b hb).2.2.1⟩)) (h2.same (S.mono fun b hb => ⟨(h4 b hb).2.1, (h4 b hb).2.2⟩))
  rw [List.take_of_length_le (by rw [h1.1]; omega), List.append_nil] at this
  exact this
 ·exact List.nodup_append.2 ⟨h3, hnd, fun p hp q hq e => (hb2 q hq).2.2.2 (e ▸ hp)⟩
 ·intro b hm
  rcases List.mem_append.1 hm with hm | hm
  ·exact ⟨(h4 b hm).1, Nat.lt_of_lt_of_le (h4 b hm).2.1 hgr.size, hdisj b (h4 b hm).2.1 (h4 b hm).2.2⟩
  ·exact ⟨(hb2 b hm).1, Nat.lt_of_lt_of_le (hb2 b hm).2.1 hgr.size, hdisj b (hb2 b hm).2.1 (hb2 b hm).2.2.1⟩
end
end Go.Proofs.YtpkcklpjbeginaaGreatDoor
