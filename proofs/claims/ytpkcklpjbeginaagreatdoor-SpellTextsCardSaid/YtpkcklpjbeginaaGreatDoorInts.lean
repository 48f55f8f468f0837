/- Lists of integers that a call makes; trawlnum.SameInts. -/
import Derived.Test.YtpkcklpjbeginaaGreatDoorProg
import Derived.Test.YtpkcklpjbeginaaGreatDoorMem
import Derived.Maps.AppendAt
import Derived.Outline
set_option linter.unusedSimpArgs false
set_option linter.unusedVariables false
namespace Go.Proofs.YtpkcklpjbeginaaGreatDoor
open Go.RowKit

theorem Tryz.infoInt : (Tryz.prog.info? 3).map (fun i => (i.zero, i.size, i.bytes)) = some (some (.int .i64 0), 1, 8) := by kernel_rfl

/-- The list v holds the numbers l, in memory from block base on. -/
def OwnInts (base : Nat) (w : World) (v : Value) (l : List Int) : Prop := w.ownsRow base 3 1 v l.length (l.map fun n => Value.int .i64 n)

section
variable {base : Nat} {w w' : World} {v : Value} {l : List Int}
theorem OwnInts.nil (base : Nat) (w : World) : OwnInts base w (.slice none 0 0) [] := World.ownsRow_nil _ _ _ _
theorem OwnInts.same {ok : Nat → Prop} (h : OwnInts base w v l) (hs : Same ok w w') (hk : ∀ g, v.ownBlock = some g → ok g) : OwnInts base w' v l := by
 refine ⟨h.1, ?_⟩
 rcases h.2 with h | ⟨g, cap, cur, e, hb, hg, r⟩
 ·exact .inl h
 ·exact .inr ⟨g, cap, cur, e, hb, (hs g (hk g (by rw [e]; rfl))).trans hg, r⟩
theorem OwnInts.below {B : Nat} (h : OwnInts base w v l) (hb : Below B w w') (hB : w.heap.size ≤ B) : OwnInts base w' v l :=
 h.same (same_of_below hb) fun g hg => Nat.lt_of_lt_of_le (World.ownsRow.lt h g hg).2 hB
theorem OwnInts.made {g : Nat} (h : Blk w g 3 (l.map fun n => Value.int .i64 n).toArray) (hm : l.length ≤ 1000000) : OwnInts g w (.slice (some ⟨g, 0, none⟩) l.length l.length) l :=
 ⟨by simp, .inr ⟨g, l.length, _, rfl, Nat.le_refl _, h, Nat.le_refl _, by simp only [maxLen]; omega, by simp, by rw [Nat.mul_one]; exact List.take_of_length_le (by simp)⟩⟩
theorem OwnInts.form (h : OwnInts base w v l) : ∃ A c, v = .slice A l.length c ∧ l.length ≤ 9223372036854775807 ∧ ∀ i n, l[i]? = some n → ∃ g, A = some ⟨g, 0, none⟩ ∧ base ≤ g ∧ g < w.heap.size ∧ w.cell? ⟨g, i, none⟩ = some (.int .i64 n) := by
 rcases h.2 with ⟨e, h0⟩ | ⟨g, cap, cur, e, hb, hg, hn, hc, _⟩
 ·refine ⟨none, 0, by rw [e, h0], by omega, fun i n hi => ?_⟩
  rw [List.eq_nil_of_length_eq_zero h0] at hi
  simp at hi
 ·refine ⟨some ⟨g, 0, none⟩, cap, e, by simp only [maxLen] at hc; omega, fun i n hi => ⟨g, rfl, hb, (World.ownsRow.lt h g (by rw [e]; rfl)).2, ?_⟩⟩
  have := World.ownsRow.cells h (g := g) (by rw [e]; rfl) i (.int .i64 n) (by rw [List.getElem?_map, hi]; rfl)
  rwa [Addr.add_lit, Nat.zero_add] at this
end

section
variable {w : World} {ops : Array Oper} {rest : List Oper} {o : Oper} {a : Act} {Q : Exit → Act → World → Prop}
theorem wpList_append_int (hgd : o.guard = none) (s x : Operand) (ho : o.op = .call { callee := .builtin .append, args := #[s, x], argTypes := #[68, 68] })
  (base : Nat) (v : Value) (l : List Int) (hs : a.eval s = v) (hg : OwnInts base w v l) (n : Int) (g cap : Nat)
  (hx : a.eval x = .slice (some ⟨g, 0, none⟩) 1 cap) (hb : Blk w g 3 #[.int .i64 n]) (hl : l.length < 1000000) (hbase : base ≤ w.heap.size)
  (h : ∀ v' w', OwnInts base w' v' (l ++ [n]) → w.grownBy w' v.ownBlock → wpList Tryz.prog ops Q rest (a.put o.dst v') w') : wpList Tryz.prog ops Q (o :: rest) a w := by
 obtain ⟨i, hi, hz0, hz1, hz2⟩ := info_parts Tryz.infoInt
 refine wpList_append_own_at w hgd s x 68 ho base 3 i _ 1 8 Tryz.underlying68 hi hz0 hz1 hz2 rfl (by decide) v l.length _ hs hg ⟨g, 0, none⟩ 1 cap [.int .i64 n] hx rfl ?_ (by simp [Value.oneCell']) (by simp only [maxLen]; omega) (by omega) hbase ?_
 ·intro j u hu
  rw [Addr.add_lit, Nat.zero_add, hb.cell]
  simpa using hu
 intro v' w' hown hgr _ _
 refine h v' w' ?_ hgr
 simpa [OwnInts] using hown
end

theorem below_drewN {B : Nat} {w w' : World} (h : Below B w w') (n : Nat) : Below B w (w'.drewN n) := ⟨h.os, h.tape, h.output, h.size, h.block⟩

end Go.Proofs.YtpkcklpjbeginaaGreatDoor
