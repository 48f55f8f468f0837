/- A list of nodes that a call builds by append. -/
import Derived.Test.YtdkonfdhedcajaaDoorProg
import Derived.Test.YtdkonfdhedcajaaDoorMem
import Derived.Maps.AppendAt
namespace Go.Proofs.YtdkonfdhedcajaaDoor
open Go.RowKit

theorem TL.Own.app {w : World} {rest : List Value} : ∀ {l : List T} {xs : List Value} {bs : List Nat}, TL.Own w l xs bs → TL.Own w l (xs ++ rest) bs
  | [], _, _, h => h
  | _ :: _, _, _, ⟨B, c, b1, b2, r, h1, h2, h3, h4⟩ => ⟨B, c, b1, b2, r ++ rest, by rw [h1, List.append_assoc], h2, h3, TL.Own.app h4⟩

/-- The value v is a list of the call's own (its row lies from block base on) that holds the trees l; the memory of their lists is bs. -/
def GrowT (base : Nat) (w : World) (v : Value) (l : List T) (bs : List Nat) : Prop :=
  ∃ xs, w.ownsRow base 42 10 v l.length xs ∧ TL.Own w l xs bs ∧ bs.Nodup ∧ ∀ b ∈ bs, base ≤ b ∧ b < w.heap.size ∧ some b ≠ v.ownBlock

theorem GrowT.nil (base : Nat) (w : World) : GrowT base w (.slice none 0 0) [] [] := ⟨[], World.ownsRow_nil _ _ _ _, rfl, List.nodup_nil, by simp⟩

theorem GrowT.same {base : Nat} {w w' : World} {v : Value} {l : List T} {bs : List Nat} (h : GrowT base w v l bs) (hs : Same (fun b => base ≤ b ∧ b < w.heap.size) w w') (hz : w.heap.size ≤ w'.heap.size) : GrowT base w' v l bs := by
  obtain ⟨xs, h1, h2, h3, h4⟩ := h
  refine ⟨xs, ?_, h2.same (hs.mono fun b hb => ⟨(h4 b hb).1, (h4 b hb).2.1⟩), h3, fun b hb => ⟨(h4 b hb).1, by have := (h4 b hb).2.1; omega, (h4 b hb).2.2⟩⟩
  refine ⟨h1.1, ?_⟩
  rcases h1.2 with h | ⟨g, cap, cur, e, hb, hg, r⟩
  · exact .inl h
  · exact .inr ⟨g, cap, cur, e, hb, (hs g ⟨hb, (Array.getElem?_eq_some_iff.1 hg).1⟩).trans hg, r⟩

theorem GrowT.below {base : Nat} {w w' : World} {v : Value} {l : List T} {bs : List Nat} (h : GrowT base w v l bs) (hb : Below w.heap.size w w') : GrowT base w' v l bs :=
  h.same (fun b hx => hb.block b hx.2) hb.size

/-- The finished list. -/
theorem GrowT.own {base : Nat} {w : World} {v : Value} {l : List T} {bs : List Nat} (h : GrowT base w v l bs) (hd : Hd) :
    ∃ A c bs', v = .slice A l.length c ∧ T.Own w (.mk hd l) A bs' ∧ bs'.Nodup ∧ ∀ b ∈ bs', base ≤ b ∧ b < w.heap.size := by
  obtain ⟨xs, h1, h2, h3, h4⟩ := h
  rcases h1.2 with ⟨rfl, h0⟩ | ⟨g, cap, cur, rfl, hb, hg, _, _, _, ht⟩
  · have hl : l = [] := List.eq_nil_of_length_eq_zero h0
    subst hl
    exact ⟨none, 0, [], rfl, .inl ⟨rfl, rfl⟩, List.nodup_nil, by simp⟩
  · refine ⟨some ⟨g, 0, none⟩, cap, g :: bs, rfl, .inr ⟨g, cur, bs, rfl, rfl, hg, ?_⟩, List.nodup_cons.2 ⟨fun hm => (h4 g hm).2.2 rfl, h3⟩, fun b hm => ?_⟩
    · have := h2.app (rest := cur.toList.drop (l.length * 10))
      rwa [← ht, List.take_append_drop] at this
    · rcases List.mem_cons.1 hm with rfl | hm
      · exact ⟨hb, (Array.getElem?_eq_some_iff.1 hg).1⟩
      · exact ⟨(h4 b hm).1, (h4 b hm).2.1⟩

theorem GrowT.form {base : Nat} {w : World} {v : Value} {l : List T} {bs : List Nat} (h : GrowT base w v l bs) : ∃ A c, v = .slice A l.length c := by
  obtain ⟨A, c, _, e, _⟩ := h.own ⟨0, 0, 0, 0, 0, 0, 0, 0, false⟩
  exact ⟨A, c, e⟩

section
variable {w : World} {ops : Array Oper} {rest : List Oper} {o : Oper} {a : Act} {Q : Exit → Act → World → Prop}

end
end Go.Proofs.YtdkonfdhedcajaaDoor
