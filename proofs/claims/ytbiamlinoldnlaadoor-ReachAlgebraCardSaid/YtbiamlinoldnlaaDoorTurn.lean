/- turn.turn: in place. turn.Turn: of any tree. -/
import Derived.Test.YtbiamlinoldnlaaDoorRev
import Derived.Test.YtbiamlinoldnlaaDoorCopy
set_option linter.unusedSimpArgs false
set_option linter.unusedVariables false
namespace Go.Proofs.YtbiamlinoldnlaaDoor
open Go.RowKit

def Hd.turn (h : Hd) : Hd := if h.kind = 3 then { h with kind := 4 } else if h.kind = 4 then { h with kind := 3 } else h
mutual
def T.turn : T → T
  | .mk h l => .mk h.turn (if h.kind = 5 then (TL.turn l).reverse else TL.turn l)
def TL.turn : List T → List T
  | [] => []
  | t :: ts => t.turn :: TL.turn ts
end
theorem TL.turn_eq : ∀ l : List T, TL.turn l = l.map T.turn
  | [] => rfl
  | t :: ts => by simp [TL.turn, TL.turn_eq ts]
theorem T.turn_subs_length (t : T) : t.turn.subs.length = t.subs.length := by
  cases t
  simp only [T.turn, T.subs, TL.turn_eq]
  split <;> simp

/-- A list taken apart at a place. -/
theorem TL.Own.split {w : World} {s : T} {post : List T} : ∀ {pre : List T} {xs : List Value} {bs : List Nat}, TL.Own w (pre ++ s :: post) xs bs →
    ∃ B c b1 b2 b3 rest, xs.drop (pre.length * 10) = s.hd.cells (.slice B s.subs.length c) ++ rest ∧ bs = b1 ++ (b2 ++ b3) ∧ T.Own w s B b2 ∧
      ∀ (w' : World) (s' : T) (b2' : List Nat), Same (fun b => b ∈ b1 ∨ b ∈ b3) w w' → T.Own w' s' B b2' → s'.subs.length = s.subs.length →
        TL.Own w' (pre ++ s' :: post) (splice xs (pre.length * 10) (s'.hd.cells (.slice B s.subs.length c))) (b1 ++ (b2' ++ b3))
  | [], xs, bs, ⟨B, c, b1, b2, rest, h1, h2, h3, h4⟩ => by
    refine ⟨B, c, [], b1, b2, rest, by simpa using h1, by simpa using h2, h3, fun w' s' b2' hs ho hl => ?_⟩
    refine ⟨B, c, b2', b2, rest, ?_, by simp, ho, h4.same (hs.mono fun b hb => .inr hb)⟩
    subst h1
    rw [hl]
    simp [splice, Hd.cells_length]
    exact List.drop_left' (Hd.cells_length _ _)
  | t :: pre, xs, bs, ⟨B0, c0, q1, q2, rest0, h1, h2, h3, h4⟩ => by
    obtain ⟨B, c, b1, b2, b3, rest, k1, k2, k3, k4⟩ := TL.Own.split (pre := pre) h4
    subst h1; subst k2; subst h2
    have hl10 : (t.hd.cells (.slice B0 t.subs.length c0)).length = 10 := Hd.cells_length _ _
    have e : (t :: pre).length * 10 = (t.hd.cells (.slice B0 t.subs.length c0)).length + pre.length * 10 := by rw [hl10]; simp; omega
    refine ⟨B, c, q1 ++ b1, b2, b3, rest, ?_, by simp, k3, fun w' s' b2' hs ho hl => ?_⟩
    · rw [e, ← List.drop_drop, List.drop_left]
      exact k1
    · refine ⟨B0, c0, q1, b1 ++ (b2' ++ b3), _, ?_, by simp, h3.same (hs.mono fun b hb => .inl (by simp [hb])), k4 w' s' b2' (hs.mono fun b hb => hb.imp (fun h => by simp [h]) id) ho hl⟩
      rw [splice, e, List.take_length_add_append, Nat.add_assoc, List.append_assoc]
      congr 1
      rw [splice, ← List.drop_drop, List.drop_left]

/-- A list turned about. -/
theorem TL.Own.rev {w : World} : ∀ {l : List T} {xs : List Value} {bs : List Nat}, TL.Own w l xs bs →
    ∃ X tail, Tens X ∧ OneCells X ∧ X.length = l.length ∧ xs = X.flatten ++ tail ∧ ∀ (w' : World) (tail' : List Value), Same (· ∈ bs) w w' → ∃ bs', (∀ b, b ∈ bs' ↔ b ∈ bs) ∧ (bs.Nodup → bs'.Nodup) ∧ TL.Own w' l.reverse (X.reverse.flatten ++ tail') bs'
  | [], xs, bs, h => ⟨[], xs, by simp [Tens], by simp [OneCells], rfl, by simp, fun w' tail' _ => ⟨[], by have h' : bs = [] := h; simp [h'], by simp, rfl⟩⟩
  | t :: ts, xs, bs, ⟨B, c, b1, b2, rest, h1, h2, h3, h4⟩ => by
    obtain ⟨X, tail, k1, k2, k3, k4, k5⟩ := TL.Own.rev h4
    subst h1; subst h2; subst k4
    refine ⟨t.hd.cells (.slice B t.subs.length c) :: X, tail, ?_, ?_, by simp [k3], by simp, fun w' tail' hs => ?_⟩
    · intro d hd
      rcases List.mem_cons.1 hd with rfl | hd
      · rfl
      · exact k1 d hd
    · intro d hd
      rcases List.mem_cons.1 hd with rfl | hd
      · exact cells_one _ _ _ _
      · exact k2 d hd
    · obtain ⟨bs', q1, q2, q3⟩ := k5 w' (t.hd.cells (.slice B t.subs.length c) ++ tail') (hs.mono fun b hb => by simp [hb])
      refine ⟨bs' ++ b1, fun b => by simp [q1, or_comm], fun hnd => ?_, ?_⟩
      · have hnd' := List.nodup_append.1 hnd
        refine List.nodup_append.2 ⟨q2 hnd'.2.1, hnd'.1, fun x hx y hy e => hnd'.2.2 y hy x ((q1 x).1 hx) e.symm⟩
      · have := TL.Own.snoc (c := c) (tail := tail') (h3.same (hs.mono fun b hb => by simp [hb])) q3
        have hl : X.reverse.flatten.length = 10 * ts.reverse.length := by
          have : Tens X.reverse := fun d hd => k1 d (by simpa using hd)
          rw [this.length]
          simp [k3]
        rw [List.take_left' hl] at this
        simpa using this
end Go.Proofs.YtbiamlinoldnlaaDoor
