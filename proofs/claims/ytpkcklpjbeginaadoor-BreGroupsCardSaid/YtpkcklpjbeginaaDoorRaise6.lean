/- trawllaw06.raise, raised: all the groups' numbers of a tree, so many more. (Printed by gen_raise6.py.) -/
import Derived.Test.YtpkcklpjbeginaaDoorJoinP6
import Derived.Test.YtpkcklpjbeginaaDoorOnly
import Derived.Test.YtpkcklpjbeginaaDoorTurns
import Derived.Test.YtpkcklpjbeginaaDoorSames
set_option linter.unusedSimpArgs false
set_option linter.unusedVariables false
namespace Go.Proofs.YtpkcklpjbeginaaDoor
open Go.RowKit

/-- The k-th of the trees that lie in a row; another one may stand in its place. -/
theorem TL.Own.split6 {w : World} {t : T} {l2 : List T} : ∀ {l1 : List T} {xs : List Value} {bs : List Nat}, TL.Own w (l1 ++ t :: l2) xs bs → bs.Nodup →
    ∃ xs1 B c b1 rest, xs = xs1 ++ (t.hd.cells (.slice B t.subs.length c) ++ rest) ∧ xs1.length = l1.length * 10 ∧ (∀ b ∈ b1, b ∈ bs) ∧ b1.Nodup ∧ T.Own w t B b1 ∧
      ∀ (w' : World) (t' : T), t'.subs.length = t.subs.length → Same (fun b => b ∈ bs ∧ b ∉ b1) w w' → T.Own w' t' B b1 → TL.Own w' (l1 ++ t' :: l2) (xs1 ++ (t'.hd.cells (.slice B t.subs.length c) ++ rest)) bs
  | [], xs, bs, ⟨B, c, b1, b2, rest, h1, h2, h3, h4⟩, hn => by
    subst h2
    have hd := List.nodup_append.1 hn
    refine ⟨[], B, c, b1, rest, by simpa using h1, rfl, fun b hb => by simp [hb], hd.1, h3, fun w' t' hl hs ht => ?_⟩
    exact ⟨B, c, b1, b2, rest, by rw [hl]; rfl, rfl, ht, h4.same (hs.mono fun b hb => ⟨by simp [hb], fun hb' => hd.2.2 b hb' b hb rfl⟩)⟩
  | x :: l1, xs, bs, ⟨Bx, cx, bx, b2, rest0, h1, h2, h3, h4⟩, hn => by
    subst h2
    have hd := List.nodup_append.1 hn
    obtain ⟨xs1, B, c, b1, rest, e1, e2, e3, e4, e5, e6⟩ := TL.Own.split6 (l1 := l1) h4 hd.2.1
    refine ⟨x.hd.cells (.slice Bx x.subs.length cx) ++ xs1, B, c, b1, rest, by rw [h1, e1]; simp, by simp [Hd.cells_length, e2]; omega, fun b hb => by simp [e3 b hb], e4, e5, fun w' t' hl hs ht => ?_⟩
    exact ⟨Bx, cx, bx, b2, xs1 ++ (t'.hd.cells (.slice B t.subs.length c) ++ rest), by simp, rfl, h3.same (hs.mono fun b hb => ⟨by simp [hb], fun hb' => hd.2.2 b hb b (e3 b hb') rfl⟩), e6 w' t' hl (hs.mono fun b hb => ⟨by simp [hb.1], hb.2⟩) ht⟩
theorem T.raise_subs (n : Int) (t : T) : (t.raise n).subs = TL.raise n t.subs := by cases t; rfl
theorem T.raise_hd (n : Int) (t : T) : (t.raise n).hd = if t.hd.kind = 7 then { t.hd with num := IntKind.i64.wrap (t.hd.num + n) } else t.hd := by cases t; rfl
theorem T.raise_len (n : Int) (t : T) : (t.raise n).subs.length = t.subs.length := by rw [T.raise_subs, TL.raise_length]
theorem set_mid {pre post : List Value} {xs : List Value} {k j : Nat} {v : Value} (hk : pre.length = k) (hj : j < xs.length) : (pre ++ (xs ++ post)).set (k + j) v = pre ++ (xs.set j v ++ post) := by
  rw [List.set_append_right _ _ (by omega), List.set_append_left _ _ (by omega)]
  congr 3
  omega
end Go.Proofs.YtpkcklpjbeginaaDoor
