/- The plain law: the document's form of a node is the program's. -/
import Derived.Test.YtbiamlinoldnlaaDoorRefUsed
set_option linter.unusedSimpArgs false
set_option linter.unusedVariables false
namespace Go.Proofs.YtbiamlinoldnlaaDoor

def Hd.bad (h : Hd) (u : Hd) : Bool :=
  decide (h.kind < 1) || decide (8 < h.kind) || !(h.s0 == u.s0 && h.s1 == u.s1 && h.s2 == u.s2 && h.s3 == u.s3) || h.num != u.num || h.min != u.min || h.max != u.max || h.bare != u.bare

/-- What the document asks beside, of a node of n Subs. -/
def Hd.shape (h : Hd) (n : Int) : Bool :=
  if h.kind = 5 ∨ h.kind = 6 then !decide (n < 2)
  else if h.kind = 7 then !(n != 1 || decide (h.num < 1) || decide (999 < h.num))
  else if h.kind = 8 then !(n != 1 || decide (h.min < 0) || decide (255 < h.min) || decide (h.max < -1) || decide (255 < h.max) || (decide (0 ≤ h.max) && decide (h.max < h.min)) || (h.bare && h.min != 0))
  else !(n != 0)

theorem Hd.formed_ref (h : Hd) (n : Int) : h.formed n = (!h.bad h.used && h.shape n) := by
  obtain ⟨k, s0, s1, s2, s3, num, mn, mx, ba⟩ := h
  by_cases h1 : k = 1
  · subst h1
    rw [Bool.eq_iff_iff]
    cases ba <;> simp [Hd.formed, Hd.bad, Hd.used, Hd.shape, Hd.plain, Hd.noSet] <;> omega
  by_cases h2 : k = 2
  · subst h2
    rw [Bool.eq_iff_iff]
    cases ba <;> simp [Hd.formed, Hd.bad, Hd.used, Hd.shape, Hd.plain, Hd.noSet] <;> omega
  by_cases h3 : k = 3
  · subst h3
    rw [Bool.eq_iff_iff]
    cases ba <;> simp [Hd.formed, Hd.bad, Hd.used, Hd.shape, Hd.plain, Hd.noSet] <;> omega
  by_cases h4 : k = 4
  · subst h4
    rw [Bool.eq_iff_iff]
    cases ba <;> simp [Hd.formed, Hd.bad, Hd.used, Hd.shape, Hd.plain, Hd.noSet] <;> omega
  by_cases h5 : k = 5
  · subst h5
    rw [Bool.eq_iff_iff]
    cases ba <;> simp [Hd.formed, Hd.bad, Hd.used, Hd.shape, Hd.plain, Hd.noSet] <;> omega
  by_cases h6 : k = 6
  · subst h6
    rw [Bool.eq_iff_iff]
    cases ba <;> simp [Hd.formed, Hd.bad, Hd.used, Hd.shape, Hd.plain, Hd.noSet] <;> omega
  by_cases h7 : k = 7
  · subst h7
    rw [Bool.eq_iff_iff]
    cases ba <;> simp [Hd.formed, Hd.bad, Hd.used, Hd.shape, Hd.plain, Hd.noSet] <;> omega
  by_cases h8 : k = 8
  · subst h8
    rw [Bool.eq_iff_iff]
    cases ba <;> simp [Hd.formed, Hd.bad, Hd.used, Hd.shape, Hd.plain, Hd.noSet] <;> omega
  · have g1 : ¬ (k = 1 ∨ k = 3 ∨ k = 4) := by omega
    have g2 : ¬ (k = 5 ∨ k = 6) := by omega
    have g3 : k < 1 ∨ 8 < k := by omega
    simp only [Hd.formed, g1, g2, h2, h7, h8, if_false, Hd.bad]
    rcases g3 with g | g <;> simp [g]
end Go.Proofs.YtbiamlinoldnlaaDoor
