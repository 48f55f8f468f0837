/- posit.formed, posit.Check, trawlref17.rise, trawlref17.Form: are positions in form. -/
import Derived.Test.YtbbhobojghmkpaaDoorPo
import Derived.Test.YtbbhobojghmkpaaDoorSent
import Derived.Test.YtbbhobojghmkpaaDoorNum
import Derived.BigQuiet
import Derived.Test.YtbbhobojghmkpaaDoorInts
import Derived.Deep.DeepCutAuto
set_option linter.unusedSimpArgs false
set_option linter.unusedVariables false
namespace Go.Proofs.YtbbhobojghmkpaaDoor
open Go.RowKit

theorem EdIn.cell {ok : Nat → Prop} {w : World} {l : List Ed} {A : Option Addr} (h : EdIn ok w l A) {k : Nat} {e : Ed} (hk : l[k]? = some e) :
    ∃ b o, A = some ⟨b, o, none⟩ ∧ ok b ∧ w.cell? ⟨b, o + k * 2, none⟩ = some (.int .i64 e.1) ∧ w.cell? ⟨b, o + k * 2 + 1, none⟩ = some (.int .i64 e.2) := by
  obtain ⟨b, o, e1, hb, hc⟩ := LIn.at_ h hk
  exact ⟨b, o, e1, hb, by simpa [Addr.add_lit] using hc 0 _ rfl, by simpa [Addr.add_lit] using hc 1 _ rfl⟩

/-- The first k edges are in form, out of n positions. -/
def EdOkTo (n : Int) (l : List Ed) (k : Nat) : Prop := ∀ i e, i < k → l[i]? = some e → 0 ≤ e.1 ∧ e.1 < n ∧ 1 ≤ e.2 ∧ e.2 ≤ 15 ∧ ∀ d, 0 < i → l[i - 1]? = some d → d.1 < e.1
def EdOk (n : Int) (l : List Ed) : Prop := EdOkTo n l l.length
theorem EdOkTo.zero (n : Int) (l : List Ed) : EdOkTo n l 0 := fun i e h => by omega
theorem EdOkTo.succ {n : Int} {l : List Ed} {k : Nat} {e : Ed} (h : EdOkTo n l k) (hk : l[k]? = some e) (h0 : 0 ≤ e.1) (h1 : e.1 < n) (h2 : 1 ≤ e.2) (h3 : e.2 ≤ 15) (h4 : ∀ d, 0 < k → l[k - 1]? = some d → d.1 < e.1) : EdOkTo n l (k + 1) := fun i f hi hf => by
  by_cases hik : i = k
  · subst hik
    obtain rfl := Option.some.inj (hk.symm.trans hf)
    exact ⟨h0, h1, h2, h3, h4⟩
  · exact h i f (by omega) hf
theorem EdOk.at_ {n : Int} {l : List Ed} {k : Nat} {e : Ed} (h : EdOk n l) (hk : l[k]? = some e) : 0 ≤ e.1 ∧ e.1 < n ∧ 1 ≤ e.2 ∧ e.2 ≤ 15 ∧ ∀ d, 0 < k → l[k - 1]? = some d → d.1 < e.1 := h k e (List.getElem?_eq_some_iff.1 hk).1 hk

theorem Tryd.sizeEdge : (Tryd.prog.info? 79).map (·.size) = some 2 := by kernel_rfl

/-- What formed and rise answer. -/
def Formed (n : Int) (l : List Ed) (w : World) (e : Ending) (w' : World) : Prop := ∃ b : Bool, e = .returned (.bool b) ∧ (b = true ↔ EdOk n l) ∧ Below w.heap.size w w'

/-- An error, or none. -/
def walkErr (a : Nat → Addr) : Option Nat → Value
  | none => .nilIface
  | some g => errV (a g)

/-- Positions in form. -/
structure Po.Ok (p : Po) : Prop where
  len : p.follow.length = p.sets.length
  low : 0 ≤ p.null
  high : p.null ≤ 15
  first : EdOk p.sets.length p.first
  last : EdOk p.sets.length p.last
  follow : ∀ (i : Nat) (l : List Ed), p.follow[i]? = some l → EdOk p.sets.length l

theorem FoIn.cell {ok : Nat → Prop} {w : World} {l : List (List Ed)} {A : Option Addr} (h : FoIn ok w l A) {k : Nat} {r : List Ed} (hk : l[k]? = some r) :
    ∃ b o B c, A = some ⟨b, o, none⟩ ∧ ok b ∧ w.cell? ⟨b, o + k, none⟩ = some (.slice B r.length c) ∧ EdIn ok w r B := by
  obtain ⟨b, o, e1, hb, B, c, hc, hin⟩ := LIn.at_ h hk
  exact ⟨b, o, B, c, e1, hb, by simpa [Addr.add_lit] using hc 0 _ rfl, hin⟩

/-- Whether something holds was answered. -/
def Asked01 (ok : Prop) (w : World) (e : Ending) (w' : World) : Prop := ∃ b : Bool, e = .returned (.bool b) ∧ (b = true ↔ ok) ∧ Below w.heap.size w w'

end Go.Proofs.YtbbhobojghmkpaaDoor
