/- What a row's list of variables gives, wherever they stand on it: a sentinel is an error; the library's table lies as laid. -/
import Derived.Test.YtbiamlinoldnlaaDoorTz
import Derived.Test.YtbiamlinoldnlaaDoorSent
import Derived.Stop.LaidErr
import Derived.Lib.LaidU8
set_option linter.unusedSimpArgs false
set_option linter.unusedVariables false
namespace Go.Proofs.YtbiamlinoldnlaaDoor
open Go.RowKit

theorem sent_one {P : Program} {w : World} {ti tp te ts : TypeId} {ms : Array (String × TypeId)} {nm : String} {f : Field}
    (hi : P.underlying ti = some (.interface ms)) (hrow : ∀ u, P.typeName? 3 u = some nm → u = tp) (hp : P.underlying tp = some (.pointer te)) (he : P.underlying te = some (.struct #[f])) (hft : f.type = ts) (hfo : f.offset = 0)
    (hs : P.underlying ts = some .string) (hc : P.cellsOf te = 1) (hcs : P.cellsOf ts = 1) :
    ∀ (l : List (String × DataW Unit)) (ps : List MemPlace), DataW.LaidVars P w l ps →
      (∀ b off, MemPlace.cell b off ∈ ps → (∃ c t, w.heap[b]? = some (.cells c t (0, 0))) ∧ ∀ u v, w.cell? ⟨b, off, none⟩ = some (.iface u v) → Value.okWide P w .any 0 u v) →
      ∀ (n : String) (text : List UInt8) (g : Nat), (n, (DataW.iface nm (.ptr (.agg [.lit (.string text)])) : DataW Unit)) ∈ l → P.globalNamed n = some g → (P.globals[g]?).map (·.type) = some ti →
      ∃ ad : Addr, w.cell? ⟨g, 0, none⟩ = some (.iface tp (.pointer (some ad)))
  | [], _, _, _, _, _, _, hm, _, _ => by cases hm
  | (n', d') :: l, ps, h, hrows, n, text, g, hm, hg, ht => by
    obtain ⟨g', t, cs, fuel, p, q, hg', htt, hv, htr, hr, rfl⟩ := h
    rcases List.mem_cons.1 hm with e | e
    · cases e
      obtain rfl := Option.some.inj (hg'.symm.trans hg)
      obtain rfl := Option.some.inj (ht.symm.trans htt)
      obtain ⟨cl⟩ := cs
      have ok : ∀ u v, cl = [.iface u v] → Value.okWide P w .any 0 u v := fun u v e => by
        subst e
        exact (hrows g' 0 (by simp [MemPlace.row])).2 u v (by simpa using World.var?_cell hg hv 0)
      obtain ⟨a, s, rfl, hca, _, _, rfl⟩ := errorString_of_trod hi hrow hp he hft hfo hs hc hcs htr ok
      exact ⟨a, by simpa using World.var?_cell hg hv 0⟩
    · exact sent_one hi hrow hp he hft hfo hs hc hcs l q hr (fun b off hb => hrows b off (by simp [hb])) n text g e hg ht

theorem sent_of_met {l : List (String × DataW Unit)} {W : World} (h : laidMet Tryd.prog l W) (hrow : ∀ u, Tryd.prog.typeName? 3 u = some "*errors.errorString" → u = 178) {S : List Nat}
    (hS : ∀ g ∈ S, ∃ n text, (n, (DataW.iface "*errors.errorString" (.ptr (.agg [.lit (.string text)])) : DataW Unit)) ∈ l ∧ Tryd.prog.globalNamed n = some g ∧ (Tryd.prog.globals[g]?).map (·.type) = some 34) : ∃ a, Sent S W a := by
  obtain ⟨ps, hv, hnd, hrows⟩ := h
  have all : ∀ g, ∃ ad : Addr, g ∈ S → W.cell? ⟨g, 0, none⟩ = some (errV ad) := fun g => by
    by_cases hg : g ∈ S
    · obtain ⟨n, text, h1, h2, h3⟩ := hS g hg
      obtain ⟨ad, h4⟩ := sent_one Tryd.underlying34 hrow Tryd.underlying178 Tryd.underlying203 rfl rfl Tryd.underlying9 (by kernel_rfl) (by kernel_rfl) l ps hv hrows n text g h1 h2 h3
      exact ⟨ad, fun _ => h4⟩
    · exact ⟨⟨0, 0, none⟩, fun h => absurd h hg⟩
  exact ⟨fun g => Classical.choose (all g), fun g hg => Classical.choose_spec (all g) hg⟩

theorem deb_len : Lib.deBruijn64tab.length = 64 := by decide

theorem tab_of_met {l : List (String × DataW Unit)} {W : World} (h : laidMet Tryd.prog l W)
    (hm : ("math/bits.deBruijn64tab", (Lib.tabData .u8 (Lib.deBruijn64tab.map fun n : Nat => (n : Int)) : DataW Unit)) ∈ l) : Tab W := by
  obtain ⟨g, t, cs, fuel, p, h1, h2, h3, h4⟩ := Lib.laidMet.reads h hm
  obtain rfl : g = 21 := Option.some.inj (h1.symm.trans (show Tryd.prog.globalNamed "math/bits.deBruijn64tab" = some 21 by kernel_rfl))
  obtain rfl : t = 153 := Option.some.inj (h2.symm.trans (show (Tryd.prog.globals[21]?).map (·.type) = some 153 by kernel_rfl))
  have hc := Lib.cells_of_tab Tryd.underlying153 Tryd.underlying5 (by kernel_rfl) (by kernel_rfl) h4
  intro j hj
  have hcell := World.var?_cell h1 h3 j
  rw [hcell, ← Array.getElem?_toList, hc]
  have hl : j < Lib.deBruijn64tab.length := by rw [deb_len]; exact hj
  simp [hl]
end Go.Proofs.YtbiamlinoldnlaaDoor
