/- LaidAll: What a row's list gives, where it holds all sentinels and the table: each variable holds an error of its own.
ShapeInt: A variable of type int holds some int. -/
import Derived.Test.YtpkcklpjbeginaaGreatDoorReads
import Derived.Test.YtpkcklpjbeginaaGreatDoorNum
import Derived.Stop.LaidErr
import Derived.MakeChecks
import Derived.Test.YtpkcklpjbeginaaGreatDoorStrs
import Derived.ShapedOpen
set_option linter.unusedSimpArgs false
set_option linter.unusedVariables false
set_option linter.unnecessarySimpa false

/-! ## LaidAll -/
namespace Go.Proofs.YtpkcklpjbeginaaGreatDoor

theorem sentinelsF (pr : String × DataW Unit → Bool) {P : Program} {w : World} {ti tp te ts : TypeId} {ms : Array (String × TypeId)} {nm : String} {f : Field}
  (hi : P.underlying ti = some (.interface ms)) (hrow : ∀ u, P.typeName? 3 u = some nm → u = tp) (hp : P.underlying tp = some (.pointer te)) (he : P.underlying te = some (.struct #[f])) (hft : f.type = ts) (hfo : f.offset = 0)
  (hs : P.underlying ts = some .string) (hc : P.cellsOf te = 1) (hcs : P.cellsOf ts = 1) :
  ∀ (l : List (String × DataW Unit)) (ps : List MemPlace), DataW.LaidVars P w l ps → (∀ x ∈ l, pr x = true → ∃ text, x.2 = .iface nm (.ptr (.agg [.lit (.string text)]))) →
   (∀ x ∈ l, pr x = true → ∀ g, P.globalNamed x.1 = some g → (P.globals[g]?).map (·.type) = some ti) →
   (∀ b off, MemPlace.cell b off ∈ ps → (∃ c t, w.heap[b]? = some (.cells c t (0, 0))) ∧ ∀ u v, w.cell? ⟨b, off, none⟩ = some (.iface u v) → Value.okWide P w .any 0 u v) →
   ∃ ads : List Addr, ads.length = (l.filter pr).length ∧ (ads.map fun a => MemPlace.cell a.block a.off).Sublist ps ∧ ∀ (i : Nat) (x : String × DataW Unit) (a : Addr), (l.filter pr)[i]? = some x → ads[i]? = some a → w.var? P x.1 = some #[.iface tp (.pointer (some a))] ∧ a.spot = none
 | [], ps, _, _, _, _ => ⟨[], rfl, by simp, by simp⟩
 | (n, d) :: l, ps, h, hd, ht, hrows => by
  obtain ⟨g, t, cs, fuel, p, q, hg, htt, hv, htr, hr, rfl⟩ := h
  obtain ⟨ads, h1, h2, h3⟩ := sentinelsF pr hi hrow hp he hft hfo hs hc hcs l q hr (fun x hx => hd x (by simp [hx])) (fun x hx => ht x (by simp [hx])) (fun b off hb => hrows b off (by simp [hb]))
  by_cases hpr : pr (n, d) = true
  case neg =>
   rw [List.filter_cons_of_neg hpr]
   exact ⟨ads, h1, h2.trans (List.sublist_append_right _ _), h3⟩
  rw [List.filter_cons_of_pos hpr]
  obtain ⟨text, e⟩ := hd (n, d) (by simp) hpr
  simp only at e
  subst e
  obtain rfl := Option.some.inj ((ht _ List.mem_cons_self hpr g hg).symm.trans htt)
  obtain ⟨cl⟩ := cs
  have ok : ∀ u v, cl = [.iface u v] → Value.okWide P w .any 0 u v := fun u v e => by
   subst e
   exact (hrows g 0 (by simp [MemPlace.row])).2 u v (by simpa using World.var?_cell hg hv 0)
  obtain ⟨a, s, rfl, hca, _, _, rfl⟩ := errorString_of_trod hi hrow hp he hft hfo hs hc hcs htr ok
  refine ⟨a :: ads, by simp [h1], ?_, ?_⟩
  ·rw [List.map_cons, List.append_assoc]
   refine List.Sublist.trans ?_ (List.sublist_append_right _ _)
   simpa [MemPlace.row] using h2
  ·intro i x b hx hb
   cases i with
   | zero =>
    simp only [List.getElem?_cons_zero, Option.some.injEq] at hx hb
    subst hx; subst hb
    exact ⟨hv, World.cell?_spot hca⟩
   | succ i => exact h3 i x b (by simpa using hx) (by simpa using hb)

/-- The place in the document's table of the sentinel in a variable. -/
def dn (v : Nat) : Nat := ((List.range 21).find? fun g => sentVar g == v).getD 0
theorem dn_sv {g : Nat} (h : g < 21) : dn (sentVar g) = g := (show ∀ g : Fin 21, dn (sentVar g.val) = g.val by decide) ⟨g, h⟩
theorem errs_of_some (pr : String × DataW Unit → Bool) {l : List (String × DataW Unit)} {W : World} (h : laidMet Tryz.prog l W) (hd : ∀ x ∈ l, pr x = true → ∃ text, x.2 = .iface "*errors.errorString" (.ptr (.agg [.lit (.string text)])))
  (hrow : ∀ u, Tryz.prog.typeName? 3 u = some "*errors.errorString" → u = 211)
  (hn : (l.filter pr).map (fun x => Tryz.prog.globalNamed x.1) = (List.range 21).map fun k => some (sentVar k)) (ht : ∀ g, g < 21 → (Tryz.prog.globals[g]?).map (·.type) = some 32) : ∃ a, Errs W a := by
 obtain ⟨ps, hv, hnd, hrows⟩ := h
 have hlen : (l.filter pr).length = 21 := by have := congrArg List.length hn; simpa using this
 have hname : ∀ i x, (l.filter pr)[i]? = some x → Tryz.prog.globalNamed x.1 = some (sentVar i) ∧ i < 21 := fun i x hx => by
  have hlt := (List.getElem?_eq_some_iff.1 hx).1
  have := congrArg (fun m => m[i]?) hn
  simp only [List.getElem?_map, hx, Option.map_some] at this
  rw [List.getElem?_range (by omega)] at this
  exact ⟨by simpa using this, by omega⟩
 obtain ⟨ads, h1, h2, h3⟩ := sentinelsF pr Tryz.underlying32 hrow Tryz.underlying211 Tryz.underlying229 rfl rfl Tryz.underlying9 (by kernel_rfl) (by kernel_rfl) l ps hv hd
  (fun x hx hpr g hg => by
   obtain ⟨i, hi, e⟩ := List.getElem_of_mem (List.mem_filter.2 ⟨hx, hpr⟩)
   have := hname i x (by rw [List.getElem?_eq_getElem hi, e])
   obtain rfl := Option.some.inj (hg.symm.trans this.1)
   exact ht _ (sv_lt this.2)) hrows
 have hnd2 := h2.nodup hnd
 refine ⟨fun v => ads.getD (dn v) ⟨0, 0, none⟩, fun v h0 => ?_, fun v h0 => ?_, fun v u h0 h9 e => ?_⟩
 ·obtain ⟨g, hg, rfl⟩ := sv_onto h0
  have hgl : g < (l.filter pr).length := by omega
  have hga : g < ads.length := by omega
  have := h3 g (l.filter pr)[g] ads[g] (List.getElem?_eq_getElem hgl) (List.getElem?_eq_getElem hga)
  have hc := World.var?_cell (hname g _ (List.getElem?_eq_getElem hgl)).1 this.1 0
  rw [dn_sv hg, List.getD_eq_getElem?_getD, List.getElem?_eq_getElem hga]
  exact hc
 ·obtain ⟨g, hg, rfl⟩ := sv_onto h0
  have hga : g < ads.length := by omega
  rw [dn_sv hg, List.getD_eq_getElem?_getD, List.getElem?_eq_getElem hga]
  exact (hrows _ _ (h2.subset (List.mem_map_of_mem (List.getElem_mem hga)))).1
 ·obtain ⟨g, hg, rfl⟩ := sv_onto h0
  obtain ⟨k, hk, rfl⟩ := sv_onto h9
  have hga : g < ads.length := by omega
  have hka : k < ads.length := by omega
  rw [dn_sv hg, dn_sv hk] at e
  simp only [List.getD_eq_getElem?_getD, List.getElem?_eq_getElem hga, List.getElem?_eq_getElem hka, Option.getD_some] at e
  congr 1
  refine (List.getElem?_inj (by simpa using hga) hnd2).1 ?_
  simp [hga, hka, e]
end Go.Proofs.YtpkcklpjbeginaaGreatDoor

/-! ## ShapeInt -/
namespace Go.Proofs.YtpkcklpjbeginaaGreatDoor
open Go.RowKit

end Go.Proofs.YtpkcklpjbeginaaGreatDoor
