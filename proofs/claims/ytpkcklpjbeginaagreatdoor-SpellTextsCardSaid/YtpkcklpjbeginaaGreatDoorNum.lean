/- trawlnum.Num: the number of an error, where the program's own sentinels lie as laid. -/
import Derived.Test.YtpkcklpjbeginaaGreatDoorIs
import Derived.Test.YtpkcklpjbeginaaGreatDoorMem
import Derived.Outline
import Derived.Stop.IfaceNil
set_option linter.unusedSimpArgs false
set_option linter.unusedVariables false
namespace Go.Proofs.YtpkcklpjbeginaaGreatDoor
open Go.RowKit

/-- The error at a. -/
def errV (a : Addr) : Value := .iface 211 (.pointer (some a))

/-- The 21 sentinels lie in the first 21 variables, each its own. -/
structure Errs (w : World) (a : Nat → Addr) : Prop where
  var : ∀ g, g < 21 → w.cell? ⟨g, 0, none⟩ = some (errV (a g))
  row : ∀ g, g < 21 → ∃ ca ta, w.heap[(a g).block]? = some (.cells ca ta (0, 0))
  inj : ∀ g h, g < 21 → h < 21 → a g = a h → g = h

theorem Errs.below {w w' : World} {a : Nat → Addr} (h : Errs w a) (hb : Below w.heap.size w w') : Errs w' a :=
  ⟨fun g hg => (hb.cell (World.block_lt_of_cell? w _ (h.var g hg))).trans (h.var g hg),
   fun g hg => by
    obtain ⟨ca, ta, hr⟩ := h.row g hg
    exact ⟨ca, ta, (hb.block _ (by
      rcases Nat.lt_or_ge (a g).block w.heap.size with hlt | hge
      · exact hlt
      · rw [Array.getElem?_eq_none hge] at hr; cases hr)).trans hr⟩,
   h.inj⟩

set_option maxRecDepth 100000 in
theorem num_nil (w : World) : Calls Tryz.prog 12 #[.nilIface] w fun e w' => e = .returned (.int .i64 0) ∧ w' = w := by
  go_enter Tryz.func12, Tryz.ntmps12
  go_wp2_with fail
  go_ret
  exact ⟨rfl, rfl⟩

theorem is_errs {w : World} {a : Nat → Addr} (h : Errs w a) (g k : Nat) (hg : g < 21) (hk : k < 21) :
    Calls Tryz.prog 38 #[errV (a g), errV (a k)] w fun e w' => e = .returned (.bool (decide (g = k))) ∧ w' = w := by
  by_cases hgk : g = k
  · subst hgk
    simpa [errV] using is_same (a g) w
  · obtain ⟨ca, ta, ha⟩ := h.row g hg
    obtain ⟨cb, tb, hb⟩ := h.row k hk
    simpa [hgk, errV] using is_other (a g) (a k) ca cb ta tb w (fun e => hgk (h.inj g k hg hk e)) ha hb

/-- The variable of the sentinel with this place in the document's table. -/
def sentVar : Nat → Nat
  | 0 => 3
  | 1 => 4
  | 2 => 5
  | 3 => 6
  | 4 => 7
  | 5 => 8
  | 6 => 9
  | 7 => 10
  | 8 => 11
  | 9 => 12
  | 10 => 1
  | 11 => 2
  | 12 => 0
  | 13 => 13
  | 14 => 14
  | 15 => 15
  | 16 => 16
  | 17 => 17
  | 18 => 18
  | 19 => 19
  | 20 => 20
  | n + 21 => n + 21
theorem sv_lt {g : Nat} (h : g < 21) : sentVar g < 21 := (show ∀ g : Fin 21, sentVar g.val < 21 by decide) ⟨g, h⟩
theorem sv_inj {g k : Nat} (h : g < 21) (hk : k < 21) (e : sentVar g = sentVar k) : g = k := (show ∀ g k : Fin 21, sentVar g.val = sentVar k.val → g.val = k.val by decide) ⟨g, h⟩ ⟨k, hk⟩ e
theorem sv_dec {g k : Nat} (h : g < 21) (hk : k < 21) : decide (sentVar g = sentVar k) = decide (g = k) := by
  by_cases e : g = k
  · subst e; simp
  · rw [decide_eq_false e, decide_eq_false (fun h2 => e (sv_inj h hk h2))]
theorem sv_onto {v : Nat} (h : v < 21) : ∃ g, g < 21 ∧ sentVar g = v := by
  obtain ⟨g, hg⟩ := (show ∀ v : Fin 21, ∃ g : Fin 21, sentVar g.val = v.val by decide) ⟨v, h⟩
  exact ⟨g.val, g.isLt, hg⟩
def errRow (a : Nat → Addr) : Array Value := ((List.range 21).map fun g => errV (a (sentVar g))).toArray

set_option maxRecDepth 100000 in
set_option maxHeartbeats 2000000 in
theorem num_err (w : World) (a : Nat → Addr) (g : Nat) (hg : g < 21) (he : Errs w a) :
    Calls Tryz.prog 12 #[errV (a (sentVar g))] w fun e w' => e = .returned (.int .i64 (g + 1)) ∧ Below w.heap.size w w' := by
  have hn := fun w => run_eql_iface_nil (P := Tryz.prog) (w := w) 32 (by kernel_rfl) 211 (.pointer (some (a (sentVar g))))
  have v0 := he.var 3 (by decide)
  have v1 := he.var 4 (by decide)
  have v2 := he.var 5 (by decide)
  have v3 := he.var 6 (by decide)
  have v4 := he.var 7 (by decide)
  have v5 := he.var 8 (by decide)
  have v6 := he.var 9 (by decide)
  have v7 := he.var 10 (by decide)
  have v8 := he.var 11 (by decide)
  have v9 := he.var 12 (by decide)
  have v10 := he.var 1 (by decide)
  have v11 := he.var 2 (by decide)
  have v12 := he.var 0 (by decide)
  have v13 := he.var 13 (by decide)
  have v14 := he.var 14 (by decide)
  have v15 := he.var 15 (by decide)
  have v16 := he.var 16 (by decide)
  have v17 := he.var 17 (by decide)
  have v18 := he.var 18 (by decide)
  have v19 := he.var 19 (by decide)
  have v20 := he.var 20 (by decide)
  have HE := hide he
  clear he
  unfold errV at *
  go_enter Tryz.func12, Tryz.ntmps12
  go_wp2_with fail
  have hbelF : Below w.heap.size w (w.alloc (.cells (errRow a) 32)) := (Below.refl _ _).alloc (Nat.le_refl _) _
  have hbF := Blk.new w 32 (errRow a)
  have HE2 := hide (HE.out.below hbelF)
  go_loopw [4, 33] (fun nv kv wr => ∃ k : Nat, kv = .int .i64 k ∧ k ≤ 21 ∧ nv = .int .i64 (if g < k then (g : Int) + 1 else -1) ∧ wr = w.alloc (.cells (errRow a) 32)) (fun _ kv _ => 21 - (intOf kv).toNat)
  case atStart => exact ⟨0, rfl, by decide, by simp, rfl⟩
  case round =>
    obtain ⟨k, rfl, hk, rfl, rfl⟩ := hrel
    generalize w.alloc (.cells (errRow a) 32) = W at *
    by_cases hlt : k < 21
    · have g1 : decide ((k : Int) < 21) = true := decide_eq_true (by omega)
      have hck := hbF.cell k
      rw [show (errRow a)[k]? = some (errV (a (sentVar k))) from by simp [errRow, hlt]] at hck
      unfold errV at hck
      have HIs := hide (is_errs HE2.out (sentVar g) (sentVar k) (sv_lt hg) (sv_lt hlt))
      rw [sv_dec hg hlt] at HIs
      have HB := hide hbelF
      clear hbelF hbF
      by_cases hgk : g = k
      · subst hgk
        have e2 : (if g < g then (g : Int) + 1 else -1) = -1 := by simp
        rw [e2]
        clear e2
        have e1 : decide (g = g) = true := by simp
        rw [e1] at HIs
        clear e1
        go_wp2_with fail
        refine HIs.out.mono ?_
        rintro e w2 ⟨rfl, rfl⟩
        go_wp2_with fail
        go_roundw
        case rel => exact ⟨g + 1, by go_num, hlt, by simp, trivial⟩
        case measure => simp [intOf]; omega
      · have e1 : decide (g = k) = false := by simp [hgk]
        rw [e1] at HIs
        have e2 : (if g < k + 1 then (g : Int) + 1 else -1) = (if g < k then (g : Int) + 1 else -1) := by
          split <;> split <;> omega
        have H2 := hide e2
        clear e2 e1
        generalize (if g < k then (g : Int) + 1 else -1) = cur at *
        go_wp2_with fail
        refine HIs.out.mono ?_
        rintro e w2 ⟨rfl, rfl⟩
        go_wp2_with fail
        go_roundw
        case rel => exact ⟨k + 1, by go_num, hlt, by rw [H2.out], trivial⟩
        case measure => simp [intOf]; omega
    · have hk21 : k = 21 := by omega
      subst hk21
      have e2 : (if g < 21 then (g : Int) + 1 else -1) = g + 1 := by simp [hg]
      rw [e2]
      have HB := hide hbelF
      clear hbelF hbF
      go_wp2_with fail
      go_ret
      exact ⟨rfl, HB.out⟩
end Go.Proofs.YtpkcklpjbeginaaGreatDoor
