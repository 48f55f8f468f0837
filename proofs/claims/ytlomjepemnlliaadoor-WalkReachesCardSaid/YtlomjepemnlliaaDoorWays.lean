/- walk.open, trawlref18.Open: are ways open at marks; trawlref10.Scene.Marks. -/
import Derived.Test.YtlomjepemnlliaaDoorPo
import Derived.Test.YtlomjepemnlliaaDoorRef10
import Derived.Deep.DeepCutAuto
set_option linter.unusedSimpArgs false
set_option linter.unusedVariables false
namespace Go.Proofs.YtlomjepemnlliaaDoor
open Go.RowKit

theorem way_bit : ∀ (v : Fin 16) (m : Fin 4), (bits .and .i64 ((v.val : Int) / 2 ^ m.val) 1 == 1) = v.val.testBit m.val := by decide +kernel
theorem open_any (v m : Nat) (hv : v < 16) (hm : m < 4) (w : World) : Calls Tryd.prog 52 #[.int .i64 v, .int .i64 m] w fun e w' => e = .returned (.bool (v.testBit m)) ∧ w' = w := by
  have h64 : m < 64 := by omega
  have hk : (bits .and .i64 ((v : Int) / 2 ^ m) 1 == 1) = v.testBit m := way_bit ⟨v, hv⟩ ⟨m, hm⟩
  rw [← hk]
  clear hk
  go_enter Tryd.func52, Tryd.ntmps52
  go_wp2_with fail
  go_ret
  exact ⟨rfl, rfl⟩

theorem half_bit : ∀ (v : Fin 16) (m : Fin 4), ((v.val / 2 ^ m.val) % 2 == 1) = v.val.testBit m.val := by decide +kernel
theorem refOpen_any (v m : Nat) (hv : v < 16) (hm : m < 4) (w : World) : Calls Tryd.prog 85 #[.int .i64 v, .int .i64 m] w fun e w' => e = .returned (.bool (v.testBit m)) ∧ w' = w := by
  have hk : ((v / 2 ^ m) % 2 == 1) = v.testBit m := half_bit ⟨v, hv⟩ ⟨m, hm⟩
  rw [← hk]
  clear hk
  go_enter Tryd.func85, Tryd.ntmps85
  go_wp2_with fail
  go_loopw [0, 5] (fun av kv wr => ∃ k q : Nat, av = .int .i64 q ∧ kv = .int .i64 k ∧ k ≤ m ∧ q = v / 2 ^ k ∧ wr = w) (fun _ kv _ => m - (intOf kv).toNat)
  case atStart => exact ⟨0, v, rfl, rfl, by omega, by simp, rfl⟩
  case round =>
    obtain ⟨k, q, rfl, rfl, hk, hq, rfl⟩ := hrel
    have HQ := hide hq
    have hq16 : q < 16 := by have := Nat.div_le_self v (2 ^ k); omega
    clear hq
    by_cases hlt : k < m
    · have g1 : decide ((k : Int) < (m : Int)) = true := decide_eq_true (by omega)
      go_wp2_with fail
      go_roundw
      case rel => exact ⟨k + 1, q / 2, by first | rfl | simp | omega, by go_num, hlt, by rw [HQ.out, Nat.div_div_eq_div_mul]; rfl, trivial⟩
      case measure => simp [intOf]; omega
    · have g1 : decide ((k : Int) < (m : Int)) = false := decide_eq_false (by omega)
      obtain rfl : k = m := by omega
      go_wp2_with fail
      go_ret
      refine ⟨?_, rfl⟩
      rw [← HQ.out]
      have : ((q : Int) % 2 == 1) = (q % 2 == 1) := by
        rw [Bool.eq_iff_iff, beq_iff_eq, beq_iff_eq]
        omega
      exact congrArg (fun b => Ending.returned (Value.bool b)) this

theorem mark_sum : ∀ m : Fin 4, ((if m.val.testBit 0 then 1 else 0 : Int) + if m.val.testBit 1 then 2 else 0) = (m.val : Int) := by decide +kernel
set_option maxHeartbeats 1000000 in
theorem refMarks_any {x : Sc} {cf ef : Int} (hr : RefSc x cf ef) (i : Nat) (hi : i ≤ x.text.size) (w : World) :
    Calls Tryd.prog 84 #[.agg #[.string x.text, .int .i64 cf, .int .i64 ef, .bool false], .int .i64 i] w fun e w' => e = .returned (.int .i64 (x.mark i)) ∧ Below w.heap.size w w' := by
  have hm := hr.marks i hi
  have hlt : x.mark i < 4 := by rw [hm]; exact markOf_lt _ _ _ _ _ _
  have h0 := markOf_begin x.text (bits .and .i64 ef 1 == 0) (bits .and .i64 ef 2 == 0) (bits .and .i64 cf 4 != 0) i hi
  have h1 := markOf_end x.text (bits .and .i64 ef 1 == 0) (bits .and .i64 ef 2 == 0) (bits .and .i64 cf 4 != 0) i hi
  rw [← hm] at h0 h1
  have hs := mark_sum ⟨x.mark i, hlt⟩
  simp only at hs
  rw [h0, h1] at hs
  have HB := hide (fun y => Begin_ref x.text cf ef i hi hr.small y)
  have HE := hide (fun y => End_ref x.text cf ef i hi hr.small y)
  have e1 : (!(bits .and .i64 cf 4 == 0)) = (bits .and .i64 cf 4 != 0) := rfl
  rw [e1] at HB HE
  generalize beginB x.text (bits .and .i64 ef 1 == 0) (bits .and .i64 cf 4 != 0) i = b0 at *
  generalize endB x.text (bits .and .i64 ef 2 == 0) (bits .and .i64 cf 4 != 0) i = b1 at *
  rw [← hs]
  clear hs h0 h1 hm e1 hlt hr
  have hbs := Blk.new w 34 #[.string x.text, .int .i64 cf, .int .i64 ef, .bool false]
  have hbel := (Below.refl w.heap.size w).alloc (Nat.le_refl _) (.cells #[.string x.text, .int .i64 cf, .int .i64 ef, .bool false] 34)
  have HJ := hide (And.intro hbel hbs)
  clear hbel hbs
  go_enter Tryd.func84, Tryd.ntmps84
  go_wp2_with fail
  refine (HB.out _).mono ?_
  rintro e w1 ⟨rfl, hb⟩
  replace HJ := hide (And.intro (HJ.out.1.trans (hb.mono HJ.out.1.size)) (HJ.out.2.nxt hb))
  clear hb
  have cs := HJ.out.2.cell
  cases b0 <;>
    (go_wp2_with fail
     refine (HE.out _).mono ?_
     rintro e w2 ⟨rfl, hb⟩
     have HF := hide (HJ.out.1.trans (hb.mono HJ.out.1.size))
     clear hb
     cases b1 <;>
       (go_wp2_with fail
        go_ret
        exact ⟨by simp, HF.out⟩))
end Go.Proofs.YtlomjepemnlliaaDoor
