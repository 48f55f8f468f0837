/- trawlref05: is, dotted, colon. -/
import Derived.Test.YtfehmfifjidjjaaGreatDoorBrack
set_option linter.unusedSimpArgs false
set_option linter.unusedVariables false
namespace Go.Proofs.YtfehmfifjidjjaaGreatDoor
open Go.RowKit

set_option maxRecDepth 100000 in
set_option maxHeartbeats 4000000 in
theorem is5_any (p : ByteArray) (i c : Nat) (hc : c < 256) (w : World) : Calls Tryz.prog 157 #[.string p, .int .i64 (i : Int), .int .u8 (c : Int)] w fun e w' => e = .returned (.bool (decide (pb p i = c))) ∧ w' = w := by
 have h0 : (i : Int) ≥ 0 := by omega
 by_cases hi : i < p.size
 ·have hii : (0 : Int) ≤ i ∧ (i : Int) < (p.size : Int) := by omega
  by_cases h : (p[i]'hi).toNat = c
  ·have e1 : decide (pb p i = c) = true := decide_eq_true (by rw [pb_at hi]; exact h)
   rw [e1]
   clear e1 hc
   subst h
   go_enter Tryz.func157, Tryz.ntmps157
   go_wp2_with fail
   go_ret
   exact ⟨rfl, rfl⟩
  ·have e1 : decide (pb p i = c) = false := decide_eq_false (by rw [pb_at hi]; exact h)
   rw [e1]
   have e2 : ¬ ((p[i]'hi).toNat : Int) = (c : Int) := by omega
   clear e1 hc
   go_enter Tryz.func157, Tryz.ntmps157
   go_wp2_with fail
   go_ret
   exact ⟨by simp [e2], rfl⟩
 ·have e1 : decide (pb p i = c) = false := decide_eq_false (by rw [pb_none hi]; omega)
  rw [e1]
  have e2 : ¬ (i : Int) < (p.size : Int) := by omega
  clear e1 hc
  go_enter Tryz.func157, Tryz.ntmps157
  go_wp2_with fail
  go_ret
  exact ⟨rfl, rfl⟩
theorem is5_neg (p : ByteArray) (z c : Int) (hz : z < 0) (w : World) : Calls Tryz.prog 157 #[.string p, .int .i64 z, .int .u8 c] w fun e w' => e = .returned (.bool false) ∧ w' = w := by
 have h0 : ¬ z ≥ 0 := by omega
 have h1 : ¬ 0 ≤ z := by omega
 go_enter Tryz.func157, Tryz.ntmps157
 go_wp2_with fail
 go_ret
 exact ⟨rfl, rfl⟩
theorem is5_lit (p : ByteArray) (i c : Nat) (z : Int) (hz : z = (c : Int)) (hc : c < 256) (b : Bool) (hb : decide (pb p i = c) = b) (w : World) : Calls Tryz.prog 157 #[.string p, .int .i64 (i : Int), .int .u8 z] w fun e w' => e = .returned (.bool b) ∧ w' = w := by
 subst hz
 subst hb
 exact is5_any p i c hc w
set_option maxRecDepth 100000 in
set_option maxHeartbeats 400000 in
theorem colon5_any (p : ByteArray) (i : Nat) (hi : i < 9223372036854775807) (w : World) : Calls Tryz.prog 176 #[.string p, .int .i64 (i : Int)] w fun e w' => e = .returned (.bool (decide (pb p i = 91) && decide (pb p (i + 1) = 58))) ∧ w' = w := by
 have hw1 : IntKind.i64.wrap ((i : Int) + 1) = ((i + 1 : Nat) : Int) := by simp [IntKind.wrap, IntKind.bits, IntKind.signed]; omega
 have A1 := hide (is5_lit p i 91 91 rfl (by decide) _ rfl)
 have A2 := hide (is5_lit p (i + 1) 58 58 rfl (by decide) _ rfl)
 generalize decide (pb p i = 91) = b1 at *
 generalize decide (pb p (i + 1) = 58) = b2 at *
 generalize i + 1 = j at *
 clear hi
 go_enter Tryz.func176, Tryz.ntmps176
 go_wp2_with fail
 refine (A1.out _).mono ?_
 rintro e w1 ⟨rfl, hw⟩
 subst hw
 cases b1 with
 | false =>
  go_wp2_with fail
  go_ret
  exact ⟨rfl, rfl⟩
 | true =>
  go_wp2_with fail
  refine (A2.out _).mono ?_
  rintro e w1 ⟨rfl, hw⟩
  subst hw
  go_wp2_with fail
  go_ret
  exact ⟨rfl, rfl⟩
set_option maxRecDepth 100000 in
set_option maxHeartbeats 400000 in
theorem dotted5_any (p : ByteArray) (i : Nat) (hi : i < 9223372036854775807) (w : World) : Calls Tryz.prog 175 #[.string p, .int .i64 (i : Int)] w fun e w' => e = .returned (.bool (decide (pb p i = 91) && (decide (pb p (i + 1) = 46) || decide (pb p (i + 1) = 61)))) ∧ w' = w := by
 have hw1 : IntKind.i64.wrap ((i : Int) + 1) = ((i + 1 : Nat) : Int) := by simp [IntKind.wrap, IntKind.bits, IntKind.signed]; omega
 have A1 := hide (is5_lit p i 91 91 rfl (by decide) _ rfl)
 have A2 := hide (is5_lit p (i + 1) 46 46 rfl (by decide) _ rfl)
 have A3 := hide (is5_lit p (i + 1) 61 61 rfl (by decide) _ rfl)
 generalize decide (pb p i = 91) = b1 at *
 generalize decide (pb p (i + 1) = 46) = b2 at *
 generalize decide (pb p (i + 1) = 61) = b3 at *
 generalize i + 1 = j at *
 clear hi
 go_enter Tryz.func175, Tryz.ntmps175
 go_wp2_with fail
 refine (A1.out _).mono ?_
 rintro e w1 ⟨rfl, hw⟩
 subst hw
 cases b1 with
 | false =>
  go_wp2_with fail
  go_ret
  exact ⟨rfl, rfl⟩
 | true =>
  go_wp2_with fail
  refine (A2.out _).mono ?_
  rintro e w1 ⟨rfl, hw⟩
  subst hw
  cases b2 with
  | true =>
   go_wp2_with fail
   go_ret
   exact ⟨rfl, rfl⟩
  | false =>
   go_wp2_with fail
   refine (A3.out _).mono ?_
   rintro e w1 ⟨rfl, hw⟩
   subst hw
   go_wp2_with fail
   go_ret
   exact ⟨rfl, rfl⟩
end Go.Proofs.YtfehmfifjidjjaaGreatDoor
