/- RefBr: trawlref05: is, dotted, colon.
RefBr2: trawlref05: closing. -/
import Derived.Test.YtpkcklpjbeginaaGreatDoorBrack
set_option linter.unusedSimpArgs false
set_option linter.unusedVariables false
set_option linter.unnecessarySimpa false

/-! ## RefBr -/
namespace Go.Proofs.YtpkcklpjbeginaaGreatDoor
open Go.RowKit

set_option maxRecDepth 100000 in
set_option maxHeartbeats 4000000 in
theorem is5_any (p : ByteArray) (i c : Nat) (hc : c < 256) (w : World) : Calls Tryz.prog 152 #[.string p, .int .i64 (i : Int), .int .u8 (c : Int)] w fun e w' => e = .returned (.bool (decide (pb p i = c))) ∧ w' = w := by
 have h0 : (i : Int) ≥ 0 := by omega
 by_cases hi : i < p.size
 ·have hii : (0 : Int) ≤ i ∧ (i : Int) < (p.size : Int) := by omega
  by_cases h : (p[i]'hi).toNat = c
  ·have e1 : decide (pb p i = c) = true := decide_eq_true (by rw [pb_at hi]; exact h)
   rw [e1]
   clear e1 hc
   subst h
   go_enter Tryz.func152, Tryz.ntmps152
   go_wp2_with fail
   go_ret
   exact ⟨rfl, rfl⟩
  ·have e1 : decide (pb p i = c) = false := decide_eq_false (by rw [pb_at hi]; exact h)
   rw [e1]
   have e2 : ¬ ((p[i]'hi).toNat : Int) = (c : Int) := by omega
   clear e1 hc
   go_enter Tryz.func152, Tryz.ntmps152
   go_wp2_with fail
   go_ret
   exact ⟨by simp [e2], rfl⟩
 ·have e1 : decide (pb p i = c) = false := decide_eq_false (by rw [pb_none hi]; omega)
  rw [e1]
  have e2 : ¬ (i : Int) < (p.size : Int) := by omega
  clear e1 hc
  go_enter Tryz.func152, Tryz.ntmps152
  go_wp2_with fail
  go_ret
  exact ⟨rfl, rfl⟩
theorem is5_neg (p : ByteArray) (z c : Int) (hz : z < 0) (w : World) : Calls Tryz.prog 152 #[.string p, .int .i64 z, .int .u8 c] w fun e w' => e = .returned (.bool false) ∧ w' = w := by
 have h0 : ¬ z ≥ 0 := by omega
 have h1 : ¬ 0 ≤ z := by omega
 go_enter Tryz.func152, Tryz.ntmps152
 go_wp2_with fail
 go_ret
 exact ⟨rfl, rfl⟩
theorem is5_lit (p : ByteArray) (i c : Nat) (z : Int) (hz : z = (c : Int)) (hc : c < 256) (b : Bool) (hb : decide (pb p i = c) = b) (w : World) : Calls Tryz.prog 152 #[.string p, .int .i64 (i : Int), .int .u8 z] w fun e w' => e = .returned (.bool b) ∧ w' = w := by
 subst hz
 subst hb
 exact is5_any p i c hc w
set_option maxRecDepth 100000 in
set_option maxHeartbeats 400000 in
theorem colon5_any (p : ByteArray) (i : Nat) (hi : i < 9223372036854775807) (w : World) : Calls Tryz.prog 171 #[.string p, .int .i64 (i : Int)] w fun e w' => e = .returned (.bool (decide (pb p i = 91) && decide (pb p (i + 1) = 58))) ∧ w' = w := by
 have hw1 : IntKind.i64.wrap ((i : Int) + 1) = ((i + 1 : Nat) : Int) := by simp [IntKind.wrap, IntKind.bits, IntKind.signed]; omega
 have A1 := hide (is5_lit p i 91 91 rfl (by decide) _ rfl)
 have A2 := hide (is5_lit p (i + 1) 58 58 rfl (by decide) _ rfl)
 generalize decide (pb p i = 91) = b1 at *
 generalize decide (pb p (i + 1) = 58) = b2 at *
 generalize i + 1 = j at *
 clear hi
 go_enter Tryz.func171, Tryz.ntmps171
 go_wp2_with fail
 refine (A1.out _).mono ?_
 rintro e w1 ⟨rfl, hw⟩
 subst hw
 cases b1 with
 | false =>
  go_wp2_with fail
  go_ret
  exact ⟨rfl, rfl⟩
 | true =>
  go_wp2_with fail
  refine (A2.out _).mono ?_
  rintro e w1 ⟨rfl, hw⟩
  subst hw
  go_wp2_with fail
  go_ret
  exact ⟨rfl, rfl⟩
set_option maxRecDepth 100000 in
set_option maxHeartbeats 400000 in
theorem dotted5_any (p : ByteArray) (i : Nat) (hi : i < 9223372036854775807) (w : World) : Calls Tryz.prog 170 #[.string p, .int .i64 (i : Int)] w fun e w' => e = .returned (.bool (decide (pb p i = 91) && (decide (pb p (i + 1) = 46) || decide (pb p (i + 1) = 61)))) ∧ w' = w := by
 have hw1 : IntKind.i64.wrap ((i : Int) + 1) = ((i + 1 : Nat) : Int) := by simp [IntKind.wrap, IntKind.bits, IntKind.signed]; omega
 have A1 := hide (is5_lit p i 91 91 rfl (by decide) _ rfl)
 have A2 := hide (is5_lit p (i + 1) 46 46 rfl (by decide) _ rfl)
 have A3 := hide (is5_lit p (i + 1) 61 61 rfl (by decide) _ rfl)
 generalize decide (pb p i = 91) = b1 at *
 generalize decide (pb p (i + 1) = 46) = b2 at *
 generalize decide (pb p (i + 1) = 61) = b3 at *
 generalize i + 1 = j at *
 clear hi
 go_enter Tryz.func170, Tryz.ntmps170
 go_wp2_with fail
 refine (A1.out _).mono ?_
 rintro e w1 ⟨rfl, hw⟩
 subst hw
 cases b1 with
 | false =>
  go_wp2_with fail
  go_ret
  exact ⟨rfl, rfl⟩
 | true =>
  go_wp2_with fail
  refine (A2.out _).mono ?_
  rintro e w1 ⟨rfl, hw⟩
  subst hw
  cases b2 with
  | true =>
   go_wp2_with fail
   go_ret
   exact ⟨rfl, rfl⟩
  | false =>
   go_wp2_with fail
   refine (A3.out _).mono ?_
   rintro e w1 ⟨rfl, hw⟩
   subst hw
   go_wp2_with fail
   go_ret
   exact ⟨rfl, rfl⟩
end Go.Proofs.YtpkcklpjbeginaaGreatDoor

/-! ## RefBr2 -/
namespace Go.Proofs.YtpkcklpjbeginaaGreatDoor
open Go.RowKit

/-- The place of the next pair of bytes that closes a name; -1: there is none. -/
def clo (p : ByteArray) (k : Nat) : Int := if Lib.index (p.data.toList.drop k) [58, 93] = -1 then -1 else k + Lib.index (p.data.toList.drop k) [58, 93]
theorem drop_pb {p : ByteArray} {i : Nat} (h : i < p.size) : p.data.toList.drop i = (p[i]'h) :: p.data.toList.drop (i + 1) := by
 have hl : i < p.data.toList.length := by simpa using h
 rw [List.drop_eq_getElem_cons hl]
 simp
 rfl
theorem clo_here {p : ByteArray} {i : Nat} (h1 : pb p i = 58) (h2 : pb p (i + 1) = 93) : clo p i = i := by
 have hi : i < p.size := pb_in (by omega)
 have hj : i + 1 < p.size := pb_in (by omega)
 rw [pb_at hi] at h1
 rw [pb_at hj] at h2
 unfold clo
 rw [drop_pb hi, drop_pb hj, show (p[i]'hi) = 58 from UInt8.toNat_inj.1 h1, show (p[i + 1]'hj) = 93 from UInt8.toNat_inj.1 h2]
 simp [Lib.index, List.isPrefixOf]
theorem clo_next {p : ByteArray} {i : Nat} (hi : i < p.size) (h : ¬ (pb p i = 58 ∧ pb p (i + 1) = 93)) : clo p i = clo p (i + 1) := by
 unfold clo
 rw [drop_pb hi]
 have hp : ([58, 93] : List UInt8).isPrefixOf ((p[i]'hi) :: p.data.toList.drop (i + 1)) = false := by
  by_cases hj : i + 1 < p.size
  ·rw [drop_pb hj]
   simp only [List.isPrefixOf, Bool.and_true]
   rw [pb_at hi, pb_at hj] at h
   by_cases e1 : (p[i]'hi) = 58
   ·by_cases e2 : (p[i + 1]'hj) = 93
    ·exact absurd ⟨by rw [e1]; rfl, by rw [e2]; rfl⟩ h
    ·rw [show ((93 : UInt8) == (p[i + 1]'hj)) = false from beq_false_of_ne (fun e => e2 e.symm), Bool.and_false]
   ·rw [show ((58 : UInt8) == (p[i]'hi)) = false from beq_false_of_ne (fun e => e1 e.symm), Bool.false_and]
  ·rw [List.drop_eq_nil_of_le (by simp; omega)]
   simp [List.isPrefixOf]
 have hu : Lib.index ((p[i]'hi) :: p.data.toList.drop (i + 1)) [58, 93] = if Lib.index (p.data.toList.drop (i + 1)) [58, 93] == -1 then -1 else Lib.index (p.data.toList.drop (i + 1)) [58, 93] + 1 := by
  rw [Lib.index, hp]
  rfl
 rw [hu]
 have hg := Lib.index_ge (p.data.toList.drop (i + 1)) [58, 93]
 generalize Lib.index (p.data.toList.drop (i + 1)) [58, 93] = n at *
 by_cases e : n = -1
 ·subst e; simp
 ·rw [show (n == -1) = false from beq_false_of_ne e]
  simp only [Bool.false_eq_true, if_false]
  rw [if_neg (by omega), if_neg e]
  omega
theorem clo_end {p : ByteArray} {i : Nat} (h : p.size ≤ i + 1) : clo p i = -1 := by
 by_cases hi : i < p.size
 ·rw [clo_next hi (fun h2 => by have := pb_in (p := p) (i := i + 1) (by omega); omega)]
  unfold clo
  rw [List.drop_eq_nil_of_le (by simp; omega)]
  simp [Lib.index]
 ·unfold clo
  rw [List.drop_eq_nil_of_le (by simp; omega)]
  simp [Lib.index]
theorem clo_in {p : ByteArray} {k : Nat} (h : 0 ≤ clo p k) : (k : Int) ≤ clo p k ∧ clo p k + 2 ≤ p.size := by
 unfold clo at h ⊢
 by_cases e : Lib.index (p.data.toList.drop k) [58, 93] = -1
 ·rw [if_pos e] at h; omega
 ·rw [if_neg e] at h ⊢
  have hg := Lib.index_ge (p.data.toList.drop k) [58, 93]
  have hr := Lib.index_room (p.data.toList.drop k) [58, 93] (by omega)
  simp at hr
  have : p.data.size = p.size := rfl
  omega
set_option maxRecDepth 100000 in
set_option maxHeartbeats 1000000 in
theorem closing_any (p : ByteArray) (k0 : Nat) (hk0 : k0 ≤ p.size) (hs : p.size < 9223372036854775807) (w : World) : Calls Tryz.prog 172 #[.string p, .int .i64 (k0 : Int)] w fun e w' => e = .returned (.int .i64 (clo p k0)) ∧ w' = w := by
 obtain ⟨r, hr⟩ : ∃ r, r = clo p k0 := ⟨_, rfl⟩
 rw [← hr]
 have HR := hide hr
 clear hr
 have HSZ := hide hs
 have HK := hide hk0
 clear hs hk0
 go_enter Tryz.func172, Tryz.ntmps172
 go_wp2_with fail
 go_loopw [1] (fun kv wr => ∃ k : Nat, kv = .int .i64 (k : Int) ∧ k ≤ p.size ∧ r = clo p k ∧ wr = w) (fun kv _ => p.size - (intOf kv).toNat)
 case atStart => exact ⟨k0, rfl, HK.out, HR.out, rfl⟩
 case round =>
  obtain ⟨k, rfl, hk, hr, rfl⟩ := hrel
  have hs := HSZ.out
  have hw1 : IntKind.i64.wrap ((k : Int) + 1) = (k : Int) + 1 := by simp [IntKind.wrap, IntKind.bits, IntKind.signed]; omega
  have hn1 : ((k : Int) + 1).toNat = k + 1 := by omega
  by_cases hlt : k + 1 < p.size
  ·have hc0 : (0 : Int) ≤ k ∧ (k : Int) < p.size := by omega
   have hc1 : (0 : Int) ≤ (k : Int) + 1 ∧ (k : Int) + 1 < p.size := by omega
   have hk1 : k < p.size := by omega
   have q1 := pb_at hk1
   have q2 := pb_at hlt
   by_cases h1 : (p[k]'hk1).toNat = 58
   ·have e1 : ((p[k]'hk1).toNat : Int) = 58 := by rw [h1]; rfl
    by_cases h2 : (p[k + 1]'hlt).toNat = 93
    ·have e2 : ((p[k + 1]'hlt).toNat : Int) = 93 := by rw [h2]; rfl
     have hrr : r = k := by rw [hr]; exact clo_here (by rw [q1, h1]) (by rw [q2, h2])
     subst hrr
     clear hr HR q1 q2 h1 h2 hs HSZ
     go_wp2_with fail
     go_ret
     exact ⟨rfl, rfl⟩
    ·have e2 : ¬ ((p[k + 1]'hlt).toNat : Int) = 93 := by omega
     have HN := hide (show r = clo p (k + 1) by rw [hr]; exact clo_next hk1 (fun h => h2 (by rw [← q2]; exact h.2)))
     clear hr q1 q2 h1 h2 hs
     go_wp2_with fail
     go_roundw
     case rel => exact ⟨k + 1, by go_num, by omega, HN.out, by first | rfl | trivial⟩
     case measure => simp [intOf]; omega
   ·have e1 : ¬ ((p[k]'hk1).toNat : Int) = 58 := by omega
    have HN := hide (show r = clo p (k + 1) by rw [hr]; exact clo_next hk1 (fun h => h1 (by rw [← q1]; exact h.1)))
    clear hr q1 q2 h1 hs
    go_wp2_with fail
    go_roundw
    case rel => exact ⟨k + 1, by go_num, by omega, HN.out, by first | rfl | trivial⟩
    case measure => simp [intOf]; omega
  ·have hc1 : ¬ (k : Int) + 1 < p.size := by omega
   have hrr : r = -1 := by rw [hr]; exact clo_end (by omega)
   subst hrr
   clear hr HR hs HSZ
   go_wp2_with fail
   go_ret
   exact ⟨rfl, rfl⟩
end Go.Proofs.YtpkcklpjbeginaaGreatDoor
