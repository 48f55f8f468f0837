/- bracket: the bytes of a pattern; mark. -/
import Derived.Test.YtpkcklpjbeginaaGreatDoorStrs
import Derived.Test.YtpkcklpjbeginaaGreatDoorClasses
set_option linter.unusedSimpArgs false
set_option linter.unusedVariables false
namespace Go.Proofs.YtpkcklpjbeginaaGreatDoor
open Go.RowKit

/-- The byte at a place; 256 where there is none. -/
def pb (p : ByteArray) (i : Nat) : Nat := if h : i < p.size then (p[i]'h).toNat else 256
theorem pb_at {p : ByteArray} {i : Nat} (h : i < p.size) : pb p i = (p[i]'h).toNat := by unfold pb; rw [dif_pos h]
theorem pb_lt {p : ByteArray} {i : Nat} (h : i < p.size) : pb p i < 256 := by rw [pb_at h]; exact (p[i]'h).toNat_lt
theorem pb_none {p : ByteArray} {i : Nat} (h : ¬ i < p.size) : pb p i = 256 := by unfold pb; rw [dif_neg h]
theorem pb_in {p : ByteArray} {i : Nat} (h : pb p i < 256) : i < p.size := by
 by_cases e : i < p.size
 ·exact e
 ·rw [pb_none e] at h; omega
/-- The byte behind a bracket that is one of . = : (else 0). -/
def markP (p : ByteArray) (i : Nat) : Nat := if pb p i = 91 ∧ (pb p (i + 1) = 46 ∨ pb p (i + 1) = 61 ∨ pb p (i + 1) = 58) then pb p (i + 1) else 0
theorem idx3 : ∀ x : Fin 256, Lib.indexByte [46, 61, 58] ((x.val : Int).toNat.toUInt8) = if x.val = 46 then 0 else if x.val = 61 then 1 else if x.val = 58 then 2 else -1 := by decide +kernel
set_option maxRecDepth 100000 in
set_option maxHeartbeats 4000000 in
theorem mark5_any (p : ByteArray) (i : Nat) (hi : i < p.size) (hs : p.size ≤ 9223372036854775807) (w : World) : Calls Tryz.prog 166 #[.string p, .int .i64 (i : Int)] w fun e w' => e = .returned (.int .u8 ((markP p i : Nat) : Int)) ∧ w' = w := by
 obtain ⟨m, hm⟩ : ∃ m, m = markP p i := ⟨_, rfl⟩
 rw [← hm]
 have HM := hide hm
 clear hm
 have hx := (pb_at hi).symm
 have hxl := pb_lt hi
 have hii : (0 : Int) ≤ i ∧ (i : Int) < (p.size : Int) := by omega
 have hi1 : (i : Int) + 1 ≤ 9223372036854775807 := by omega
 have hw1 : IntKind.i64.wrap ((i : Int) + 1) = (i : Int) + 1 := by simp [IntKind.wrap, IntKind.bits, IntKind.signed]; omega
 have hn1 : ((i : Int) + 1).toNat = i + 1 := by omega
 by_cases h0 : pb p i = 91
 ·have e0 : ((p[i]'hi).toNat : Int) = 91 := by rw [hx, h0]; rfl
  by_cases h1 : i + 1 < p.size
  ·have g1 : (0 : Int) ≤ (i : Int) + 1 ∧ (i : Int) + 1 < (p.size : Int) := by omega
   have h3 := idx3 ⟨pb p (i + 1), pb_lt h1⟩
   simp only [pb_at h1] at h3
   simp only [Int.toNat_natCast, UInt8.ofNat_toNat, Nat.toUInt8_eq] at h3
   by_cases h2 : (p[i + 1]'h1).toNat = 46 ∨ (p[i + 1]'h1).toNat = 61 ∨ (p[i + 1]'h1).toNat = 58
   ·obtain ⟨v, e3, e4⟩ : ∃ v : Int, Lib.indexByte [46, 61, 58] (p[i + 1]'h1) = v ∧ 0 ≤ v := by
     rw [h3]
     refine ⟨_, rfl, ?_⟩
     rcases h2 with e | e | e <;> rw [e] <;> decide
    have hmm : m = (p[i + 1]'h1).toNat := by
     rw [HM.out]; unfold markP
     rw [pb_at h1, if_pos ⟨h0, h2⟩]
    clear h3 h2
    subst hmm
    clear HM hx hxl hs hi1 h0
    go_enter Tryz.func166, Tryz.ntmps166
    go_wp2_with fail
    refine (indexByte_any _ _ w).mono ?_
    rintro e w1 ⟨rfl, hw⟩
    subst hw
    go_wp2_with fail
    go_ret
    exact ⟨rfl, rfl⟩
   ·have e3 : Lib.indexByte [46, 61, 58] (p[i + 1]'h1) = -1 := by
     rw [h3, if_neg (fun h => h2 (.inl h)), if_neg (fun h => h2 (.inr (.inl h))), if_neg (fun h => h2 (.inr (.inr h)))]
    have hmm : m = 0 := by
     rw [HM.out]; unfold markP
     rw [pb_at h1, if_neg (fun h => h2 h.2)]
    clear h3 h2
    subst hmm
    clear HM hx hxl hs hi1 h0
    go_enter Tryz.func166, Tryz.ntmps166
    go_wp2_with fail
    refine (indexByte_any _ _ w).mono ?_
    rintro e w1 ⟨rfl, hw⟩
    subst hw
    go_wp2_with fail
    go_ret
    exact ⟨rfl, rfl⟩
  ·have g1 : ¬ (i : Int) + 1 < (p.size : Int) := by omega
   have hmm : m = 0 := by
    rw [HM.out]; unfold markP
    rw [pb_none h1, if_neg (by omega)]
   subst hmm
   clear HM hx hxl hs hi1 h0
   go_enter Tryz.func166, Tryz.ntmps166
   go_wp2_with fail
   go_ret
   exact ⟨rfl, rfl⟩
 ·have e0 : ¬ ((p[i]'hi).toNat : Int) = 91 := by rw [hx]; omega
  have hmm : m = 0 := by
   rw [HM.out]; unfold markP
   rw [if_neg (fun h => h0 h.1)]
  subst hmm
  clear HM hx hxl hs hi1 h0
  go_enter Tryz.func166, Tryz.ntmps166
  go_wp2_with fail
  go_ret
  exact ⟨rfl, rfl⟩
end Go.Proofs.YtpkcklpjbeginaaGreatDoor
