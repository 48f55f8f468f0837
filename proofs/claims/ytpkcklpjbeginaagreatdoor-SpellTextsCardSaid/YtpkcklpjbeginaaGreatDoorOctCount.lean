/- Ones: math/bits.OnesCount64: how many bits of a word are 1.
OctCount: octet.Count, octet.First; trawlref01.Count, First. (Printed by gen_octcount.py.) -/
import Derived.Test.YtpkcklpjbeginaaGreatDoorProg
import Derived.Test.YtpkcklpjbeginaaGreatDoorWords
import Derived.Test.YtpkcklpjbeginaaGreatDoorMem
import Derived.Laws.BitsAllLaws
import Derived.WalkKit
import Derived.Deep.DeepCutAuto
import Derived.Test.YtpkcklpjbeginaaGreatDoorOctFns
import Derived.Test.YtpkcklpjbeginaaGreatDoorRefSets
import Derived.Test.YtpkcklpjbeginaaGreatDoorTz
set_option linter.unusedSimpArgs false
set_option linter.unusedVariables false
set_option linter.unnecessarySimpa false

/-! ## Ones -/
namespace Go.Proofs.YtpkcklpjbeginaaGreatDoor
open Go.RowKit

def cntb (f : Nat → Bool) : Nat → Nat
 | 0 => 0
 | n + 1 => cntb f n + (f n).toNat
def mk (m : Nat) : Nat → Nat
 | 0 => 0
 | k + 1 => m + 256 * mk m k
theorem and_split (A m M : Nat) (hm : m < 256) : A &&& (m + 256 * M) = ((A % 256) &&& m) + 256 * ((A / 256) &&& M) := by
 have h1 : ((A % 256) &&& m) < 2 ^ 8 := Nat.lt_of_le_of_lt Nat.and_le_right hm
 rw [show (256 : Nat) = 2 ^ 8 from rfl]
 apply Nat.eq_of_testBit_eq
 intro j
 have e : ((A % 2 ^ 8) &&& m) + 2 ^ 8 * ((A / 2 ^ 8) &&& M) = 2 ^ 8 * ((A / 2 ^ 8) &&& M) + ((A % 2 ^ 8) &&& m) := by omega
 have e2 : m + 2 ^ 8 * M = 2 ^ 8 * M + m := by omega
 rw [e, e2, Nat.testBit_and, Nat.testBit_two_pow_mul_add _ h1, Nat.testBit_two_pow_mul_add _ hm]
 by_cases hj : j < 8
 ·have h2 : (A % 256).testBit j = (decide (j < 8) && A.testBit j) := Nat.testBit_mod_two_pow A 8 j
  simp only [hj, if_true, Nat.testBit_and, h2, decide_true, Bool.true_and]
 ·simp only [hj, if_false, Nat.testBit_and, Nat.testBit_div_two_pow]
  rw [show j - 8 + 8 = j by omega]
def S1 (k x : Nat) : Nat := ((x / 2) &&& mk 85 k) + (x &&& mk 85 k)
def S2 (k x : Nat) : Nat := ((x / 4) &&& mk 51 k) + (x &&& mk 51 k)
def S3 (k x : Nat) : Nat := ((x / 16) + x) &&& mk 15 k
theorem b1 : ∀ a : Fin 256, ∀ c : Fin 2, ((a.val / 2 + 128 * c.val) &&& 85) = ((a.val / 2) &&& 85) := by decide +kernel
theorem b2 : ∀ a : Fin 256, ∀ c : Fin 4, ((a.val / 4 + 64 * c.val) &&& 51) = ((a.val / 4) &&& 51) := by decide +kernel
theorem S1_step (k a y : Nat) (ha : a < 256) : S1 (k + 1) (a + 256 * y) = (((a / 2) &&& 85) + (a &&& 85)) + 256 * S1 k y := by
 unfold S1
 rw [mk, and_split _ _ _ (by decide), and_split _ _ _ (by decide)]
 have h1 : (a + 256 * y) / 2 % 256 = a / 2 + 128 * (y % 2) := by omega
 have h2 : (a + 256 * y) / 2 / 256 = y / 2 := by omega
 have h3 : (a + 256 * y) % 256 = a := by omega
 have h4 : (a + 256 * y) / 256 = y := by omega
 have hb := b1 ⟨a, ha⟩ ⟨y % 2, by omega⟩
 simp only at hb
 rw [h1, h2, h3, h4, hb]
 omega
theorem S2_step (k a y : Nat) (ha : a < 256) : S2 (k + 1) (a + 256 * y) = (((a / 4) &&& 51) + (a &&& 51)) + 256 * S2 k y := by
 unfold S2
 rw [mk, and_split _ _ _ (by decide), and_split _ _ _ (by decide)]
 have h1 : (a + 256 * y) / 4 % 256 = a / 4 + 64 * (y % 4) := by omega
 have h2 : (a + 256 * y) / 4 / 256 = y / 4 := by omega
 have h3 : (a + 256 * y) % 256 = a := by omega
 have h4 : (a + 256 * y) / 256 = y := by omega
 have hb := b2 ⟨a, ha⟩ ⟨y % 4, by omega⟩
 simp only at hb
 rw [h1, h2, h3, h4, hb]
 omega
theorem b3 : ∀ a : Fin 137, (a.val &&& 15) = a.val % 16 := by decide +kernel
theorem S3_step (k a y : Nat) (ha : a % 16 ≤ 4) (ha2 : a / 16 ≤ 4) (hy : y % 16 ≤ 4) : S3 (k + 1) (a + 256 * y) = (a / 16 + a % 16) + 256 * S3 k y := by
 unfold S3
 rw [mk, and_split _ _ _ (by decide)]
 have h1 : ((a + 256 * y) / 16 + (a + 256 * y)) % 256 = a / 16 + a + 16 * (y % 16) := by omega
 have h2 : ((a + 256 * y) / 16 + (a + 256 * y)) / 256 = y / 16 + y := by omega
 have hb := b3 ⟨a / 16 + a + 16 * (y % 16), by omega⟩
 simp only at hb
 rw [h1, h2, hb]
 have : (a / 16 + a + 16 * (y % 16)) % 16 = a / 16 + a % 16 := by omega
 rw [this]
def q1 (a : Nat) : Nat := ((a / 2) &&& 85) + (a &&& 85)
def q2 (a : Nat) : Nat := ((a / 4) &&& 51) + (a &&& 51)
def pop8 (a : Nat) : Nat := q2 (q1 a) / 16 + q2 (q1 a) % 16
theorem b4 : ∀ a : Fin 256, q1 a.val < 256 ∧ q2 (q1 a.val) % 16 ≤ 4 ∧ q2 (q1 a.val) / 16 ≤ 4 ∧ pop8 a.val = cntb (fun j => a.val.testBit j) 8 ∧ pop8 a.val ≤ 8 := by decide +kernel
theorem cntb_congr {f g : Nat → Bool} : ∀ n, (∀ j, j < n → f j = g j) → cntb f n = cntb g n
 | 0, _ => rfl
 | n + 1, h => by rw [cntb, cntb, cntb_congr n (fun j hj => h j (by omega)), h n (by omega)]
theorem cntb_add (f : Nat → Bool) (n : Nat) : ∀ m, cntb f (n + m) = cntb f n + cntb (fun j => f (n + j)) m
 | 0 => by simp [cntb]
 | m + 1 => by
  rw [← Nat.add_assoc, cntb, cntb, cntb_add f n m]; omega
def y3 : Nat → Nat → Nat
 | 0, _ => 0
 | k + 1, x => pop8 (x % 256) + 256 * y3 k (x / 256)
theorem stages : ∀ k x, x < 256 ^ k → S3 k (S2 k (S1 k x)) = y3 k x ∧ (S2 k (S1 k x)) % 16 ≤ 4
 | 0, x, h => by
  have : x = 0 := by simpa using h
  subst this
  decide
 | k + 1, x, h => by
  have hx : x = x % 256 + 256 * (x / 256) := by omega
  have hy : x / 256 < 256 ^ k := by rw [Nat.pow_succ] at h; omega
  have ih := stages k (x / 256) hy
  have ha : x % 256 < 256 := Nat.mod_lt _ (by decide)
  have hb := b4 ⟨x % 256, ha⟩
  simp only at hb
  have e1 : S1 (k + 1) x = q1 (x % 256) + 256 * S1 k (x / 256) := by
   conv => lhs; rw [hx]
   exact S1_step k _ _ ha
  have e2 : S2 (k + 1) (S1 (k + 1) x) = q2 (q1 (x % 256)) + 256 * S2 k (S1 k (x / 256)) := by
   rw [e1]; exact S2_step k _ _ hb.1
  rw [e2]
  refine ⟨?_, ?_⟩
  ·rw [S3_step k _ _ hb.2.1 hb.2.2.1 ih.2, ih.1]; rfl
  ·have := hb.2.1; omega
theorem dv1 (p0 p1 p2 p3 p4 p5 p6 p7 : Nat) (h0 : p0 ≤ 8) (h1 : p1 ≤ 8) (h2 : p2 ≤ 8) (h3 : p3 ≤ 8) (h4 : p4 ≤ 8) (h5 : p5 ≤ 8) (h6 : p6 ≤ 8) (h7 : p7 ≤ 8) : (p0 + 256 * (p1 + 256 * (p2 + 256 * (p3 + 256 * (p4 + 256 * (p5 + 256 * (p6 + 256 * (p7)))))))) / 256 = p1 + 256 * (p2 + 256 * (p3 + 256 * (p4 + 256 * (p5 + 256 * (p6 + 256 * (p7)))))) := by omega
theorem dv2 (p0 p1 p2 p3 p4 p5 p6 p7 : Nat) (h0 : p0 ≤ 16) (h1 : p1 ≤ 16) (h2 : p2 ≤ 16) (h3 : p3 ≤ 16) (h4 : p4 ≤ 16) (h5 : p5 ≤ 16) (h6 : p6 ≤ 16) (h7 : p7 ≤ 16) : (p0 + 256 * (p1 + 256 * (p2 + 256 * (p3 + 256 * (p4 + 256 * (p5 + 256 * (p6 + 256 * (p7)))))))) / 65536 = p2 + 256 * (p3 + 256 * (p4 + 256 * (p5 + 256 * (p6 + 256 * (p7))))) := by omega
theorem dv3 (p0 p1 p2 p3 p4 p5 p6 p7 : Nat) (h0 : p0 ≤ 64) (h1 : p1 ≤ 64) (h2 : p2 ≤ 64) (h3 : p3 ≤ 64) (h4 : p4 ≤ 64) (h5 : p5 ≤ 64) (h6 : p6 ≤ 64) (h7 : p7 ≤ 64) : (p0 + 256 * (p1 + 256 * (p2 + 256 * (p3 + 256 * (p4 + 256 * (p5 + 256 * (p6 + 256 * (p7)))))))) / 4294967296 = p4 + 256 * (p5 + 256 * (p6 + 256 * (p7))) := by omega
theorem ad1 (p0 p1 p2 p3 p4 p5 p6 p7 : Nat) : p0 + 256 * (p1 + 256 * (p2 + 256 * (p3 + 256 * (p4 + 256 * (p5 + 256 * (p6 + 256 * (p7))))))) + (p1 + 256 * (p2 + 256 * (p3 + 256 * (p4 + 256 * (p5 + 256 * (p6 + 256 * (p7))))))) = (p0 + p1) + 256 * ((p1 + p2) + 256 * ((p2 + p3) + 256 * ((p3 + p4) + 256 * ((p4 + p5) + 256 * ((p5 + p6) + 256 * ((p6 + p7) + 256 * (p7))))))) := by omega
theorem ad2 (p0 p1 p2 p3 p4 p5 p6 p7 : Nat) : p0 + 256 * (p1 + 256 * (p2 + 256 * (p3 + 256 * (p4 + 256 * (p5 + 256 * (p6 + 256 * (p7))))))) + (p2 + 256 * (p3 + 256 * (p4 + 256 * (p5 + 256 * (p6 + 256 * (p7)))))) = (p0 + p2) + 256 * ((p1 + p3) + 256 * ((p2 + p4) + 256 * ((p3 + p5) + 256 * ((p4 + p6) + 256 * ((p5 + p7) + 256 * (p6 + 256 * (p7))))))) := by omega
theorem ad3 (p0 p1 p2 p3 p4 p5 p6 p7 : Nat) : p0 + 256 * (p1 + 256 * (p2 + 256 * (p3 + 256 * (p4 + 256 * (p5 + 256 * (p6 + 256 * (p7))))))) + (p4 + 256 * (p5 + 256 * (p6 + 256 * (p7)))) = (p0 + p4) + 256 * ((p1 + p5) + 256 * ((p2 + p6) + 256 * ((p3 + p7) + 256 * (p4 + 256 * (p5 + 256 * (p6 + 256 * (p7))))))) := by omega
theorem lst8 (p0 p1 p2 p3 p4 p5 p6 p7 : Nat) (h : p0 < 128) : (p0 + 256 * (p1 + 256 * (p2 + 256 * (p3 + 256 * (p4 + 256 * (p5 + 256 * (p6 + 256 * (p7)))))))) % 128 = p0 := by omega
theorem siz8 (p0 p1 p2 p3 p4 p5 p6 p7 : Nat) (h0 : p0 ≤ 128) (h1 : p1 ≤ 128) (h2 : p2 ≤ 128) (h3 : p3 ≤ 128) (h4 : p4 ≤ 128) (h5 : p5 ≤ 128) (h6 : p6 ≤ 128) (h7 : p7 ≤ 128) : p0 + 256 * (p1 + 256 * (p2 + 256 * (p3 + 256 * (p4 + 256 * (p5 + 256 * (p6 + 256 * (p7))))))) < 18446744073709551616 := by omega
def up1 (y : Nat) : Nat := y + y / 256
def up2 (y : Nat) : Nat := y + y / 65536
def up3 (y : Nat) : Nat := y + y / 4294967296
theorem up1_eq (p0 p1 p2 p3 p4 p5 p6 p7 : Nat) (h0 : p0 ≤ 8) (h1 : p1 ≤ 8) (h2 : p2 ≤ 8) (h3 : p3 ≤ 8) (h4 : p4 ≤ 8) (h5 : p5 ≤ 8) (h6 : p6 ≤ 8) (h7 : p7 ≤ 8) : up1 (p0 + 256 * (p1 + 256 * (p2 + 256 * (p3 + 256 * (p4 + 256 * (p5 + 256 * (p6 + 256 * (p7)))))))) = (p0 + p1) + 256 * ((p1 + p2) + 256 * ((p2 + p3) + 256 * ((p3 + p4) + 256 * ((p4 + p5) + 256 * ((p5 + p6) + 256 * ((p6 + p7) + 256 * (p7))))))) := by
 unfold up1; rw [dv1 p0 p1 p2 p3 p4 p5 p6 p7 h0 h1 h2 h3 h4 h5 h6 h7, ad1]
theorem up2_eq (p0 p1 p2 p3 p4 p5 p6 p7 : Nat) (h0 : p0 ≤ 16) (h1 : p1 ≤ 16) (h2 : p2 ≤ 16) (h3 : p3 ≤ 16) (h4 : p4 ≤ 16) (h5 : p5 ≤ 16) (h6 : p6 ≤ 16) (h7 : p7 ≤ 16) : up2 (p0 + 256 * (p1 + 256 * (p2 + 256 * (p3 + 256 * (p4 + 256 * (p5 + 256 * (p6 + 256 * (p7)))))))) = (p0 + p2) + 256 * ((p1 + p3) + 256 * ((p2 + p4) + 256 * ((p3 + p5) + 256 * ((p4 + p6) + 256 * ((p5 + p7) + 256 * (p6 + 256 * (p7))))))) := by
 unfold up2; rw [dv2 p0 p1 p2 p3 p4 p5 p6 p7 h0 h1 h2 h3 h4 h5 h6 h7, ad2]
theorem up3_eq (p0 p1 p2 p3 p4 p5 p6 p7 : Nat) (h0 : p0 ≤ 64) (h1 : p1 ≤ 64) (h2 : p2 ≤ 64) (h3 : p3 ≤ 64) (h4 : p4 ≤ 64) (h5 : p5 ≤ 64) (h6 : p6 ≤ 64) (h7 : p7 ≤ 64) : up3 (p0 + 256 * (p1 + 256 * (p2 + 256 * (p3 + 256 * (p4 + 256 * (p5 + 256 * (p6 + 256 * (p7)))))))) = (p0 + p4) + 256 * ((p1 + p5) + 256 * ((p2 + p6) + 256 * ((p3 + p7) + 256 * (p4 + 256 * (p5 + 256 * (p6 + 256 * (p7))))))) := by
 unfold up3; rw [dv3 p0 p1 p2 p3 p4 p5 p6 p7 h0 h1 h2 h3 h4 h5 h6 h7, ad3]
theorem sum8 (p0 p1 p2 p3 p4 p5 p6 p7 : Nat) (h0 : p0 ≤ 8) (h1 : p1 ≤ 8) (h2 : p2 ≤ 8) (h3 : p3 ≤ 8) (h4 : p4 ≤ 8) (h5 : p5 ≤ 8) (h6 : p6 ≤ 8) (h7 : p7 ≤ 8) : up1 (p0 + 256 * (p1 + 256 * (p2 + 256 * (p3 + 256 * (p4 + 256 * (p5 + 256 * (p6 + 256 * (p7)))))))) < 18446744073709551616 ∧ up2 (up1 (p0 + 256 * (p1 + 256 * (p2 + 256 * (p3 + 256 * (p4 + 256 * (p5 + 256 * (p6 + 256 * (p7))))))))) < 18446744073709551616 ∧ up3 (up2 (up1 (p0 + 256 * (p1 + 256 * (p2 + 256 * (p3 + 256 * (p4 + 256 * (p5 + 256 * (p6 + 256 * (p7)))))))))) < 18446744073709551616 ∧ up3 (up2 (up1 (p0 + 256 * (p1 + 256 * (p2 + 256 * (p3 + 256 * (p4 + 256 * (p5 + 256 * (p6 + 256 * (p7)))))))))) % 128 = p0 + p1 + p2 + p3 + p4 + p5 + p6 + p7 := by
 rw [up1_eq p0 p1 p2 p3 p4 p5 p6 p7 h0 h1 h2 h3 h4 h5 h6 h7]
 rw [up2_eq ((p0 + p1)) ((p1 + p2)) ((p2 + p3)) ((p3 + p4)) ((p4 + p5)) ((p5 + p6)) ((p6 + p7)) (p7) (by omega) (by omega) (by omega) (by omega) (by omega) (by omega) (by omega) (by omega)]
 rw [up3_eq (((p0 + p1) + (p2 + p3))) (((p1 + p2) + (p3 + p4))) (((p2 + p3) + (p4 + p5))) (((p3 + p4) + (p5 + p6))) (((p4 + p5) + (p6 + p7))) (((p5 + p6) + p7)) ((p6 + p7)) (p7) (by omega) (by omega) (by omega) (by omega) (by omega) (by omega) (by omega) (by omega)]
 refine ⟨siz8 _ _ _ _ _ _ _ _ (by omega) (by omega) (by omega) (by omega) (by omega) (by omega) (by omega) (by omega), siz8 _ _ _ _ _ _ _ _ (by omega) (by omega) (by omega) (by omega) (by omega) (by omega) (by omega) (by omega), siz8 _ _ _ _ _ _ _ _ (by omega) (by omega) (by omega) (by omega) (by omega) (by omega) (by omega) (by omega), ?_⟩
 rw [lst8 _ _ _ _ _ _ _ _ (by omega)]
 omega
theorem fin8 (x : Nat) (h : x < 18446744073709551616) : y3 8 x < 18446744073709551616 ∧ up1 (y3 8 x) < 18446744073709551616 ∧ up2 (up1 (y3 8 x)) < 18446744073709551616 ∧ up3 (up2 (up1 (y3 8 x))) < 18446744073709551616 ∧ up3 (up2 (up1 (y3 8 x))) % 128 = cntb (fun j => x.testBit j) 64 := by
 have hp : ∀ i, pop8 (x / 256 ^ i % 256) = cntb (fun j => x.testBit (8 * i + j)) 8 ∧ pop8 (x / 256 ^ i % 256) ≤ 8 := fun i => by
  have hb := b4 ⟨x / 256 ^ i % 256, Nat.mod_lt _ (by decide)⟩
  refine ⟨hb.2.2.2.1.trans (cntb_congr 8 fun j hj => ?_), hb.2.2.2.2⟩
  show (x / 256 ^ i % 2 ^ 8).testBit j = _
  rw [Nat.testBit_mod_two_pow, decide_eq_true hj, Bool.true_and, show (256 : Nat) ^ i = 2 ^ (8 * i) by rw [Nat.pow_mul], Nat.testBit_div_two_pow]
  congr 1; omega
 have h0 := hp 0
 have h1 := hp 1
 have h2 := hp 2
 have h3 := hp 3
 have h4 := hp 4
 have h5 := hp 5
 have h6 := hp 6
 have h7 := hp 7
 simp only [Nat.pow_zero, Nat.div_one, Nat.pow_one, Nat.mul_zero, Nat.zero_add, Nat.mul_one] at h0 h1
 have ey : y3 8 x = pop8 (x % 256) + 256 * (pop8 (x / 256 % 256) + 256 * (pop8 (x / 256 ^ 2 % 256) + 256 * (pop8 (x / 256 ^ 3 % 256) + 256 * (pop8 (x / 256 ^ 4 % 256) + 256 * (pop8 (x / 256 ^ 5 % 256) + 256 * (pop8 (x / 256 ^ 6 % 256) + 256 * (pop8 (x / 256 ^ 7 % 256)))))))) := by
  simp only [y3, Nat.div_div_eq_div_mul, Nat.mul_zero, Nat.add_zero]
  try rfl
 have ec : cntb (fun j => x.testBit j) 64 = pop8 (x % 256) + pop8 (x / 256 % 256) + pop8 (x / 256 ^ 2 % 256) + pop8 (x / 256 ^ 3 % 256) + pop8 (x / 256 ^ 4 % 256) + pop8 (x / 256 ^ 5 % 256) + pop8 (x / 256 ^ 6 % 256) + pop8 (x / 256 ^ 7 % 256) := by
  rw [h0.1, h1.1, h2.1, h3.1, h4.1, h5.1, h6.1, h7.1, show 64 = 8 + (8 + (8 + (8 + (8 + (8 + (8 + 8)))))) from rfl, cntb_add, cntb_add, cntb_add, cntb_add, cntb_add, cntb_add, cntb_add]
  simp only [← Nat.add_assoc, Nat.reduceAdd, Nat.reduceMul]
 rw [ey, ec]
 exact ⟨siz8 _ _ _ _ _ _ _ _ (by omega) (by omega) (by omega) (by omega) (by omega) (by omega) (by omega) (by omega), sum8 _ _ _ _ _ _ _ _ h0.2 h1.2 h2.2 h3.2 h4.2 h5.2 h6.2 h7.2⟩

theorem mk85 : mk 85 8 = 6148914691236517205 := by decide
theorem mk51 : mk 51 8 = 3689348814741910323 := by decide
theorem mk15 : mk 15 8 = 1085102592571150095 := by decide
set_option maxRecDepth 100000 in
set_option maxHeartbeats 400000 in
theorem ones_any (x : Nat) (hx : x < 18446744073709551616) (w : World) : Calls Tryz.prog 120 #[.int .u64 (x : Int)] w fun e w' => e = .returned (.int .i64 ((cntb (fun j => x.testBit j) 64 : Nat) : Int)) ∧ w' = w := by
 have hst := (stages 8 x (by simpa using hx)).1
 have hf := fin8 x hx
 generalize cntb (fun j => x.testBit j) 64 = res at *
 have hS1 : S1 8 x = ((x / 2) &&& 6148914691236517205) + (x &&& 6148914691236517205) := by unfold S1; rw [mk85]
 have hb1 : (x / 2) &&& 6148914691236517205 ≤ 6148914691236517205 := Nat.and_le_right
 have hb2 : x &&& 6148914691236517205 ≤ 6148914691236517205 := Nat.and_le_right
 have hy1 : S1 8 x < 18446744073709551616 := by omega
 have hS2 : S2 8 (S1 8 x) = ((S1 8 x / 4) &&& 3689348814741910323) + (S1 8 x &&& 3689348814741910323) := by unfold S2; rw [mk51]
 have hb3 : (S1 8 x / 4) &&& 3689348814741910323 ≤ 3689348814741910323 := Nat.and_le_right
 have hb4 : S1 8 x &&& 3689348814741910323 ≤ 3689348814741910323 := Nat.and_le_right
 have hS3 : S3 8 (S2 8 (S1 8 x)) = (S2 8 (S1 8 x) / 16 + S2 8 (S1 8 x)) &&& 1085102592571150095 := by unfold S3; rw [mk15]
 have hA := hide (And.intro hst (And.intro hf (And.intro hS1 (And.intro hS2 hS3))))
 have e1 : (x : Int) / 2 = ((x / 2 : Nat) : Int) := by omega
 have e2 : bits .and .u64 ((x / 2 : Nat) : Int) 6148914691236517205 = (((x / 2) &&& 6148914691236517205 : Nat) : Int) := u64_and_nat (x / 2) 6148914691236517205 (by omega) (by omega)
 have e3 : bits .and .u64 (x : Int) 6148914691236517205 = ((x &&& 6148914691236517205 : Nat) : Int) := u64_and_nat x 6148914691236517205 (by omega) (by omega)
 have e4 : IntKind.u64.wrap ((((x / 2) &&& 6148914691236517205 : Nat) : Int) + ((x &&& 6148914691236517205 : Nat) : Int)) = ((S1 8 x : Nat) : Int) := by
  rw [hS1]; simp [IntKind.wrap, IntKind.bits, IntKind.signed]; omega
 generalize hz1 : S1 8 x = z1 at *
 have f1 : (z1 : Int) / 4 = ((z1 / 4 : Nat) : Int) := by omega
 have f2 : bits .and .u64 ((z1 / 4 : Nat) : Int) 3689348814741910323 = (((z1 / 4) &&& 3689348814741910323 : Nat) : Int) := u64_and_nat (z1 / 4) 3689348814741910323 (by omega) (by omega)
 have f3 : bits .and .u64 (z1 : Int) 3689348814741910323 = ((z1 &&& 3689348814741910323 : Nat) : Int) := u64_and_nat z1 3689348814741910323 (by omega) (by omega)
 have f4 : IntKind.u64.wrap ((((z1 / 4) &&& 3689348814741910323 : Nat) : Int) + ((z1 &&& 3689348814741910323 : Nat) : Int)) = ((S2 8 z1 : Nat) : Int) := by
  rw [hS2]; simp [IntKind.wrap, IntKind.bits, IntKind.signed]; omega
 have hy2 : S2 8 z1 ≤ 7378697629483820646 := by omega
 generalize hz2 : S2 8 z1 = z2 at *
 have g1 : (z2 : Int) / 16 = ((z2 / 16 : Nat) : Int) := by omega
 have g2 : IntKind.u64.wrap (((z2 / 16 : Nat) : Int) + (z2 : Int)) = ((z2 / 16 + z2 : Nat) : Int) := by
  simp [IntKind.wrap, IntKind.bits, IntKind.signed]; omega
 have g3 : bits .and .u64 ((z2 / 16 + z2 : Nat) : Int) 1085102592571150095 = ((y3 8 x : Nat) : Int) := by
  rw [show (1085102592571150095 : Int) = ((1085102592571150095 : Nat) : Int) from rfl, u64_and_nat _ _ (by omega) (by omega), ← hS3, hst]
 generalize hz3 : y3 8 x = z3 at *
 obtain ⟨k3, k4, k5, k6, k7⟩ := hf
 have l1 : (z3 : Int) / 256 = ((z3 / 256 : Nat) : Int) := by omega
 have l2 : IntKind.u64.wrap ((z3 : Int) + ((z3 / 256 : Nat) : Int)) = ((up1 z3 : Nat) : Int) := by
  unfold up1 at k4 ⊢; simp [IntKind.wrap, IntKind.bits, IntKind.signed]; omega
 generalize hz4 : up1 z3 = z4 at *
 have m1 : (z4 : Int) / 65536 = ((z4 / 65536 : Nat) : Int) := by omega
 have m2 : IntKind.u64.wrap ((z4 : Int) + ((z4 / 65536 : Nat) : Int)) = ((up2 z4 : Nat) : Int) := by
  unfold up2 at k5 ⊢; simp [IntKind.wrap, IntKind.bits, IntKind.signed]; omega
 generalize hz5 : up2 z4 = z5 at *
 have n1 : (z5 : Int) / 4294967296 = ((z5 / 4294967296 : Nat) : Int) := by omega
 have n2 : IntKind.u64.wrap ((z5 : Int) + ((z5 / 4294967296 : Nat) : Int)) = ((up3 z5 : Nat) : Int) := by
  unfold up3 at k6 ⊢; simp [IntKind.wrap, IntKind.bits, IntKind.signed]; omega
 generalize hz6 : up3 z5 = z6 at *
 have o1 : bits .and .i64 (IntKind.i64.wrap (z6 : Int)) 127 = (res : Int) := by
  rw [← k7]
  have h1 : BitVec.ofInt 64 (IntKind.i64.wrap (z6 : Int)) = BitVec.ofNat 64 z6 := by
   apply BitVec.eq_of_toNat_eq
   rw [BitVec.toNat_ofInt, BitVec.toNat_ofNat]
   simp [IntKind.wrap, IntKind.bits, IntKind.signed]
   omega
  show IntKind.i64.wrap ((BitVec.ofInt 64 (IntKind.i64.wrap (z6 : Int)) &&& BitVec.ofInt 64 127).toNat : Int) = _
  rw [h1, BitVec.toNat_and, BitVec.toNat_ofNat, show (BitVec.ofInt 64 127).toNat = 2 ^ 7 - 1 from rfl, Nat.and_two_pow_sub_one_eq_mod]
  simp [IntKind.wrap, IntKind.bits, IntKind.signed]
  omega
 have E1 := hide e1
 have E2 := hide e2
 have E3 := hide e3
 have E4 := hide e4
 have F1 := hide f1
 have F2 := hide f2
 have F3 := hide f3
 have F4 := hide f4
 have G1 := hide g1
 have G2 := hide g2
 have G3 := hide g3
 have L1 := hide l1
 have L2 := hide l2
 have M1 := hide m1
 have M2 := hide m2
 have N1 := hide n1
 have N2 := hide n2
 have O1 := hide o1
 clear e1 e2 e3 e4 f1 f2 f3 f4 g1 g2 g3 l1 l2 m1 m2 n1 n2 o1
 clear hb1 hb2 hb3 hb4 hS1 hS2 hS3 hst k3 k4 k5 k6 k7 hz1 hz2 hz3 hz4 hz5 hz6 hy1 hy2 hA hx
 go_enter Tryz.func120, Tryz.ntmps120
 go_wp2_with fail
 go_ret
 refine ⟨?_, rfl⟩
 simp
 rw [E1.out, E2.out, E3.out, E4.out, F1.out, F2.out, F3.out, F4.out, G1.out, G2.out, G3.out, L1.out, L2.out, M1.out, M2.out, N1.out, N2.out]
 have ho := O1.out
 rw [IntKind.wrap_i64] at ho
 unfold wrap64
 exact ho
end Go.Proofs.YtpkcklpjbeginaaGreatDoor

/-! ## OctCount -/
namespace Go.Proofs.YtpkcklpjbeginaaGreatDoor
open Go.RowKit

theorem cntb_le (f : Nat → Bool) : ∀ n, cntb f n ≤ n
 | 0 => Nat.le_refl _
 | n + 1 => by have := cntb_le f n; rw [cntb]; cases f n <;> simp <;> omega
theorem cnt_words (S : Nat → Bool) : cntb S 256 = cntb (fun j => (wd S 0).testBit j) 64 + cntb (fun j => (wd S 1).testBit j) 64 + cntb (fun j => (wd S 2).testBit j) 64 + cntb (fun j => (wd S 3).testBit j) 64 := by
 have h := fun k => cntb_congr (f := fun j => (wd S k).testBit j) (g := fun j => S (64 * k + j)) 64 (fun j hj => wd_bit S k j hj)
 rw [h 0, h 1, h 2, h 3, show 256 = 64 + (64 + (64 + 64)) from rfl, cntb_add, cntb_add, cntb_add]
 try simp only [Nat.mul_zero, Nat.zero_add, Nat.mul_one, ← Nat.add_assoc, Nat.reduceMul, Nat.reduceAdd]
/-- The least byte of a set. -/
def firstB (S : Nat → Bool) : Nat := ((List.range 256).find? S).getD 0
def anyB (S : Nat → Bool) : Bool := (List.range 256).any S
theorem find_least (S : Nat → Bool) (m : Nat) (hm : S m = true) (hl : ∀ j, j < m → S j = false) : ∀ n, m < n → (List.range n).find? S = some m := by
 intro n hn
 rw [List.find?_range_eq_some]
 exact ⟨hm, by simpa using hn, fun j hj => by simp [hl j hj]⟩
theorem firstB_eq {S : Nat → Bool} {m : Nat} (h : m < 256) (hm : S m = true) (hl : ∀ j, j < m → S j = false) : firstB S = m ∧ anyB S = true := by
 refine ⟨by unfold firstB; rw [find_least S m hm hl 256 h]; rfl, ?_⟩
 unfold anyB
 rw [List.any_eq_true]
 exact ⟨m, by simpa using h, hm⟩
theorem firstB_none {S : Nat → Bool} (hl : ∀ j, j < 256 → S j = false) : firstB S = 0 ∧ anyB S = false := by
 constructor
 ·unfold firstB
  rw [List.find?_eq_none.2 (fun x hx => by rw [hl x (by simpa using hx)]; simp)]
  try rfl
 ·unfold anyB
  rw [List.any_eq_false]
  exact fun x hx => by rw [hl x (by simpa using hx)]; simp
theorem ctz_bit {x : Nat} (h0 : x ≠ 0) (h : x < 2 ^ 64) : Lib.ctz 64 x < 64 ∧ x.testBit (Lib.ctz 64 x) = true ∧ ∀ j, j < Lib.ctz 64 x → x.testBit j = false := by
 unfold Lib.ctz
 rw [if_neg h0]
 obtain ⟨m, hm, hk⟩ := Lib.ctzFrom_spec 64 x (by omega) h
 generalize Lib.ctzFrom 64 x = c at *
 subst hm
 refine ⟨hk, ?_, fun j hj => ?_⟩
 ·rw [show 2 ^ c * (2 * m + 1) = 2 ^ c * (2 * m + 1) + 0 from rfl, Nat.testBit_two_pow_mul_add _ (Nat.two_pow_pos c), if_neg (Nat.lt_irrefl c), Nat.sub_self, Nat.testBit_zero]
  simp
 ·rw [show 2 ^ c * (2 * m + 1) = 2 ^ c * (2 * m + 1) + 0 from rfl, Nat.testBit_two_pow_mul_add _ (Nat.two_pow_pos c), if_pos hj]
  simp
theorem wd_zero {S : Nat → Bool} {k : Nat} (h : wd S k = 0) (j : Nat) (hj : j < 64) : S (64 * k + j) = false := by
 rw [← wd_bit S k j hj, h]; simp
theorem first_word {S : Nat → Bool} {k : Nat} (hk : k < 4) (hz : ∀ i, i < k → wd S i = 0) (hn : wd S k ≠ 0) : firstB S = 64 * k + Lib.ctz 64 (wd S k) ∧ anyB S = true := by
 obtain ⟨h1, h2, h3⟩ := ctz_bit hn (by have := wd_lt S k; simpa using this)
 refine firstB_eq (by omega) (by rw [← wd_bit S k _ h1]; exact h2) fun j hj => ?_
 by_cases e : j < 64 * k
 ·have := wd_zero (hz (j / 64) (by omega)) (j % 64) (Nat.mod_lt _ (by decide))
  rwa [show 64 * (j / 64) + j % 64 = j by omega] at this
 ·have h4 := h3 (j - 64 * k) (by omega)
  rw [wd_bit S k _ (by omega), show 64 * k + (j - 64 * k) = j by omega] at h4
  exact h4
theorem first_zero {S : Nat → Bool} (hz : ∀ i, i < 4 → wd S i = 0) : firstB S = 0 ∧ anyB S = false :=
 firstB_none fun j hj => by
  have := wd_zero (hz (j / 64) (by omega)) (j % 64) (Nat.mod_lt _ (by decide))
  rwa [show 64 * (j / 64) + j % 64 = j by omega] at this

set_option maxRecDepth 100000 in
set_option maxHeartbeats 1000000 in
theorem count5_any (S : Nat → Bool) (w : World) : Calls Tryz.prog 91 #[setV S] w fun e w' => e = .returned (.int .i64 ((cntb S 256 : Nat) : Int)) ∧ Below w.heap.size w w' := by
 rw [cnt_words]
 have HO0 := hide (fun W => ones_any (wd S 0) (wd_lt S 0) W)
 have hl0 := cntb_le (fun j => (wd S 0).testBit j) 64
 generalize cntb (fun j => (wd S 0).testBit j) 64 = c0 at *
 have HO1 := hide (fun W => ones_any (wd S 1) (wd_lt S 1) W)
 have hl1 := cntb_le (fun j => (wd S 1).testBit j) 64
 generalize cntb (fun j => (wd S 1).testBit j) 64 = c1 at *
 have HO2 := hide (fun W => ones_any (wd S 2) (wd_lt S 2) W)
 have hl2 := cntb_le (fun j => (wd S 2).testBit j) 64
 generalize cntb (fun j => (wd S 2).testBit j) 64 = c2 at *
 have HO3 := hide (fun W => ones_any (wd S 3) (wd_lt S 3) W)
 have hl3 := cntb_le (fun j => (wd S 3).testBit j) 64
 generalize cntb (fun j => (wd S 3).testBit j) 64 = c3 at *
 have w1 : IntKind.i64.wrap (c0 : Int) = (c0 : Int) := by simp [IntKind.wrap, IntKind.bits, IntKind.signed]; omega
 have w2 : IntKind.i64.wrap ((c0 : Int) + (c1 : Int)) = (c0 : Int) + (c1 : Int) := by simp [IntKind.wrap, IntKind.bits, IntKind.signed]; omega
 have w3 : IntKind.i64.wrap ((c0 : Int) + (c1 : Int) + (c2 : Int)) = (c0 : Int) + (c1 : Int) + (c2 : Int) := by simp [IntKind.wrap, IntKind.bits, IntKind.signed]; omega
 have w4 : IntKind.i64.wrap ((c0 : Int) + (c1 : Int) + (c2 : Int) + (c3 : Int)) = (c0 : Int) + (c1 : Int) + (c2 : Int) + (c3 : Int) := by simp [IntKind.wrap, IntKind.bits, IntKind.signed]; omega
 clear hl0 hl1 hl2 hl3
 unfold setV setC
 have hb := (Below.refl w.heap.size w).alloc (Nat.le_refl _) (.cells #[.int .u64 ((wd S 0 : Nat) : Int), .int .u64 ((wd S 1 : Nat) : Int), .int .u64 ((wd S 2 : Nat) : Int), .int .u64 ((wd S 3 : Nat) : Int)] 24)
 have h1 := Blk.new w 24 #[.int .u64 ((wd S 0 : Nat) : Int), .int .u64 ((wd S 1 : Nat) : Int), .int .u64 ((wd S 2 : Nat) : Int), .int .u64 ((wd S 3 : Nat) : Int)]
 have c0' : ∀ i : Nat, _ = _ := h1.cell
 have x0 : ∀ W, (Instr.index 24 (.agg #[.int .u64 ((wd S 0 : Nat) : Int), .int .u64 ((wd S 1 : Nat) : Int), .int .u64 ((wd S 2 : Nat) : Int), .int .u64 ((wd S 3 : Nat) : Int)]) (.int .i64 0)).run Tryz.prog W = .ok (.int .u64 ((wd S 0 : Nat) : Int)) W := fun W => by kernel_rfl
 have x1 : ∀ W, (Instr.index 24 (.agg #[.int .u64 ((wd S 0 : Nat) : Int), .int .u64 ((wd S 1 : Nat) : Int), .int .u64 ((wd S 2 : Nat) : Int), .int .u64 ((wd S 3 : Nat) : Int)]) (.int .i64 1)).run Tryz.prog W = .ok (.int .u64 ((wd S 1 : Nat) : Int)) W := fun W => by kernel_rfl
 have x2 : ∀ W, (Instr.index 24 (.agg #[.int .u64 ((wd S 0 : Nat) : Int), .int .u64 ((wd S 1 : Nat) : Int), .int .u64 ((wd S 2 : Nat) : Int), .int .u64 ((wd S 3 : Nat) : Int)]) (.int .i64 2)).run Tryz.prog W = .ok (.int .u64 ((wd S 2 : Nat) : Int)) W := fun W => by kernel_rfl
 have x3 : ∀ W, (Instr.index 24 (.agg #[.int .u64 ((wd S 0 : Nat) : Int), .int .u64 ((wd S 1 : Nat) : Int), .int .u64 ((wd S 2 : Nat) : Int), .int .u64 ((wd S 3 : Nat) : Int)]) (.int .i64 3)).run Tryz.prog W = .ok (.int .u64 ((wd S 3 : Nat) : Int)) W := fun W => by kernel_rfl
 have HB := hide hb
 clear hb h1
 go_enter Tryz.func91, Tryz.ntmps91
 go_wp2_with fail
 generalize (w.alloc (.cells #[.int .u64 ((wd S 0 : Nat) : Int), .int .u64 ((wd S 1 : Nat) : Int), .int .u64 ((wd S 2 : Nat) : Int), .int .u64 ((wd S 3 : Nat) : Int)] 24)) = W at *
 refine wp_loop_rounds 5 ?_
 rw [rounds_succ]
 go_wp2_with fail
 refine (HO0.out _).mono ?_
 rintro e W0 ⟨rfl, hw⟩
 subst hw
 go_wp2_with fail
 rw [rounds_succ]
 go_wp2_with fail
 refine (HO1.out _).mono ?_
 rintro e W1 ⟨rfl, hw⟩
 subst hw
 go_wp2_with fail
 rw [rounds_succ]
 go_wp2_with fail
 refine (HO2.out _).mono ?_
 rintro e W2 ⟨rfl, hw⟩
 subst hw
 go_wp2_with fail
 rw [rounds_succ]
 go_wp2_with fail
 refine (HO3.out _).mono ?_
 rintro e W3 ⟨rfl, hw⟩
 subst hw
 go_wp2_with fail
 rw [rounds_succ]
 go_wp2_with fail
 go_ret
 exact ⟨by simp, HB.out⟩

set_option maxRecDepth 100000 in
set_option maxHeartbeats 1000000 in
theorem first5_any (S : Nat → Bool) (w : World) (hT : Tab w) : Calls Tryz.prog 92 #[setV S] w fun e w' => e = .returned (.tuple #[.int .u8 ((firstB S : Nat) : Int), .bool (anyB S)]) ∧ Below w.heap.size w w' := by
 have hb := (Below.refl w.heap.size w).alloc (Nat.le_refl _) (.cells #[.int .u64 ((wd S 0 : Nat) : Int), .int .u64 ((wd S 1 : Nat) : Int), .int .u64 ((wd S 2 : Nat) : Int), .int .u64 ((wd S 3 : Nat) : Int)] 24)
 have HF := hide (fun (k : Nat) (h1 : k < 4) (h2 : ∀ i, i < k → wd S i = 0) (h3 : wd S k ≠ 0) => first_word h1 h2 h3)
 have HZ := hide (fun (h : ∀ i, i < 4 → wd S i = 0) => first_zero h)
 have HTB := hide (hT.below hb)
 have h1 := Blk.new w 24 #[.int .u64 ((wd S 0 : Nat) : Int), .int .u64 ((wd S 1 : Nat) : Int), .int .u64 ((wd S 2 : Nat) : Int), .int .u64 ((wd S 3 : Nat) : Int)]
 have c0' : ∀ i : Nat, _ = _ := h1.cell
 have x0 : ∀ W, (Instr.index 24 (.agg #[.int .u64 ((wd S 0 : Nat) : Int), .int .u64 ((wd S 1 : Nat) : Int), .int .u64 ((wd S 2 : Nat) : Int), .int .u64 ((wd S 3 : Nat) : Int)]) (.int .i64 0)).run Tryz.prog W = .ok (.int .u64 ((wd S 0 : Nat) : Int)) W := fun W => by kernel_rfl
 have HC0 := hide (fun (h : wd S 0 ≠ 0) (W : World) (hw : Tab W) => tz_any (wd S 0) h (wd_lt S 0) W hw)
 have hcz0 := fun (h : wd S 0 ≠ 0) => (ctz_bit h (by have := wd_lt S 0; simpa using this)).1
 have x1 : ∀ W, (Instr.index 24 (.agg #[.int .u64 ((wd S 0 : Nat) : Int), .int .u64 ((wd S 1 : Nat) : Int), .int .u64 ((wd S 2 : Nat) : Int), .int .u64 ((wd S 3 : Nat) : Int)]) (.int .i64 1)).run Tryz.prog W = .ok (.int .u64 ((wd S 1 : Nat) : Int)) W := fun W => by kernel_rfl
 have HC1 := hide (fun (h : wd S 1 ≠ 0) (W : World) (hw : Tab W) => tz_any (wd S 1) h (wd_lt S 1) W hw)
 have hcz1 := fun (h : wd S 1 ≠ 0) => (ctz_bit h (by have := wd_lt S 1; simpa using this)).1
 have x2 : ∀ W, (Instr.index 24 (.agg #[.int .u64 ((wd S 0 : Nat) : Int), .int .u64 ((wd S 1 : Nat) : Int), .int .u64 ((wd S 2 : Nat) : Int), .int .u64 ((wd S 3 : Nat) : Int)]) (.int .i64 2)).run Tryz.prog W = .ok (.int .u64 ((wd S 2 : Nat) : Int)) W := fun W => by kernel_rfl
 have HC2 := hide (fun (h : wd S 2 ≠ 0) (W : World) (hw : Tab W) => tz_any (wd S 2) h (wd_lt S 2) W hw)
 have hcz2 := fun (h : wd S 2 ≠ 0) => (ctz_bit h (by have := wd_lt S 2; simpa using this)).1
 have x3 : ∀ W, (Instr.index 24 (.agg #[.int .u64 ((wd S 0 : Nat) : Int), .int .u64 ((wd S 1 : Nat) : Int), .int .u64 ((wd S 2 : Nat) : Int), .int .u64 ((wd S 3 : Nat) : Int)]) (.int .i64 3)).run Tryz.prog W = .ok (.int .u64 ((wd S 3 : Nat) : Int)) W := fun W => by kernel_rfl
 have HC3 := hide (fun (h : wd S 3 ≠ 0) (W : World) (hw : Tab W) => tz_any (wd S 3) h (wd_lt S 3) W hw)
 have hcz3 := fun (h : wd S 3 ≠ 0) => (ctz_bit h (by have := wd_lt S 3; simpa using this)).1
 unfold setV setC
 have HB := hide hb
 clear hb h1 hT
 generalize hx0 : wd S 0 = y0 at *
 generalize hx1 : wd S 1 = y1 at *
 generalize hx2 : wd S 2 = y2 at *
 generalize hx3 : wd S 3 = y3 at *
 have HX := hide (And.intro hx0 (And.intro hx1 (And.intro hx2 hx3)))
 clear hx0 hx1 hx2 hx3
 go_enter Tryz.func92, Tryz.ntmps92
 go_wp2_with fail
 generalize (w.alloc (.cells #[.int .u64 ((y0 : Nat) : Int), .int .u64 ((y1 : Nat) : Int), .int .u64 ((y2 : Nat) : Int), .int .u64 ((y3 : Nat) : Int)] 24)) = W at *
 refine wp_loop_rounds 5 ?_
 by_cases q0 : y0 = 0
 case neg =>
  have HQ0 := hide q0
  obtain ⟨e1, e2⟩ := HF.out 0 (by decide) (fun i hi => absurd hi (Nat.not_lt_zero i)) (by rw [HX.out.1]; exact q0)
  rw [HX.out.1] at e1
  have hc := hcz0 q0
  have hq : ((y0 : Int) == 0) = false := by rw [beq_eq_false_iff_ne]; omega
  have hqd : decide ((y0 : Int) = 0) = false := decide_eq_false (by omega)
  have hcc := HC0.out q0 W HTB.out
  clear q0
  generalize Lib.ctz 64 y0 = cz at *
  have hw0 : IntKind.i64.wrap (0 + (cz : Int)) = 0 + (cz : Int) := by simp [IntKind.wrap, IntKind.bits, IntKind.signed]; omega
  have hw8 : IntKind.u8.wrap (0 + (cz : Int)) = 0 + (cz : Int) := by simp [IntKind.wrap, IntKind.bits, IntKind.signed]; omega
  have hw9 : IntKind.i64.wrap (cz : Int) = (cz : Int) := by simp [IntKind.wrap, IntKind.bits, IntKind.signed]; omega
  have hw7 : IntKind.u8.wrap (cz : Int) = (cz : Int) := by simp [IntKind.wrap, IntKind.bits, IntKind.signed]; omega
  have HE := hide (And.intro e1 e2)
  clear e1 e2 HF HZ HC0 HC1 HC2 HC3 hcz0 hcz1 hcz2 hcz3
  rw [rounds_succ]
  go_wp2_with fail
  refine hcc.mono ?_
  rintro e w2 ⟨rfl, hw⟩
  subst hw
  go_wp2_with fail
  refine bodyPost_ret (v := .tuple #[.int .u8 (0 + (cz : Int)), .bool true]) (by simp [results, Tryz.results92, go_sem]) rfl ?_
  exact ⟨by rw [HE.out.1, HE.out.2]; simp, HB.out⟩
 have hq0 : ((y0 : Int) == 0) = true := by rw [q0]; rfl
 have hqd0 : decide ((y0 : Int) = 0) = true := decide_eq_true (by omega)
 have HQ0 := hide q0
 clear q0
 rw [rounds_succ]
 go_wp2_with fail
 by_cases q1 : y1 = 0
 case neg =>
  have HQ1 := hide q1
  obtain ⟨e1, e2⟩ := HF.out 1 (by decide) (fun i hi => by (obtain rfl : i = 0 := by omega) <;> (first | exact HX.out.1.trans HQ0.out)) (by rw [HX.out.2.1]; exact q1)
  rw [HX.out.2.1] at e1
  have hc := hcz1 q1
  have hq : ((y1 : Int) == 0) = false := by rw [beq_eq_false_iff_ne]; omega
  have hqd : decide ((y1 : Int) = 0) = false := decide_eq_false (by omega)
  have hcc := HC1.out q1 W HTB.out
  clear q1
  generalize Lib.ctz 64 y1 = cz at *
  have hw0 : IntKind.i64.wrap (64 + (cz : Int)) = 64 + (cz : Int) := by simp [IntKind.wrap, IntKind.bits, IntKind.signed]; omega
  have hw8 : IntKind.u8.wrap (64 + (cz : Int)) = 64 + (cz : Int) := by simp [IntKind.wrap, IntKind.bits, IntKind.signed]; omega
  have hw9 : IntKind.i64.wrap (cz : Int) = (cz : Int) := by simp [IntKind.wrap, IntKind.bits, IntKind.signed]; omega
  have hw7 : IntKind.u8.wrap (cz : Int) = (cz : Int) := by simp [IntKind.wrap, IntKind.bits, IntKind.signed]; omega
  have HE := hide (And.intro e1 e2)
  clear e1 e2 HF HZ HC0 HC1 HC2 HC3 hcz0 hcz1 hcz2 hcz3
  rw [rounds_succ]
  go_wp2_with fail
  refine hcc.mono ?_
  rintro e w2 ⟨rfl, hw⟩
  subst hw
  go_wp2_with fail
  refine bodyPost_ret (v := .tuple #[.int .u8 (64 + (cz : Int)), .bool true]) (by simp [results, Tryz.results92, go_sem]) rfl ?_
  exact ⟨by rw [HE.out.1, HE.out.2]; simp, HB.out⟩
 have hq1 : ((y1 : Int) == 0) = true := by rw [q1]; rfl
 have hqd1 : decide ((y1 : Int) = 0) = true := decide_eq_true (by omega)
 have HQ1 := hide q1
 clear q1
 rw [rounds_succ]
 go_wp2_with fail
 by_cases q2 : y2 = 0
 case neg =>
  have HQ2 := hide q2
  obtain ⟨e1, e2⟩ := HF.out 2 (by decide) (fun i hi => by rcases (show i = 0 ∨ i = 1 by omega) with rfl | rfl <;> (first | exact HX.out.1.trans HQ0.out | exact HX.out.2.1.trans HQ1.out)) (by rw [HX.out.2.2.1]; exact q2)
  rw [HX.out.2.2.1] at e1
  have hc := hcz2 q2
  have hq : ((y2 : Int) == 0) = false := by rw [beq_eq_false_iff_ne]; omega
  have hqd : decide ((y2 : Int) = 0) = false := decide_eq_false (by omega)
  have hcc := HC2.out q2 W HTB.out
  clear q2
  generalize Lib.ctz 64 y2 = cz at *
  have hw0 : IntKind.i64.wrap (128 + (cz : Int)) = 128 + (cz : Int) := by simp [IntKind.wrap, IntKind.bits, IntKind.signed]; omega
  have hw8 : IntKind.u8.wrap (128 + (cz : Int)) = 128 + (cz : Int) := by simp [IntKind.wrap, IntKind.bits, IntKind.signed]; omega
  have hw9 : IntKind.i64.wrap (cz : Int) = (cz : Int) := by simp [IntKind.wrap, IntKind.bits, IntKind.signed]; omega
  have hw7 : IntKind.u8.wrap (cz : Int) = (cz : Int) := by simp [IntKind.wrap, IntKind.bits, IntKind.signed]; omega
  have HE := hide (And.intro e1 e2)
  clear e1 e2 HF HZ HC0 HC1 HC2 HC3 hcz0 hcz1 hcz2 hcz3
  rw [rounds_succ]
  go_wp2_with fail
  refine hcc.mono ?_
  rintro e w2 ⟨rfl, hw⟩
  subst hw
  go_wp2_with fail
  refine bodyPost_ret (v := .tuple #[.int .u8 (128 + (cz : Int)), .bool true]) (by simp [results, Tryz.results92, go_sem]) rfl ?_
  exact ⟨by rw [HE.out.1, HE.out.2]; simp, HB.out⟩
 have hq2 : ((y2 : Int) == 0) = true := by rw [q2]; rfl
 have hqd2 : decide ((y2 : Int) = 0) = true := decide_eq_true (by omega)
 have HQ2 := hide q2
 clear q2
 rw [rounds_succ]
 go_wp2_with fail
 by_cases q3 : y3 = 0
 case neg =>
  have HQ3 := hide q3
  obtain ⟨e1, e2⟩ := HF.out 3 (by decide) (fun i hi => by rcases (show i = 0 ∨ i = 1 ∨ i = 2 by omega) with rfl | rfl | rfl <;> (first | exact HX.out.1.trans HQ0.out | exact HX.out.2.1.trans HQ1.out | exact HX.out.2.2.1.trans HQ2.out)) (by rw [HX.out.2.2.2]; exact q3)
  rw [HX.out.2.2.2] at e1
  have hc := hcz3 q3
  have hq : ((y3 : Int) == 0) = false := by rw [beq_eq_false_iff_ne]; omega
  have hqd : decide ((y3 : Int) = 0) = false := decide_eq_false (by omega)
  have hcc := HC3.out q3 W HTB.out
  clear q3
  generalize Lib.ctz 64 y3 = cz at *
  have hw0 : IntKind.i64.wrap (192 + (cz : Int)) = 192 + (cz : Int) := by simp [IntKind.wrap, IntKind.bits, IntKind.signed]; omega
  have hw8 : IntKind.u8.wrap (192 + (cz : Int)) = 192 + (cz : Int) := by simp [IntKind.wrap, IntKind.bits, IntKind.signed]; omega
  have hw9 : IntKind.i64.wrap (cz : Int) = (cz : Int) := by simp [IntKind.wrap, IntKind.bits, IntKind.signed]; omega
  have hw7 : IntKind.u8.wrap (cz : Int) = (cz : Int) := by simp [IntKind.wrap, IntKind.bits, IntKind.signed]; omega
  have HE := hide (And.intro e1 e2)
  clear e1 e2 HF HZ HC0 HC1 HC2 HC3 hcz0 hcz1 hcz2 hcz3
  rw [rounds_succ]
  go_wp2_with fail
  refine hcc.mono ?_
  rintro e w2 ⟨rfl, hw⟩
  subst hw
  go_wp2_with fail
  refine bodyPost_ret (v := .tuple #[.int .u8 (192 + (cz : Int)), .bool true]) (by simp [results, Tryz.results92, go_sem]) rfl ?_
  exact ⟨by rw [HE.out.1, HE.out.2]; simp, HB.out⟩
 have hq3 : ((y3 : Int) == 0) = true := by rw [q3]; rfl
 have hqd3 : decide ((y3 : Int) = 0) = true := decide_eq_true (by omega)
 have HQ3 := hide q3
 clear q3
 rw [rounds_succ]
 go_wp2_with fail
 obtain ⟨e1, e2⟩ := HZ.out (fun i hi => by
  rcases (show i = 0 ∨ i = 1 ∨ i = 2 ∨ i = 3 by omega) with rfl | rfl | rfl | rfl
  ·exact HX.out.1.trans HQ0.out
  ·exact HX.out.2.1.trans HQ1.out
  ·exact HX.out.2.2.1.trans HQ2.out
  ·exact HX.out.2.2.2.trans HQ3.out)
 have HE := hide (And.intro e1 e2)
 clear e1 e2 HF HZ HC0 HC1 HC2 HC3 hcz0 hcz1 hcz2 hcz3
 rw [rounds_succ]
 go_wp2_with fail
 refine bodyPost_ret (v := .tuple #[.int .u8 0, .bool false]) (by simp [results, Tryz.results92, go_sem]) rfl ?_
 exact ⟨by rw [HE.out.1, HE.out.2]; simp, HB.out⟩

set_option maxRecDepth 100000 in
set_option maxHeartbeats 1000000 in
theorem refCount_any (S : Nat → Bool) (w : World) : Calls Tryz.prog 99 #[setV S] w fun e w' => e = .returned (.int .i64 ((cntb S 256 : Nat) : Int)) ∧ Below w.heap.size w w' := by
 obtain ⟨res, hres⟩ : ∃ r : Int, r = ((cntb S 256 : Nat) : Int) := ⟨_, rfl⟩
 rw [← hres]
 have HRES := hide hres
 clear hres
 have hb := (Below.refl w.heap.size w).alloc (Nat.le_refl _) (.cells (setC S).toArray 24)
 have h1 := Blk.new w 24 (setC S).toArray
 have H0 := hide (And.intro h1 hb)
 clear hb h1
 unfold setV
 go_enter Tryz.func99, Tryz.ntmps99
 go_upto_region 1 with fail
 generalize (w.alloc (.cells (setC S).toArray 24)) = W at *
 have c0 : ∀ i : Nat, _ = _ := H0.out.1.cell
 simp only [setC] at c0
 have HB := hide (bits_any S W)
 unfold setV setC at HB
 go_wp2_with fail
 refine HB.out.mono ?_
 rintro e w1 ⟨rfl, hb1⟩
 have hal := (Below.refl w1.heap.size w1).alloc (Nat.le_refl _) (.cells (boolsC fun _ => false).toArray 132)
 have hzb := Blk.new w1 132 (boolsC fun _ => false).toArray
 have hw1 := hb1.size
 have H1 := hide (H0.out.2.trans (hb1.mono H0.out.2.size))
 clear hb1 HB c0 H0
 go_wp2_with (first | refine wpList_alloc_bools rfl rfl ?_ | refine wpList_store_bools rfl _ _ rfl w1.heap.size _ S rfl rfl hzb (by simp [boolsC_len]) ?_)
 intro w2 hrow hg9 hz9
 have hbE : Below w1.heap.size w1 w2 := below_grew hal hg9 (Nat.le_refl _) (fun q hq => by rw [← Option.some.inj hq]; exact Nat.le_refl _)
 have H2 := hide (And.intro hrow (H1.out.trans (hbE.mono H1.out.size)))
 have hgl := hrow.lt
 clear hrow hg9 hz9 hal hzb hbE H1
 generalize hgb : w1.heap.size = gb at *
 clear hgb w1
 go_wp2_with fail
 go_loopw [4, 5] (fun nv kv wr => ∃ k : Nat, kv = .int .i64 (k : Int) ∧ k ≤ 256 ∧ nv = .int .i64 ((cntb S k : Nat) : Int) ∧ wr = w2) (fun _ kv _ => 256 - (intOf kv).toNat)
 case atStart => exact ⟨0, rfl, by omega, rfl, rfl⟩
 case round =>
  obtain ⟨k, rfl, hk, rfl, rfl⟩ := hrel
  have hcl := cntb_le S k
  by_cases hlt : k < 256
  case neg =>
   have g1 : decide ((k : Int) < 256) = false := decide_eq_false (by omega)
   obtain rfl : k = 256 := by omega
   rw [← HRES.out]
   go_wp2_with fail
   go_ret
   exact ⟨rfl, H2.out.2⟩
  case pos =>
   have g1 : decide ((k : Int) < 256) = true := decide_eq_true (by omega)
   have cb := H2.out.1.bit k hlt
   have hcs : cntb S (k + 1) = cntb S k + (S k).toNat := rfl
   have HS := hide hcs
   clear hcs
   have hw1 : IntKind.i64.wrap (((cntb S k : Nat) : Int) + 1) = ((cntb S k : Nat) : Int) + 1 := by simp [IntKind.wrap, IntKind.bits, IntKind.signed]; omega
   generalize cntb S k = cv at *
   cases hS : S k with
   | true =>
    rw [hS] at cb HS
    go_wp2_with fail
    go_roundw
    case rel => exact ⟨k + 1, by go_num, hlt, by rw [HS.out]; simp, trivial⟩
    case measure => simp [intOf]; omega
   | false =>
    rw [hS] at cb HS
    go_wp2_with fail
    go_roundw
    case rel => exact ⟨k + 1, by go_num, hlt, by rw [HS.out]; simp, trivial⟩
    case measure => simp [intOf]; omega

set_option maxRecDepth 100000 in
set_option maxHeartbeats 1000000 in
theorem refFirst_any (S : Nat → Bool) (w : World) : Calls Tryz.prog 101 #[setV S] w fun e w' => e = .returned (.int .i64 (if anyB S = true then ((firstB S : Nat) : Int) else -1)) ∧ Below w.heap.size w w' := by
 obtain ⟨res, hres⟩ : ∃ r : Int, r = (if anyB S = true then ((firstB S : Nat) : Int) else -1) := ⟨_, rfl⟩
 rw [← hres]
 have HRES := hide hres
 clear hres
 have hb := (Below.refl w.heap.size w).alloc (Nat.le_refl _) (.cells (setC S).toArray 24)
 have h1 := Blk.new w 24 (setC S).toArray
 have H0 := hide (And.intro h1 hb)
 clear hb h1
 unfold setV
 go_enter Tryz.func101, Tryz.ntmps101
 go_upto_region 1 with fail
 generalize (w.alloc (.cells (setC S).toArray 24)) = W at *
 have c0 : ∀ i : Nat, _ = _ := H0.out.1.cell
 simp only [setC] at c0
 have HB := hide (bits_any S W)
 unfold setV setC at HB
 go_wp2_with fail
 refine HB.out.mono ?_
 rintro e w1 ⟨rfl, hb1⟩
 have hal := (Below.refl w1.heap.size w1).alloc (Nat.le_refl _) (.cells (boolsC fun _ => false).toArray 132)
 have hzb := Blk.new w1 132 (boolsC fun _ => false).toArray
 have hw1 := hb1.size
 have H1 := hide (H0.out.2.trans (hb1.mono H0.out.2.size))
 clear hb1 HB c0 H0
 go_wp2_with (first | refine wpList_alloc_bools rfl rfl ?_ | refine wpList_store_bools rfl _ _ rfl w1.heap.size _ S rfl rfl hzb (by simp [boolsC_len]) ?_)
 intro w2 hrow hg9 hz9
 have hbE : Below w1.heap.size w1 w2 := below_grew hal hg9 (Nat.le_refl _) (fun q hq => by rw [← Option.some.inj hq]; exact Nat.le_refl _)
 have H2 := hide (And.intro hrow (H1.out.trans (hbE.mono H1.out.size)))
 have hgl := hrow.lt
 clear hrow hg9 hz9 hal hzb hbE H1
 generalize hgb : w1.heap.size = gb at *
 clear hgb w1
 go_wp2_with fail
 go_loopw [4] (fun kv wr => ∃ k : Nat, kv = .int .i64 (k : Int) ∧ k ≤ 256 ∧ (∀ j, j < k → S j = false) ∧ wr = w2) (fun kv _ => 256 - (intOf kv).toNat)
 case atStart => exact ⟨0, rfl, by omega, fun j hj => absurd hj (Nat.not_lt_zero j), rfl⟩
 case round =>
  obtain ⟨k, rfl, hk, hno, rfl⟩ := hrel
  have HN := hide hno
  clear hno
  by_cases hlt : k < 256
  case neg =>
   have g1 : decide ((k : Int) < 256) = false := decide_eq_false (by omega)
   obtain rfl : k = 256 := by omega
   have hr : res = -1 := by rw [HRES.out, (firstB_none HN.out).2]; rfl
   subst hr
   go_wp2_with fail
   go_ret
   exact ⟨rfl, H2.out.2⟩
  case pos =>
   have g1 : decide ((k : Int) < 256) = true := decide_eq_true (by omega)
   have cb := H2.out.1.bit k hlt
   cases hS : S k with
   | true =>
    rw [hS] at cb
    have hr : res = (k : Int) := by rw [HRES.out, (firstB_eq hlt hS HN.out).2, (firstB_eq hlt hS HN.out).1, if_pos rfl]
    clear hS HRES
    subst hr
    go_wp2_with fail
    go_ret
    exact ⟨rfl, H2.out.2⟩
   | false =>
    rw [hS] at cb
    have HE := hide hS
    clear hS
    go_wp2_with fail
    go_roundw
    case rel => exact ⟨k + 1, by go_num, hlt, fun j hj => (Nat.lt_succ_iff_lt_or_eq.1 hj).elim (HN.out j) (fun e => e ▸ HE.out), trivial⟩
    case measure => simp [intOf]; omega
end Go.Proofs.YtpkcklpjbeginaaGreatDoor
