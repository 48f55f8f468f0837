/- math/bits.TrailingZeros64: the lowest place of a word; the library's table lies as laid. -/
import Derived.Test.YtpkcklpjbeginaaGreatDoorProg
import Derived.Test.YtpkcklpjbeginaaGreatDoorSent
import Derived.Test.YtpkcklpjbeginaaGreatDoorWords
set_option linter.unusedSimpArgs false
set_option linter.unusedVariables false
namespace Go.Proofs.YtpkcklpjbeginaaGreatDoor
open Go.RowKit

/-- The table of the library lies in its variable. -/
def Tab (w : World) : Prop := ∀ j, j < 64 → w.cell? ⟨23, j, none⟩ = some (.int .u8 (Lib.deBruijn64tab.getD j 0))

theorem Tab.below {w w' : World} (h : Tab w) (hb : Below w.heap.size w w') : Tab w' := fun j hj => (hb.cell (World.block_lt_of_cell? w _ (h j hj))).trans (h j hj)

/-- The sentinels that the engine of this chapter answers. -/
def five : List Nat := [12, 2, 0, 13, 14]
/-- What its laws ask of the program's variables. -/
structure Env (w : World) (a : Nat → Addr) : Prop where
 sent : Sent five w a
 tab : Tab w

theorem Env.below {w w' : World} {a : Nat → Addr} (h : Env w a) (hb : Below w.heap.size w w') : Env w' a := ⟨h.sent.below hb, h.tab.below hb⟩

theorem wrap_u64_neg (x : Nat) (hx : x < 18446744073709551616) (hx0 : x ≠ 0) : IntKind.u64.wrap (-(x : Int)) = ((18446744073709551616 - x : Nat) : Int) := by
 rw [IntKind.wrap_u64]; omega

theorem tz_key (x a : Nat) (hx : x < 18446744073709551616) (hx0 : x ≠ 0) (hlow : x &&& (18446744073709551616 - x) = a) :
  IntKind.u64.wrap (bits BinOp.and IntKind.u64 (x : Int) (IntKind.u64.wrap (-(x : Int))) * 285870213051353865) / 288230376151711744 = ((a * 285870213051353865 % 18446744073709551616 / 288230376151711744 : Nat) : Int) := by
 rw [wrap_u64_neg x hx hx0, bits_and_u64_nat x _ hx (by omega), hlow, IntKind.wrap_u64]
 omega

set_option maxHeartbeats 1000000 in
theorem tz_core (x k idx : Nat) (w : World) (hx0 : ((x : Int) == 0) = false)
  (key : IntKind.u64.wrap (bits BinOp.and IntKind.u64 (x : Int) (IntKind.u64.wrap (-(x : Int))) * 285870213051353865) / 288230376151711744 = (idx : Int))
  (hi : idx < 64) (hk : k < 64) (hcell : w.cell? ⟨23, idx, none⟩ = some (.int .u8 k)) :
  Calls Tryz.prog 121 #[.int .u64 x] w fun e w' => e = .returned (.int .i64 k) ∧ w' = w := by
 go_enter Tryz.func121, Tryz.ntmps121
 go_wp2_with (simp only [key])
 go_ret
 exact ⟨rfl, rfl⟩

theorem tz_any (x : Nat) (hx0 : x ≠ 0) (hx : x < 18446744073709551616) (w : World) (hT : Tab w) :
  Calls Tryz.prog 121 #[.int .u64 x] w fun e w' => e = .returned (.int .i64 (Lib.ctz 64 x)) ∧ w = w' := by
 obtain ⟨hlow, hk⟩ := Lib.lowest_bit 64 x hx0 hx
 obtain ⟨hi, htab⟩ := Lib.deBruijn64_at _ hk
 have hcell := hT _ hi
 rw [htab] at hcell
 exact (tz_core x _ _ w (by simp; omega) (tz_key x _ hx hx0 hlow) hi hk hcell).mono fun e w' h => ⟨h.1, h.2.symm⟩
end Go.Proofs.YtpkcklpjbeginaaGreatDoor
