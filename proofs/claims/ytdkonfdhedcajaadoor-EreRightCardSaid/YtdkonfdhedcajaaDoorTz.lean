/- math/bits.TrailingZeros64: the lowest place of a word; the library's table lies as laid. -/
import Derived.Test.YtdkonfdhedcajaaDoorProg
import Derived.Test.YtdkonfdhedcajaaDoorSent
import Derived.Test.YtdkonfdhedcajaaDoorWords
set_option linter.unusedSimpArgs false
set_option linter.unusedVariables false
namespace Go.Proofs.YtdkonfdhedcajaaDoor
open Go.RowKit

/-- The sentinels that the engine of this chapter answers. -/
def five : List Nat := [10, 12, 13, 14, 0]
theorem wrap_u64_neg (x : Nat) (hx : x < 18446744073709551616) (hx0 : x ≠ 0) : IntKind.u64.wrap (-(x : Int)) = ((18446744073709551616 - x : Nat) : Int) := by
  rw [IntKind.wrap_u64]; omega

theorem tz_key (x a : Nat) (hx : x < 18446744073709551616) (hx0 : x ≠ 0) (hlow : x &&& (18446744073709551616 - x) = a) :
    IntKind.u64.wrap (bits BinOp.and IntKind.u64 (x : Int) (IntKind.u64.wrap (-(x : Int))) * 285870213051353865) / 288230376151711744 = ((a * 285870213051353865 % 18446744073709551616 / 288230376151711744 : Nat) : Int) := by
  rw [wrap_u64_neg x hx hx0, bits_and_u64_nat x _ hx (by omega), hlow, IntKind.wrap_u64]
  omega

end Go.Proofs.YtdkonfdhedcajaaDoor
