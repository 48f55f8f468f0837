/- trawllaw06.EreJoins: the law walked. (Printed by gen_joinslaw6.py.) -/
import Derived.Test.YtpkcklpjbeginaaDoorEreB
import Derived.Test.YtpkcklpjbeginaaDoorRaise6
import Derived.Laws.Strings
set_option linter.unusedSimpArgs false
set_option linter.unusedVariables false
namespace Go.Proofs.YtpkcklpjbeginaaDoor
open Go.RowKit

mutual
theorem T.same_self7 : ∀ t : T, t.same t = true
  | .mk h l => by simp [T.same, show h.same h = true from Hd.same_iff.2 rfl, TL.same_self7 l]
theorem TL.same_self7 : ∀ l : List T, TL.same l l = true
  | [] => by simp [TL.same]
  | t :: l => by simp [TL.same, T.same_self7 t, TL.same_self7 l]
end
theorem app_list7 (x y : ByteArray) : (x ++ y).data.toList = x.data.toList ++ y.data.toList := by simp
theorem pb_app (a b : ByteArray) (i : Nat) : pb (a ++ b) i = if i < a.size then pb a i else pb b (i - a.size) := by
  have hs : (a ++ b).size = a.size + b.size := ByteArray.size_append
  by_cases h : i < a.size
  · rw [if_pos h]
    have h0 := data_at (a ++ b) i
    rw [app_list7, if_pos (by omega), List.getElem?_append_left (by rw [data_len]; exact h), data_at, if_pos h] at h0
    exact ((u8_eq (pb_lt h) (pb_lt (by omega))).1 (Option.some.inj h0)).symm
  · rw [if_neg h]
    by_cases h2 : i < a.size + b.size
    · have h0 := data_at (a ++ b) i
      rw [app_list7, if_pos (by omega), List.getElem?_append_right (by rw [data_len]; omega), data_len, data_at, if_pos (by omega)] at h0
      exact ((u8_eq (pb_lt (by omega)) (pb_lt (by omega))).1 (Option.some.inj h0)).symm
    · rw [pb_none (by omega), pb_none (by omega)]
end Go.Proofs.YtpkcklpjbeginaaDoor
