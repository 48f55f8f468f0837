/- trawllaw06.EreEscapes: the law walked. (Printed by gen_esclaw6.py.) -/
import Derived.Test.YtpkcklpjbeginaaDoorEreB
import Derived.Test.YtpkcklpjbeginaaDoorEscP6
import Derived.Test.YtpkcklpjbeginaaDoorSames
import Derived.Laws.Strings
set_option linter.unusedSimpArgs false
set_option linter.unusedVariables false
namespace Go.Proofs.YtpkcklpjbeginaaDoor
open Go.RowKit

theorem one_byte6 (fb : Nat) (hb : fb < 256) (g : Nat) (y : World) (h : y.cell? ⟨g, 0, none⟩ = some (.int .u8 (fb : Int))) : (convert 39 9 (.slice (some ⟨g, 0, none⟩) 1 1)).run Tryd.prog y = .ok (.string ⟨#[fb.toUInt8]⟩) y := by
  refine run_convert_bytes_back y 39 9 5 ⟨g, 0, none⟩ 1 [fb.toUInt8] Tryd.underlying39 Tryd.underlying5 Tryd.underlying9 fun j hj => ?_
  obtain rfl : j = 0 := by simpa using hj
  rw [Addr.add_lit]
  simp only [Nat.add_zero, List.getElem_cons_zero]
  rw [h, show fb.toUInt8.toNat = fb from by simp [Nat.toUInt8]; omega]
theorem app_list (x y : ByteArray) : (x ++ y).data.toList = x.data.toList ++ y.data.toList := by simp
/-- A backslash and a byte. -/
theorem esc_pb (c : Nat) (hc : c < 256) : ((⟨#[92]⟩ : ByteArray) ++ ⟨#[c.toUInt8]⟩).size = 2 ∧ pb ((⟨#[92]⟩ : ByteArray) ++ ⟨#[c.toUInt8]⟩) 0 = 92 ∧ pb ((⟨#[92]⟩ : ByteArray) ++ ⟨#[c.toUInt8]⟩) 1 = c := by
  have hl : ((⟨#[92]⟩ : ByteArray) ++ ⟨#[c.toUInt8]⟩).data.toList = [(92 : Nat).toUInt8, c.toUInt8] := by rw [app_list]; rfl
  have hs : ((⟨#[92]⟩ : ByteArray) ++ ⟨#[c.toUInt8]⟩).size = 2 := by rw [← data_len, hl]; rfl
  have h0 := data_at ((⟨#[92]⟩ : ByteArray) ++ ⟨#[c.toUInt8]⟩) 0
  have h1 := data_at ((⟨#[92]⟩ : ByteArray) ++ ⟨#[c.toUInt8]⟩) 1
  rw [hl, hs, if_pos (by decide)] at h0 h1
  exact ⟨hs, ((u8_eq (by decide) (pb_lt (by omega))).1 (Option.some.inj h0)).symm, ((u8_eq hc (pb_lt (by omega))).1 (Option.some.inj h1)).symm⟩
end Go.Proofs.YtpkcklpjbeginaaDoor
