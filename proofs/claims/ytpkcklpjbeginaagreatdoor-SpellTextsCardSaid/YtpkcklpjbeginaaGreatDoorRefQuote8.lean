/- trawlref08.Quote: the document's answer. (Printed by gen_refquote8.py.) -/
import Derived.Test.YtpkcklpjbeginaaGreatDoorSet8
import Derived.Laws.Strings
set_option linter.unusedSimpArgs false
set_option linter.unusedVariables false
namespace Go.Proofs.YtpkcklpjbeginaaGreatDoor
open Go.RowKit

theorem ext_one {s : ByteArray} {k : Nat} (h : k < s.size) : (s.extract k (k + 1)).data.toList = [s[k]'h] := by
 rw [ByteArray.data_extract, Array.toList_extract, List.extract_eq_take_drop]
 have hl : k < s.data.toList.length := by rw [data_len]; exact h
 rw [List.drop_eq_getElem_cons hl, show k + 1 - k = 1 by omega]
 rfl
theorem toList_data8 (x y : ByteArray) (h : x.data.toList = y.data.toList) : x = y := by
 apply ByteArray.ext
 exact Array.toList_inj.1 h
set_option maxRecDepth 100000 in
set_option maxHeartbeats 8000000 in
theorem refQuote8_any (s : ByteArray) (ext : Bool) (w : World) (hs : s.size ≤ 100000) : Calls Tryz.prog 24 #[.string s, .bool ext] w fun e w' => e = .returned (.string (quoteS (if ext then markE else markB) s)) ∧ Below w.heap.size w w' := by
 obtain ⟨mk, hmk⟩ : ∃ mk : Nat → Bool, mk = if ext then markE else markB := ⟨_, rfl⟩
 rw [← hmk]
 have HMK2 := hide hmk.symm
 clear hmk
 go_enter Tryz.func24, Tryz.ntmps24
 go_wp2_with fail
 go_loopw [5, 6] (fun ov kv wr => ∃ (k : Nat) (out : ByteArray), ov = .string out ∧ kv = .int .i64 (k : Int) ∧ k ≤ s.size ∧ out.data.toList = quoteL mk (s.data.toList.take k) ∧ Below w.heap.size w wr) (fun _ kv _ => s.size - (intOf kv).toNat)
 case atStart => exact ⟨0, ⟨#[]⟩, rfl, rfl, Nat.zero_le _, rfl, Below.refl _ _⟩
 case round =>
  obtain ⟨k, out, rfl, rfl, hk, hout, hbe⟩ := hrel
  have HO := hide hout
  have HBE := hide hbe
  have hol : out.size ≤ 2 * k := by
   have h1 := (quoteL_len mk (s.data.toList.take k)).2
   rw [← hout, data_len, List.length_take] at h1
   omega
  clear hout hbe
  by_cases hlt : k < s.size
  ·have g1 : decide ((k : Int) < (s.size : Int)) = true := decide_eq_true (by omega)
   have iw : IntKind.i64.wrap ((k : Int) + 1) = (k : Int) + 1 := wrapI (by omega) (by omega)
   have iw2 : wrap64 ((k : Int) + 1) = (k : Int) + 1 := by unfold wrap64; omega
   have z1 : (s.extract k (k + 1)).size = 1 := by rw [ByteArray.size_extract]; omega
   have z2 : ¬ 9223372036854775807 < out.size + 1 := by omega
   have z3 : ¬ 9223372036854775807 < out.size + 1 + 1 := by omega
   have z4 : (out ++ (⟨#[92]⟩ : ByteArray)).size = out.size + 1 := by rw [ByteArray.size_append]; rfl
   have hsl : ∀ W : World, (Instr.slice 9 (.string s) (some (.int .i64 (k : Int))) (some (.int .i64 ((k : Int) + 1))) none).run Tryz.prog W = .ok (.string (s.extract k (k + 1))) W := fun W => by
    have h := run_slice_string (P := Tryz.prog) W 9 s .i64 .i64 (k : Int) ((k : Int) + 1) Tryz.underlying9 (by omega) (by omega) (by omega)
    rw [Int.toNat_natCast, show ((k : Int) + 1).toNat = k + 1 by omega] at h
    exact h
   have HX := hide (ext_one hlt)
   have HSN0 := take_byte hlt
   obtain ⟨b, hb⟩ : ∃ b, b = s[k]'hlt := ⟨_, rfl⟩
   have HBB := hide (show b.toNat = (s[k]'hlt).toNat from by rw [hb])
   rw [← hb] at HSN0 HX
   have HSN := hide HSN0
   clear HSN0 hb
   by_cases e46 : b.toNat = 46
   ·have hbv : (s[k]'hlt).toNat = 46 := by rw [← HBB.out]; exact e46
    have HB := hide e46
    clear e46
    have HOUT := hide (show ((out ++ (⟨#[92]⟩ : ByteArray)) ++ s.extract k (k + 1)).data.toList = quoteL mk (s.data.toList.take (k + 1)) from by
     rw [HSN.out, quoteL_snoc, app_toList, app_toList, HX.out, HO.out, show mk b.toNat = true from by rw [HB.out]; rw [← HMK2.out]; cases ext <;> rfl]
     rw [List.append_assoc]; rfl)
    go_wp2_with fail
    go_roundw
    case rel => exact ⟨k + 1, _, rfl, by go_num, hlt, HOUT.out, HBE.out⟩
    case measure => simp [intOf]; omega
   by_cases e91 : b.toNat = 91
   ·have hbv : (s[k]'hlt).toNat = 91 := by rw [← HBB.out]; exact e91
    have HB := hide e91
    clear e91
    have HOUT := hide (show ((out ++ (⟨#[92]⟩ : ByteArray)) ++ s.extract k (k + 1)).data.toList = quoteL mk (s.data.toList.take (k + 1)) from by
     rw [HSN.out, quoteL_snoc, app_toList, app_toList, HX.out, HO.out, show mk b.toNat = true from by rw [HB.out]; rw [← HMK2.out]; cases ext <;> rfl]
     rw [List.append_assoc]; rfl)
    go_wp2_with fail
    go_roundw
    case rel => exact ⟨k + 1, _, rfl, by go_num, hlt, HOUT.out, HBE.out⟩
    case measure => simp [intOf]; omega
   by_cases e42 : b.toNat = 42
   ·have hbv : (s[k]'hlt).toNat = 42 := by rw [← HBB.out]; exact e42
    have HB := hide e42
    clear e42
    have HOUT := hide (show ((out ++ (⟨#[92]⟩ : ByteArray)) ++ s.extract k (k + 1)).data.toList = quoteL mk (s.data.toList.take (k + 1)) from by
     rw [HSN.out, quoteL_snoc, app_toList, app_toList, HX.out, HO.out, show mk b.toNat = true from by rw [HB.out]; rw [← HMK2.out]; cases ext <;> rfl]
     rw [List.append_assoc]; rfl)
    go_wp2_with fail
    go_roundw
    case rel => exact ⟨k + 1, _, rfl, by go_num, hlt, HOUT.out, HBE.out⟩
    case measure => simp [intOf]; omega
   by_cases e94 : b.toNat = 94
   ·have hbv : (s[k]'hlt).toNat = 94 := by rw [← HBB.out]; exact e94
    have HB := hide e94
    clear e94
    have HOUT := hide (show ((out ++ (⟨#[92]⟩ : ByteArray)) ++ s.extract k (k + 1)).data.toList = quoteL mk (s.data.toList.take (k + 1)) from by
     rw [HSN.out, quoteL_snoc, app_toList, app_toList, HX.out, HO.out, show mk b.toNat = true from by rw [HB.out]; rw [← HMK2.out]; cases ext <;> rfl]
     rw [List.append_assoc]; rfl)
    go_wp2_with fail
    go_roundw
    case rel => exact ⟨k + 1, _, rfl, by go_num, hlt, HOUT.out, HBE.out⟩
    case measure => simp [intOf]; omega
   by_cases e36 : b.toNat = 36
   ·have hbv : (s[k]'hlt).toNat = 36 := by rw [← HBB.out]; exact e36
    have HB := hide e36
    clear e36
    have HOUT := hide (show ((out ++ (⟨#[92]⟩ : ByteArray)) ++ s.extract k (k + 1)).data.toList = quoteL mk (s.data.toList.take (k + 1)) from by
     rw [HSN.out, quoteL_snoc, app_toList, app_toList, HX.out, HO.out, show mk b.toNat = true from by rw [HB.out]; rw [← HMK2.out]; cases ext <;> rfl]
     rw [List.append_assoc]; rfl)
    go_wp2_with fail
    go_roundw
    case rel => exact ⟨k + 1, _, rfl, by go_num, hlt, HOUT.out, HBE.out⟩
    case measure => simp [intOf]; omega
   by_cases e92 : b.toNat = 92
   ·have hbv : (s[k]'hlt).toNat = 92 := by rw [← HBB.out]; exact e92
    have HB := hide e92
    clear e92
    have HOUT := hide (show ((out ++ (⟨#[92]⟩ : ByteArray)) ++ s.extract k (k + 1)).data.toList = quoteL mk (s.data.toList.take (k + 1)) from by
     rw [HSN.out, quoteL_snoc, app_toList, app_toList, HX.out, HO.out, show mk b.toNat = true from by rw [HB.out]; rw [← HMK2.out]; cases ext <;> rfl]
     rw [List.append_assoc]; rfl)
    go_wp2_with fail
    go_roundw
    case rel => exact ⟨k + 1, _, rfl, by go_num, hlt, HOUT.out, HBE.out⟩
    case measure => simp [intOf]; omega
   by_cases e40 : b.toNat = 40
   ·have hbv : (s[k]'hlt).toNat = 40 := by rw [← HBB.out]; exact e40
    have HB := hide e40
    clear e40
    cases ext with
    | true =>
     have HOUT := hide (show ((out ++ (⟨#[92]⟩ : ByteArray)) ++ s.extract k (k + 1)).data.toList = quoteL mk (s.data.toList.take (k + 1)) from by
      rw [HSN.out, quoteL_snoc, app_toList, app_toList, HX.out, HO.out, show mk b.toNat = true from by rw [HB.out]; rw [← HMK2.out]; rfl]
      rw [List.append_assoc]; rfl)
     go_wp2_with fail
     go_roundw
     case rel => exact ⟨k + 1, _, rfl, by go_num, hlt, HOUT.out, HBE.out⟩
     case measure => simp [intOf]; omega
    | false =>
     have HOUT := hide (show ((out) ++ s.extract k (k + 1)).data.toList = quoteL mk (s.data.toList.take (k + 1)) from by
      rw [HSN.out, quoteL_snoc, app_toList, HX.out, HO.out, show mk b.toNat = false from by rw [HB.out]; rw [← HMK2.out]; rfl]
      rfl)
     go_wp2_with fail
     go_roundw
     case rel => exact ⟨k + 1, _, rfl, by go_num, hlt, HOUT.out, HBE.out⟩
     case measure => simp [intOf]; omega
   by_cases e41 : b.toNat = 41
   ·have hbv : (s[k]'hlt).toNat = 41 := by rw [← HBB.out]; exact e41
    have HB := hide e41
    clear e41
    cases ext with
    | true =>
     have HOUT := hide (show ((out ++ (⟨#[92]⟩ : ByteArray)) ++ s.extract k (k + 1)).data.toList = quoteL mk (s.data.toList.take (k + 1)) from by
      rw [HSN.out, quoteL_snoc, app_toList, app_toList, HX.out, HO.out, show mk b.toNat = true from by rw [HB.out]; rw [← HMK2.out]; rfl]
      rw [List.append_assoc]; rfl)
     go_wp2_with fail
     go_roundw
     case rel => exact ⟨k + 1, _, rfl, by go_num, hlt, HOUT.out, HBE.out⟩
     case measure => simp [intOf]; omega
    | false =>
     have HOUT := hide (show ((out) ++ s.extract k (k + 1)).data.toList = quoteL mk (s.data.toList.take (k + 1)) from by
      rw [HSN.out, quoteL_snoc, app_toList, HX.out, HO.out, show mk b.toNat = false from by rw [HB.out]; rw [← HMK2.out]; rfl]
      rfl)
     go_wp2_with fail
     go_roundw
     case rel => exact ⟨k + 1, _, rfl, by go_num, hlt, HOUT.out, HBE.out⟩
     case measure => simp [intOf]; omega
   by_cases e43 : b.toNat = 43
   ·have hbv : (s[k]'hlt).toNat = 43 := by rw [← HBB.out]; exact e43
    have HB := hide e43
    clear e43
    cases ext with
    | true =>
     have HOUT := hide (show ((out ++ (⟨#[92]⟩ : ByteArray)) ++ s.extract k (k + 1)).data.toList = quoteL mk (s.data.toList.take (k + 1)) from by
      rw [HSN.out, quoteL_snoc, app_toList, app_toList, HX.out, HO.out, show mk b.toNat = true from by rw [HB.out]; rw [← HMK2.out]; rfl]
      rw [List.append_assoc]; rfl)
     go_wp2_with fail
     go_roundw
     case rel => exact ⟨k + 1, _, rfl, by go_num, hlt, HOUT.out, HBE.out⟩
     case measure => simp [intOf]; omega
    | false =>
     have HOUT := hide (show ((out) ++ s.extract k (k + 1)).data.toList = quoteL mk (s.data.toList.take (k + 1)) from by
      rw [HSN.out, quoteL_snoc, app_toList, HX.out, HO.out, show mk b.toNat = false from by rw [HB.out]; rw [← HMK2.out]; rfl]
      rfl)
     go_wp2_with fail
     go_roundw
     case rel => exact ⟨k + 1, _, rfl, by go_num, hlt, HOUT.out, HBE.out⟩
     case measure => simp [intOf]; omega
   by_cases e63 : b.toNat = 63
   ·have hbv : (s[k]'hlt).toNat = 63 := by rw [← HBB.out]; exact e63
    have HB := hide e63
    clear e63
    cases ext with
    | true =>
     have HOUT := hide (show ((out ++ (⟨#[92]⟩ : ByteArray)) ++ s.extract k (k + 1)).data.toList = quoteL mk (s.data.toList.take (k + 1)) from by
      rw [HSN.out, quoteL_snoc, app_toList, app_toList, HX.out, HO.out, show mk b.toNat = true from by rw [HB.out]; rw [← HMK2.out]; rfl]
      rw [List.append_assoc]; rfl)
     go_wp2_with fail
     go_roundw
     case rel => exact ⟨k + 1, _, rfl, by go_num, hlt, HOUT.out, HBE.out⟩
     case measure => simp [intOf]; omega
    | false =>
     have HOUT := hide (show ((out) ++ s.extract k (k + 1)).data.toList = quoteL mk (s.data.toList.take (k + 1)) from by
      rw [HSN.out, quoteL_snoc, app_toList, HX.out, HO.out, show mk b.toNat = false from by rw [HB.out]; rw [← HMK2.out]; rfl]
      rfl)
     go_wp2_with fail
     go_roundw
     case rel => exact ⟨k + 1, _, rfl, by go_num, hlt, HOUT.out, HBE.out⟩
     case measure => simp [intOf]; omega
   by_cases e123 : b.toNat = 123
   ·have hbv : (s[k]'hlt).toNat = 123 := by rw [← HBB.out]; exact e123
    have HB := hide e123
    clear e123
    cases ext with
    | true =>
     have HOUT := hide (show ((out ++ (⟨#[92]⟩ : ByteArray)) ++ s.extract k (k + 1)).data.toList = quoteL mk (s.data.toList.take (k + 1)) from by
      rw [HSN.out, quoteL_snoc, app_toList, app_toList, HX.out, HO.out, show mk b.toNat = true from by rw [HB.out]; rw [← HMK2.out]; rfl]
      rw [List.append_assoc]; rfl)
     go_wp2_with fail
     go_roundw
     case rel => exact ⟨k + 1, _, rfl, by go_num, hlt, HOUT.out, HBE.out⟩
     case measure => simp [intOf]; omega
    | false =>
     have HOUT := hide (show ((out) ++ s.extract k (k + 1)).data.toList = quoteL mk (s.data.toList.take (k + 1)) from by
      rw [HSN.out, quoteL_snoc, app_toList, HX.out, HO.out, show mk b.toNat = false from by rw [HB.out]; rw [← HMK2.out]; rfl]
      rfl)
     go_wp2_with fail
     go_roundw
     case rel => exact ⟨k + 1, _, rfl, by go_num, hlt, HOUT.out, HBE.out⟩
     case measure => simp [intOf]; omega
   by_cases e124 : b.toNat = 124
   ·have hbv : (s[k]'hlt).toNat = 124 := by rw [← HBB.out]; exact e124
    have HB := hide e124
    clear e124
    cases ext with
    | true =>
     have HOUT := hide (show ((out ++ (⟨#[92]⟩ : ByteArray)) ++ s.extract k (k + 1)).data.toList = quoteL mk (s.data.toList.take (k + 1)) from by
      rw [HSN.out, quoteL_snoc, app_toList, app_toList, HX.out, HO.out, show mk b.toNat = true from by rw [HB.out]; rw [← HMK2.out]; rfl]
      rw [List.append_assoc]; rfl)
     go_wp2_with fail
     go_roundw
     case rel => exact ⟨k + 1, _, rfl, by go_num, hlt, HOUT.out, HBE.out⟩
     case measure => simp [intOf]; omega
    | false =>
     have HOUT := hide (show ((out) ++ s.extract k (k + 1)).data.toList = quoteL mk (s.data.toList.take (k + 1)) from by
      rw [HSN.out, quoteL_snoc, app_toList, HX.out, HO.out, show mk b.toNat = false from by rw [HB.out]; rw [← HMK2.out]; rfl]
      rfl)
     go_wp2_with fail
     go_roundw
     case rel => exact ⟨k + 1, _, rfl, by go_num, hlt, HOUT.out, HBE.out⟩
     case measure => simp [intOf]; omega
   have n46 : ¬ (s[k]'hlt).toNat = 46 := by rw [← HBB.out]; exact e46
   have n91 : ¬ (s[k]'hlt).toNat = 91 := by rw [← HBB.out]; exact e91
   have n42 : ¬ (s[k]'hlt).toNat = 42 := by rw [← HBB.out]; exact e42
   have n94 : ¬ (s[k]'hlt).toNat = 94 := by rw [← HBB.out]; exact e94
   have n36 : ¬ (s[k]'hlt).toNat = 36 := by rw [← HBB.out]; exact e36
   have n92 : ¬ (s[k]'hlt).toNat = 92 := by rw [← HBB.out]; exact e92
   have n40 : ¬ (s[k]'hlt).toNat = 40 := by rw [← HBB.out]; exact e40
   have n41 : ¬ (s[k]'hlt).toNat = 41 := by rw [← HBB.out]; exact e41
   have n43 : ¬ (s[k]'hlt).toNat = 43 := by rw [← HBB.out]; exact e43
   have n63 : ¬ (s[k]'hlt).toNat = 63 := by rw [← HBB.out]; exact e63
   have n123 : ¬ (s[k]'hlt).toNat = 123 := by rw [← HBB.out]; exact e123
   have n124 : ¬ (s[k]'hlt).toNat = 124 := by rw [← HBB.out]; exact e124
   have m46 : ((((s[k]'hlt).toNat : Nat) : Int) == 46) = false := beq_eq_false_iff_ne.2 (by omega)
   have m91 : ((((s[k]'hlt).toNat : Nat) : Int) == 91) = false := beq_eq_false_iff_ne.2 (by omega)
   have m42 : ((((s[k]'hlt).toNat : Nat) : Int) == 42) = false := beq_eq_false_iff_ne.2 (by omega)
   have m94 : ((((s[k]'hlt).toNat : Nat) : Int) == 94) = false := beq_eq_false_iff_ne.2 (by omega)
   have m36 : ((((s[k]'hlt).toNat : Nat) : Int) == 36) = false := beq_eq_false_iff_ne.2 (by omega)
   have m92 : ((((s[k]'hlt).toNat : Nat) : Int) == 92) = false := beq_eq_false_iff_ne.2 (by omega)
   have m40 : ((((s[k]'hlt).toNat : Nat) : Int) == 40) = false := beq_eq_false_iff_ne.2 (by omega)
   have m41 : ((((s[k]'hlt).toNat : Nat) : Int) == 41) = false := beq_eq_false_iff_ne.2 (by omega)
   have m43 : ((((s[k]'hlt).toNat : Nat) : Int) == 43) = false := beq_eq_false_iff_ne.2 (by omega)
   have m63 : ((((s[k]'hlt).toNat : Nat) : Int) == 63) = false := beq_eq_false_iff_ne.2 (by omega)
   have m123 : ((((s[k]'hlt).toNat : Nat) : Int) == 123) = false := beq_eq_false_iff_ne.2 (by omega)
   have m124 : ((((s[k]'hlt).toNat : Nat) : Int) == 124) = false := beq_eq_false_iff_ne.2 (by omega)
   have HNM := hide (show mk b.toNat = false from by rw [← HMK2.out]; cases ext <;> simp [markE, markB, e46, e91, e42, e94, e36, e92, e40, e41, e43, e63, e123, e124])
   clear e46 e91 e42 e94 e36 e92 e40 e41 e43 e63 e123 e124
   have HOUT := hide (show (out ++ s.extract k (k + 1)).data.toList = quoteL mk (s.data.toList.take (k + 1)) from by
    rw [HSN.out, quoteL_snoc, app_toList, HX.out, HO.out, HNM.out]
    rfl)
   go_wp2_with fail
   go_roundw
   case rel => exact ⟨k + 1, _, rfl, by go_num, hlt, HOUT.out, HBE.out⟩
   case measure => simp [intOf]; omega
  ·have g1 : decide ((k : Int) < (s.size : Int)) = false := decide_eq_false (by omega)
   have he : out = quoteS mk s := by
    refine toList_data8 _ _ ?_
    rw [HO.out, show k = s.data.toList.length by rw [data_len]; omega, List.take_length]
    rfl
   have HE := hide he
   clear he
   go_wp2_with fail
   go_ret
   exact ⟨by rw [← HE.out]; rfl, HBE.out⟩
end Go.Proofs.YtpkcklpjbeginaaGreatDoor
