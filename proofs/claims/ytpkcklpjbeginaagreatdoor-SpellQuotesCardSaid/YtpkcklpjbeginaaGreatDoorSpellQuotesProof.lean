/- RefQuote8: trawlref08.Quote: the document's answer. (Printed by gen_refquote8.py.)
QuotesLaw8: trawllaw08.SpellQuotes: the law walked. (Printed by gen_quoteslaw8.py.)
SpellQuotesProof: trawl/trawllaw08.SpellQuotes: for every text and flags, the call answers true, and what it was given reads afterwards as before; the program's variables lie as its text lays them (the card ties that). Conditions: those of the given card alone. (Printed by gen_card2.py.) -/
import Derived.Test.YtpkcklpjbeginaaGreatDoorSet8
import Derived.Laws.Strings
import Derived.Test.YtpkcklpjbeginaaGreatDoorEre8
import Derived.Test.YtpkcklpjbeginaaGreatDoorEreB
import Derived.Test.YtpkcklpjbeginaaGreatDoorBreF
import Derived.Test.YtpkcklpjbeginaaGreatDoorTreeSame
import Derived.Test.YtpkcklpjbeginaaGreatDoorRows
import Derived.Test.YtpkcklpjbeginaaGreatDoorCards
import Derived.Test.YtpkcklpjbeginaaGreatDoorTie
import Derived.Test.YtpkcklpjbeginaaGreatDoorReads
import Derived.Test.YtpkcklpjbeginaaGreatDoorLaidAll
import Derived.WalkKit
import Derived.ProofKit
import Derived.LaidMore
import Derived.LaidHandle
import Derived.OpenShut
import Derived.ChangeOld
import Derived.ChangeMaps5
import Derived.Below
import Derived.Stop.Joined
import Derived.Deep.DeepHandedRow
import Derived.SevenTiedAt
import Derived.MakeChecks
set_option linter.unusedSimpArgs false
set_option linter.unusedVariables false
set_option linter.unnecessarySimpa false

/-! ## RefQuote8 -/
namespace Go.Proofs.YtpkcklpjbeginaaGreatDoor
open Go.RowKit

theorem ext_one {s : ByteArray} {k : Nat} (h : k < s.size) : (s.extract k (k + 1)).data.toList = [s[k]'h] := by
 rw [ByteArray.data_extract, Array.toList_extract, List.extract_eq_take_drop]
 have hl : k < s.data.toList.length := by rw [data_len]; exact h
 rw [List.drop_eq_getElem_cons hl, show k + 1 - k = 1 by omega]
 rfl
theorem toList_data8 (x y : ByteArray) (h : x.data.toList = y.data.toList) : x = y := by
 apply ByteArray.ext
 exact Array.toList_inj.1 h
set_option maxRecDepth 100000 in
set_option maxHeartbeats 8000000 in
theorem refQuote8_any (s : ByteArray) (ext : Bool) (w : World) (hs : s.size ≤ 100000) : Calls Tryz.prog 24 #[.string s, .bool ext] w fun e w' => e = .returned (.string (quoteS (if ext then markE else markB) s)) ∧ Below w.heap.size w w' := by
 obtain ⟨mk, hmk⟩ : ∃ mk : Nat → Bool, mk = if ext then markE else markB := ⟨_, rfl⟩
 rw [← hmk]
 have HMK2 := hide hmk.symm
 clear hmk
 go_enter Tryz.func24, Tryz.ntmps24
 go_wp2_with fail
 go_loopw [5, 6] (fun ov kv wr => ∃ (k : Nat) (out : ByteArray), ov = .string out ∧ kv = .int .i64 (k : Int) ∧ k ≤ s.size ∧ out.data.toList = quoteL mk (s.data.toList.take k) ∧ Below w.heap.size w wr) (fun _ kv _ => s.size - (intOf kv).toNat)
 case atStart => exact ⟨0, ⟨#[]⟩, rfl, rfl, Nat.zero_le _, rfl, Below.refl _ _⟩
 case round =>
  obtain ⟨k, out, rfl, rfl, hk, hout, hbe⟩ := hrel
  have HO := hide hout
  have HBE := hide hbe
  have hol : out.size ≤ 2 * k := by
   have h1 := (quoteL_len mk (s.data.toList.take k)).2
   rw [← hout, data_len, List.length_take] at h1
   omega
  clear hout hbe
  by_cases hlt : k < s.size
  ·have g1 : decide ((k : Int) < (s.size : Int)) = true := decide_eq_true (by omega)
   have iw : IntKind.i64.wrap ((k : Int) + 1) = (k : Int) + 1 := wrapI (by omega) (by omega)
   have iw2 : wrap64 ((k : Int) + 1) = (k : Int) + 1 := by unfold wrap64; omega
   have z1 : (s.extract k (k + 1)).size = 1 := by rw [ByteArray.size_extract]; omega
   have z2 : ¬ 9223372036854775807 < out.size + 1 := by omega
   have z3 : ¬ 9223372036854775807 < out.size + 1 + 1 := by omega
   have z4 : (out ++ (⟨#[92]⟩ : ByteArray)).size = out.size + 1 := by rw [ByteArray.size_append]; rfl
   have hsl : ∀ W : World, (Instr.slice 9 (.string s) (some (.int .i64 (k : Int))) (some (.int .i64 ((k : Int) + 1))) none).run Tryz.prog W = .ok (.string (s.extract k (k + 1))) W := fun W => by
    have h := run_slice_string (P := Tryz.prog) W 9 s .i64 .i64 (k : Int) ((k : Int) + 1) Tryz.underlying9 (by omega) (by omega) (by omega)
    rw [Int.toNat_natCast, show ((k : Int) + 1).toNat = k + 1 by omega] at h
    exact h
   have HX := hide (ext_one hlt)
   have HSN0 := take_byte hlt
   obtain ⟨b, hb⟩ : ∃ b, b = s[k]'hlt := ⟨_, rfl⟩
   have HBB := hide (show b.toNat = (s[k]'hlt).toNat from by rw [hb])
   rw [← hb] at HSN0 HX
   have HSN := hide HSN0
   clear HSN0 hb
   by_cases e46 : b.toNat = 46
   ·have hbv : (s[k]'hlt).toNat = 46 := by rw [← HBB.out]; exact e46
    have HB := hide e46
    clear e46
    have HOUT := hide (show ((out ++ (⟨#[92]⟩ : ByteArray)) ++ s.extract k (k + 1)).data.toList = quoteL mk (s.data.toList.take (k + 1)) from by
     rw [HSN.out, quoteL_snoc, app_toList, app_toList, HX.out, HO.out, show mk b.toNat = true from by rw [HB.out]; rw [← HMK2.out]; cases ext <;> rfl]
     rw [List.append_assoc]; rfl)
    go_wp2_with fail
    go_roundw
    case rel => exact ⟨k + 1, _, rfl, by go_num, hlt, HOUT.out, HBE.out⟩
    case measure => simp [intOf]; omega
   by_cases e91 : b.toNat = 91
   ·have hbv : (s[k]'hlt).toNat = 91 := by rw [← HBB.out]; exact e91
    have HB := hide e91
    clear e91
    have HOUT := hide (show ((out ++ (⟨#[92]⟩ : ByteArray)) ++ s.extract k (k + 1)).data.toList = quoteL mk (s.data.toList.take (k + 1)) from by
     rw [HSN.out, quoteL_snoc, app_toList, app_toList, HX.out, HO.out, show mk b.toNat = true from by rw [HB.out]; rw [← HMK2.out]; cases ext <;> rfl]
     rw [List.append_assoc]; rfl)
    go_wp2_with fail
    go_roundw
    case rel => exact ⟨k + 1, _, rfl, by go_num, hlt, HOUT.out, HBE.out⟩
    case measure => simp [intOf]; omega
   by_cases e42 : b.toNat = 42
   ·have hbv : (s[k]'hlt).toNat = 42 := by rw [← HBB.out]; exact e42
    have HB := hide e42
    clear e42
    have HOUT := hide (show ((out ++ (⟨#[92]⟩ : ByteArray)) ++ s.extract k (k + 1)).data.toList = quoteL mk (s.data.toList.take (k + 1)) from by
     rw [HSN.out, quoteL_snoc, app_toList, app_toList, HX.out, HO.out, show mk b.toNat = true from by rw [HB.out]; rw [← HMK2.out]; cases ext <;> rfl]
     rw [List.append_assoc]; rfl)
    go_wp2_with fail
    go_roundw
    case rel => exact ⟨k + 1, _, rfl, by go_num, hlt, HOUT.out, HBE.out⟩
    case measure => simp [intOf]; omega
   by_cases e94 : b.toNat = 94
   ·have hbv : (s[k]'hlt).toNat = 94 := by rw [← HBB.out]; exact e94
    have HB := hide e94
    clear e94
    have HOUT := hide (show ((out ++ (⟨#[92]⟩ : ByteArray)) ++ s.extract k (k + 1)).data.toList = quoteL mk (s.data.toList.take (k + 1)) from by
     rw [HSN.out, quoteL_snoc, app_toList, app_toList, HX.out, HO.out, show mk b.toNat = true from by rw [HB.out]; rw [← HMK2.out]; cases ext <;> rfl]
     rw [List.append_assoc]; rfl)
    go_wp2_with fail
    go_roundw
    case rel => exact ⟨k + 1, _, rfl, by go_num, hlt, HOUT.out, HBE.out⟩
    case measure => simp [intOf]; omega
   by_cases e36 : b.toNat = 36
   ·have hbv : (s[k]'hlt).toNat = 36 := by rw [← HBB.out]; exact e36
    have HB := hide e36
    clear e36
    have HOUT := hide (show ((out ++ (⟨#[92]⟩ : ByteArray)) ++ s.extract k (k + 1)).data.toList = quoteL mk (s.data.toList.take (k + 1)) from by
     rw [HSN.out, quoteL_snoc, app_toList, app_toList, HX.out, HO.out, show mk b.toNat = true from by rw [HB.out]; rw [← HMK2.out]; cases ext <;> rfl]
     rw [List.append_assoc]; rfl)
    go_wp2_with fail
    go_roundw
    case rel => exact ⟨k + 1, _, rfl, by go_num, hlt, HOUT.out, HBE.out⟩
    case measure => simp [intOf]; omega
   by_cases e92 : b.toNat = 92
   ·have hbv : (s[k]'hlt).toNat = 92 := by rw [← HBB.out]; exact e92
    have HB := hide e92
    clear e92
    have HOUT := hide (show ((out ++ (⟨#[92]⟩ : ByteArray)) ++ s.extract k (k + 1)).data.toList = quoteL mk (s.data.toList.take (k + 1)) from by
     rw [HSN.out, quoteL_snoc, app_toList, app_toList, HX.out, HO.out, show mk b.toNat = true from by rw [HB.out]; rw [← HMK2.out]; cases ext <;> rfl]
     rw [List.append_assoc]; rfl)
    go_wp2_with fail
    go_roundw
    case rel => exact ⟨k + 1, _, rfl, by go_num, hlt, HOUT.out, HBE.out⟩
    case measure => simp [intOf]; omega
   by_cases e40 : b.toNat = 40
   ·have hbv : (s[k]'hlt).toNat = 40 := by rw [← HBB.out]; exact e40
    have HB := hide e40
    clear e40
    cases ext with
    | true =>
     have HOUT := hide (show ((out ++ (⟨#[92]⟩ : ByteArray)) ++ s.extract k (k + 1)).data.toList = quoteL mk (s.data.toList.take (k + 1)) from by
      rw [HSN.out, quoteL_snoc, app_toList, app_toList, HX.out, HO.out, show mk b.toNat = true from by rw [HB.out]; rw [← HMK2.out]; rfl]
      rw [List.append_assoc]; rfl)
     go_wp2_with fail
     go_roundw
     case rel => exact ⟨k + 1, _, rfl, by go_num, hlt, HOUT.out, HBE.out⟩
     case measure => simp [intOf]; omega
    | false =>
     have HOUT := hide (show ((out) ++ s.extract k (k + 1)).data.toList = quoteL mk (s.data.toList.take (k + 1)) from by
      rw [HSN.out, quoteL_snoc, app_toList, HX.out, HO.out, show mk b.toNat = false from by rw [HB.out]; rw [← HMK2.out]; rfl]
      rfl)
     go_wp2_with fail
     go_roundw
     case rel => exact ⟨k + 1, _, rfl, by go_num, hlt, HOUT.out, HBE.out⟩
     case measure => simp [intOf]; omega
   by_cases e41 : b.toNat = 41
   ·have hbv : (s[k]'hlt).toNat = 41 := by rw [← HBB.out]; exact e41
    have HB := hide e41
    clear e41
    cases ext with
    | true =>
     have HOUT := hide (show ((out ++ (⟨#[92]⟩ : ByteArray)) ++ s.extract k (k + 1)).data.toList = quoteL mk (s.data.toList.take (k + 1)) from by
      rw [HSN.out, quoteL_snoc, app_toList, app_toList, HX.out, HO.out, show mk b.toNat = true from by rw [HB.out]; rw [← HMK2.out]; rfl]
      rw [List.append_assoc]; rfl)
     go_wp2_with fail
     go_roundw
     case rel => exact ⟨k + 1, _, rfl, by go_num, hlt, HOUT.out, HBE.out⟩
     case measure => simp [intOf]; omega
    | false =>
     have HOUT := hide (show ((out) ++ s.extract k (k + 1)).data.toList = quoteL mk (s.data.toList.take (k + 1)) from by
      rw [HSN.out, quoteL_snoc, app_toList, HX.out, HO.out, show mk b.toNat = false from by rw [HB.out]; rw [← HMK2.out]; rfl]
      rfl)
     go_wp2_with fail
     go_roundw
     case rel => exact ⟨k + 1, _, rfl, by go_num, hlt, HOUT.out, HBE.out⟩
     case measure => simp [intOf]; omega
   by_cases e43 : b.toNat = 43
   ·have hbv : (s[k]'hlt).toNat = 43 := by rw [← HBB.out]; exact e43
    have HB := hide e43
    clear e43
    cases ext with
    | true =>
     have HOUT := hide (show ((out ++ (⟨#[92]⟩ : ByteArray)) ++ s.extract k (k + 1)).data.toList = quoteL mk (s.data.toList.take (k + 1)) from by
      rw [HSN.out, quoteL_snoc, app_toList, app_toList, HX.out, HO.out, show mk b.toNat = true from by rw [HB.out]; rw [← HMK2.out]; rfl]
      rw [List.append_assoc]; rfl)
     go_wp2_with fail
     go_roundw
     case rel => exact ⟨k + 1, _, rfl, by go_num, hlt, HOUT.out, HBE.out⟩
     case measure => simp [intOf]; omega
    | false =>
     have HOUT := hide (show ((out) ++ s.extract k (k + 1)).data.toList = quoteL mk (s.data.toList.take (k + 1)) from by
      rw [HSN.out, quoteL_snoc, app_toList, HX.out, HO.out, show mk b.toNat = false from by rw [HB.out]; rw [← HMK2.out]; rfl]
      rfl)
     go_wp2_with fail
     go_roundw
     case rel => exact ⟨k + 1, _, rfl, by go_num, hlt, HOUT.out, HBE.out⟩
     case measure => simp [intOf]; omega
   by_cases e63 : b.toNat = 63
   ·have hbv : (s[k]'hlt).toNat = 63 := by rw [← HBB.out]; exact e63
    have HB := hide e63
    clear e63
    cases ext with
    | true =>
     have HOUT := hide (show ((out ++ (⟨#[92]⟩ : ByteArray)) ++ s.extract k (k + 1)).data.toList = quoteL mk (s.data.toList.take (k + 1)) from by
      rw [HSN.out, quoteL_snoc, app_toList, app_toList, HX.out, HO.out, show mk b.toNat = true from by rw [HB.out]; rw [← HMK2.out]; rfl]
      rw [List.append_assoc]; rfl)
     go_wp2_with fail
     go_roundw
     case rel => exact ⟨k + 1, _, rfl, by go_num, hlt, HOUT.out, HBE.out⟩
     case measure => simp [intOf]; omega
    | false =>
     have HOUT := hide (show ((out) ++ s.extract k (k + 1)).data.toList = quoteL mk (s.data.toList.take (k + 1)) from by
      rw [HSN.out, quoteL_snoc, app_toList, HX.out, HO.out, show mk b.toNat = false from by rw [HB.out]; rw [← HMK2.out]; rfl]
      rfl)
     go_wp2_with fail
     go_roundw
     case rel => exact ⟨k + 1, _, rfl, by go_num, hlt, HOUT.out, HBE.out⟩
     case measure => simp [intOf]; omega
   by_cases e123 : b.toNat = 123
   ·have hbv : (s[k]'hlt).toNat = 123 := by rw [← HBB.out]; exact e123
    have HB := hide e123
    clear e123
    cases ext with
    | true =>
     have HOUT := hide (show ((out ++ (⟨#[92]⟩ : ByteArray)) ++ s.extract k (k + 1)).data.toList = quoteL mk (s.data.toList.take (k + 1)) from by
      rw [HSN.out, quoteL_snoc, app_toList, app_toList, HX.out, HO.out, show mk b.toNat = true from by rw [HB.out]; rw [← HMK2.out]; rfl]
      rw [List.append_assoc]; rfl)
     go_wp2_with fail
     go_roundw
     case rel => exact ⟨k + 1, _, rfl, by go_num, hlt, HOUT.out, HBE.out⟩
     case measure => simp [intOf]; omega
    | false =>
     have HOUT := hide (show ((out) ++ s.extract k (k + 1)).data.toList = quoteL mk (s.data.toList.take (k + 1)) from by
      rw [HSN.out, quoteL_snoc, app_toList, HX.out, HO.out, show mk b.toNat = false from by rw [HB.out]; rw [← HMK2.out]; rfl]
      rfl)
     go_wp2_with fail
     go_roundw
     case rel => exact ⟨k + 1, _, rfl, by go_num, hlt, HOUT.out, HBE.out⟩
     case measure => simp [intOf]; omega
   by_cases e124 : b.toNat = 124
   ·have hbv : (s[k]'hlt).toNat = 124 := by rw [← HBB.out]; exact e124
    have HB := hide e124
    clear e124
    cases ext with
    | true =>
     have HOUT := hide (show ((out ++ (⟨#[92]⟩ : ByteArray)) ++ s.extract k (k + 1)).data.toList = quoteL mk (s.data.toList.take (k + 1)) from by
      rw [HSN.out, quoteL_snoc, app_toList, app_toList, HX.out, HO.out, show mk b.toNat = true from by rw [HB.out]; rw [← HMK2.out]; rfl]
      rw [List.append_assoc]; rfl)
     go_wp2_with fail
     go_roundw
     case rel => exact ⟨k + 1, _, rfl, by go_num, hlt, HOUT.out, HBE.out⟩
     case measure => simp [intOf]; omega
    | false =>
     have HOUT := hide (show ((out) ++ s.extract k (k + 1)).data.toList = quoteL mk (s.data.toList.take (k + 1)) from by
      rw [HSN.out, quoteL_snoc, app_toList, HX.out, HO.out, show mk b.toNat = false from by rw [HB.out]; rw [← HMK2.out]; rfl]
      rfl)
     go_wp2_with fail
     go_roundw
     case rel => exact ⟨k + 1, _, rfl, by go_num, hlt, HOUT.out, HBE.out⟩
     case measure => simp [intOf]; omega
   have n46 : ¬ (s[k]'hlt).toNat = 46 := by rw [← HBB.out]; exact e46
   have n91 : ¬ (s[k]'hlt).toNat = 91 := by rw [← HBB.out]; exact e91
   have n42 : ¬ (s[k]'hlt).toNat = 42 := by rw [← HBB.out]; exact e42
   have n94 : ¬ (s[k]'hlt).toNat = 94 := by rw [← HBB.out]; exact e94
   have n36 : ¬ (s[k]'hlt).toNat = 36 := by rw [← HBB.out]; exact e36
   have n92 : ¬ (s[k]'hlt).toNat = 92 := by rw [← HBB.out]; exact e92
   have n40 : ¬ (s[k]'hlt).toNat = 40 := by rw [← HBB.out]; exact e40
   have n41 : ¬ (s[k]'hlt).toNat = 41 := by rw [← HBB.out]; exact e41
   have n43 : ¬ (s[k]'hlt).toNat = 43 := by rw [← HBB.out]; exact e43
   have n63 : ¬ (s[k]'hlt).toNat = 63 := by rw [← HBB.out]; exact e63
   have n123 : ¬ (s[k]'hlt).toNat = 123 := by rw [← HBB.out]; exact e123
   have n124 : ¬ (s[k]'hlt).toNat = 124 := by rw [← HBB.out]; exact e124
   have m46 : ((((s[k]'hlt).toNat : Nat) : Int) == 46) = false := beq_eq_false_iff_ne.2 (by omega)
   have m91 : ((((s[k]'hlt).toNat : Nat) : Int) == 91) = false := beq_eq_false_iff_ne.2 (by omega)
   have m42 : ((((s[k]'hlt).toNat : Nat) : Int) == 42) = false := beq_eq_false_iff_ne.2 (by omega)
   have m94 : ((((s[k]'hlt).toNat : Nat) : Int) == 94) = false := beq_eq_false_iff_ne.2 (by omega)
   have m36 : ((((s[k]'hlt).toNat : Nat) : Int) == 36) = false := beq_eq_false_iff_ne.2 (by omega)
   have m92 : ((((s[k]'hlt).toNat : Nat) : Int) == 92) = false := beq_eq_false_iff_ne.2 (by omega)
   have m40 : ((((s[k]'hlt).toNat : Nat) : Int) == 40) = false := beq_eq_false_iff_ne.2 (by omega)
   have m41 : ((((s[k]'hlt).toNat : Nat) : Int) == 41) = false := beq_eq_false_iff_ne.2 (by omega)
   have m43 : ((((s[k]'hlt).toNat : Nat) : Int) == 43) = false := beq_eq_false_iff_ne.2 (by omega)
   have m63 : ((((s[k]'hlt).toNat : Nat) : Int) == 63) = false := beq_eq_false_iff_ne.2 (by omega)
   have m123 : ((((s[k]'hlt).toNat : Nat) : Int) == 123) = false := beq_eq_false_iff_ne.2 (by omega)
   have m124 : ((((s[k]'hlt).toNat : Nat) : Int) == 124) = false := beq_eq_false_iff_ne.2 (by omega)
   have HNM := hide (show mk b.toNat = false from by rw [← HMK2.out]; cases ext <;> simp [markE, markB, e46, e91, e42, e94, e36, e92, e40, e41, e43, e63, e123, e124])
   clear e46 e91 e42 e94 e36 e92 e40 e41 e43 e63 e123 e124
   have HOUT := hide (show (out ++ s.extract k (k + 1)).data.toList = quoteL mk (s.data.toList.take (k + 1)) from by
    rw [HSN.out, quoteL_snoc, app_toList, HX.out, HO.out, HNM.out]
    rfl)
   go_wp2_with fail
   go_roundw
   case rel => exact ⟨k + 1, _, rfl, by go_num, hlt, HOUT.out, HBE.out⟩
   case measure => simp [intOf]; omega
  ·have g1 : decide ((k : Int) < (s.size : Int)) = false := decide_eq_false (by omega)
   have he : out = quoteS mk s := by
    refine toList_data8 _ _ ?_
    rw [HO.out, show k = s.data.toList.length by rw [data_len]; omega, List.take_length]
    rfl
   have HE := hide he
   clear he
   go_wp2_with fail
   go_ret
   exact ⟨by rw [← HE.out]; rfl, HBE.out⟩
end Go.Proofs.YtpkcklpjbeginaaGreatDoor

/-! ## QuotesLaw8 -/
namespace Go.Proofs.YtpkcklpjbeginaaGreatDoor
open Go.RowKit

theorem ofInt_wrap8 (b : BitVec 64) : BitVec.ofInt 64 (IntKind.i64.wrap (b.toNat : Int)) = b := by
 have h : IntKind.i64.wrap (b.toNat : Int) = b.toInt := by
  rw [BitVec.toInt_eq_toNat_cond]
  have hb := b.isLt
  have e1 : (2 : Int) ^ 64 = 18446744073709551616 := rfl
  have e2 : (2 : Nat) ^ 64 = 18446744073709551616 := rfl
  have e3 : (2 : Int) ^ (64 - 1) = 9223372036854775808 := rfl
  simp only [IntKind.wrap, IntKind.bits, IntKind.signed, Bool.true_and, decide_eq_true_eq, ge_iff_le]
  rw [e2] at hb ⊢
  rw [e1, e3]
  by_cases h : 2 * b.toNat < 18446744073709551616
  ·rw [if_pos h, if_neg (by omega)]
   omega
  ·rw [if_neg h, if_pos (by omega)]
   omega
 rw [h, BitVec.ofInt_toInt]
theorem fl_or1 (x : Int) : ¬ bits .and .i64 (bits .or .i64 x 1) 1 = 0 := by
 show ¬ IntKind.i64.wrap ((BitVec.ofInt 64 (IntKind.i64.wrap ((BitVec.ofInt 64 x ||| BitVec.ofInt 64 1).toNat : Int)) &&& BitVec.ofInt 64 1).toNat : Int) = 0
 rw [ofInt_wrap8, show BitVec.ofInt 64 1 = BitVec.twoPow 64 0 by decide, BitVec.and_twoPow, if_pos (by simp)]
 decide
theorem fl_an1 (x : Int) : bits .and .i64 (bits .andNot .i64 x 1) 1 = 0 := by
 show IntKind.i64.wrap ((BitVec.ofInt 64 (IntKind.i64.wrap ((BitVec.ofInt 64 x &&& ~~~ (BitVec.ofInt 64 1)).toNat : Int)) &&& BitVec.ofInt 64 1).toNat : Int) = 0
 rw [ofInt_wrap8, show BitVec.ofInt 64 1 = BitVec.twoPow 64 0 by decide, BitVec.and_twoPow, if_neg (by simp)]
 decide
theorem byte_words : ∀ b : Fin 256, word b.val 0 = ((wd (fun x => decide (x = b.val)) 0 : Nat) : Int) ∧ word b.val 1 = ((wd (fun x => decide (x = b.val)) 1 : Nat) : Int) ∧ word b.val 2 = ((wd (fun x => decide (x = b.val)) 2 : Nat) : Int) ∧ word b.val 3 = ((wd (fun x => decide (x = b.val)) 3 : Nat) : Int) := by decide +kernel
theorem byte_bytT (b : UInt8) : T.byte b.toNat = bytT (oneS false b.toNat) := by
 obtain ⟨h0, h1, h2, h3⟩ := byte_words ⟨b.toNat, b.toNat_lt⟩
 unfold T.byte bytT oneS
 simp only at h0 h1 h2 h3
 rw [h0, h1, h2, h3]
 rfl
theorem texts_byL (s : ByteArray) : T.texts s = byL s.data.toList := by
 unfold T.texts byL
 exact List.map_congr_left fun b _ => byte_bytT b
mutual
theorem T.same_self8 : ∀ t : T, t.same t = true
 | .mk h l => by simp [T.same, show h.same h = true from Hd.same_iff.2 rfl, TL.same_self8 l]
theorem TL.same_self8 : ∀ l : List T, TL.same l l = true
 | [] => by simp [TL.same]
 | t :: l => by simp [TL.same, T.same_self8 t, TL.same_self8 l]
end
set_option maxRecDepth 100000 in
set_option maxHeartbeats 8000000 in
theorem spellQuotes_law (s : ByteArray) (fl : Int) (a : Nat → Addr) (m : Int) (w : World) (hB : B5 w a m) (hE : E8 w a) : Calls Tryz.prog 6 #[.string s, .int .i64 fl] w fun e w' => e = .returned (.bool true) ∧ Below w.heap.size w w' := by
 have HL := hide (lives8_true a w hE)
 have HEn := hide (fun (y : World) (hy : Below w.heap.size w y) => hE.below hy)
 have HPE := hide (fun (s : ByteArray) (y : World) (hy : Below w.heap.size w y) => show Calls Tryz.prog 21 #[.string s, .int .i64 0] y (ParseIs (parseE s false false) a y) from by
  have h2 := ereParse_any s 0 a m y (hB.below hy)
  rw [fl_zero2, fl_zero4] at h2
  exact h2)
 have HPB := hide (fun (s : ByteArray) (y : World) (hy : Below w.heap.size w y) => show Calls Tryz.prog 17 #[.string s, .int .i64 0] y (ParseIs (parseB s false false) a y) from by
  have h2 := breParse_any s 0 a m y (hB.below hy)
  rw [fl_zero2, fl_zero4] at h2
  exact h2)
 clear hB hE
 go_enter Tryz.func6, Tryz.ntmps6
 go_wp2_with fail
 refine HL.out.mono ?_
 rintro e w1 ⟨rfl, hb1⟩
 have H1 := hide hb1
 clear hb1 HL
 by_cases hbig : 3000 < s.size
 ·have g1 : decide ((3000 : Int) < (s.size : Int)) = true := decide_eq_true (by omega)
  go_wp2_with fail
  go_ret
  exact ⟨rfl, H1.out⟩
 have g1 : decide ((3000 : Int) < (s.size : Int)) = false := decide_eq_false (by omega)
 have hsz : s.size ≤ 3000 := by omega
 obtain ⟨f1, hf1⟩ : ∃ f1, f1 = bits .or .i64 fl 1 := ⟨_, rfl⟩
 obtain ⟨f2, hf2⟩ : ∃ f2, f2 = bits .andNot .i64 fl 1 := ⟨_, rfl⟩
 obtain ⟨x, hx⟩ : ∃ x, x = quoteS markE s := ⟨_, rfl⟩
 obtain ⟨y, hy⟩ : ∃ y, y = quoteS markB s := ⟨_, rfl⟩
 have HQ1 := hide (fun (z : World) => show Calls Tryz.prog 23 #[.string s, .int .i64 f1] z fun e w' => e = .returned (.string x) ∧ Below z.heap.size z w' from by
  have h := quote8_any s f1 z (by omega)
  rw [hf1, if_neg (fl_or1 fl), ← hx, ← hf1] at h
  exact h)
 have HQ2 := hide (fun (z : World) => show Calls Tryz.prog 23 #[.string s, .int .i64 f2] z fun e w' => e = .returned (.string y) ∧ Below z.heap.size z w' from by
  have h := quote8_any s f2 z (by omega)
  rw [hf2, if_pos (fl_an1 fl), ← hy, ← hf2] at h
  exact h)
 have HR1 := hide (fun (z : World) => show Calls Tryz.prog 24 #[.string s, .bool true] z fun e w' => e = .returned (.string x) ∧ Below z.heap.size z w' from by
  have h := refQuote8_any s true z (by omega)
  rw [if_pos rfl, ← hx] at h
  exact h)
 have HR2 := hide (fun (z : World) => show Calls Tryz.prog 24 #[.string s, .bool false] z fun e w' => e = .returned (.string y) ∧ Below z.heap.size z w' from by
  have h := refQuote8_any s false z (by omega)
  rw [if_neg (by decide), ← hy] at h
  exact h)
 have hle : y.size ≤ x.size := by rw [hx, hy]; exact quoteS_le s
 have HX := hide hx
 have HY := hide hy
 have HSZ := hide hsz
 have HLE := hide hle
 have hf1' := hf1.symm
 have hf2' := hf2.symm
 have sx : (x.toList != x.toList) = false := by simp
 have sy : (y.toList != y.toList) = false := by simp
 clear hbig hx hy hf1 hf2 hsz hle
 go_wp2_with fail
 refine (HQ1.out w1).mono ?_
 rintro e w2 ⟨rfl, hb2⟩
 have H2 := hide (H1.out.trans (hb2.mono H1.out.size))
 clear hb2 HQ1 g1
 go_wp2_with fail
 refine (HQ2.out w2).mono ?_
 rintro e w3 ⟨rfl, hb3⟩
 have H3 := hide (H2.out.trans (hb3.mono H2.out.size))
 clear hb3 HQ2 hf1' hf2'
 go_wp2_with fail
 refine (HR1.out w3).mono ?_
 rintro e w4 ⟨rfl, hb4⟩
 have H4 := hide (H3.out.trans (hb4.mono H3.out.size))
 clear hb4 HR1
 go_wp2_with fail
 refine (HR2.out w4).mono ?_
 rintro e w5 ⟨rfl, hb5⟩
 have H5 := hide (H4.out.trans (hb5.mono H4.out.size))
 clear hb5 HR2
 go_upto_region 8 with fail
 clear sx sy
 have HP1 := hide (HPE.out x w5 H5.out)
 by_cases hlong : 1024 < x.size
 ·have g1 : decide ((1024 : Int) < (x.size : Int)) = true := decide_eq_true (by omega)
  rw [parseE_long hlong] at HP1
  clear hlong
  go_wp2_with fail
  refine HP1.out.mono ?_
  rintro e w6 ⟨gf, rfl, hfi, hb6⟩
  have hal := (Below.refl w6.heap.size w6).alloc (Nat.le_refl _) (.cells #[.int .i64 0, .int .u64 0, .int .u64 0, .int .u64 0, .int .u64 0, .slice none 0 0, .int .i64 0, .int .i64 0, .int .i64 0, .bool false] 27)
  have hb7 := hb6.trans (hal.mono hb6.size)
  have H7 := hide (And.intro (H5.out.trans (hb7.mono H5.out.size)) (Blk.next hfi hal))
  clear hfi hb6 hal hb7 HP1
  unfold faultV zeroCells
  go_upto_region 9 with fail
  generalize (w6.alloc (.cells #[.int .i64 0, .int .u64 0, .int .u64 0, .int .u64 0, .int .u64 0, .slice none 0 0, .int .i64 0, .int .i64 0, .int .i64 0, .bool false] 27)) = w7 at *
  have HN := hide (show Calls Tryz.prog 12 #[faultV gf] w7 fun e w' => e = .returned (.int .i64 12) ∧ Below w7.heap.size w7 w' from num_fault w7 a gf 1024 11 (by decide) (HEn.out w7 H7.out.1).errs H7.out.2)
  unfold faultV at HN
  go_wp2_with fail
  refine HN.out.mono ?_
  rintro e w8 ⟨rfl, hb8⟩
  have H8 := hide (H7.out.1.trans (hb8.mono H7.out.1.size))
  clear hb8
  go_wp2_with fail
  go_ret
  exact ⟨rfl, H8.out⟩
 have g1 : decide ((1024 : Int) < (x.size : Int)) = false := decide_eq_false (by omega)
 have hxs : x.size ≤ 1024 := by omega
 have hpe := parseE_quote s false (by rw [← HX.out]; exact hxs)
 have hpb := parseB_quote s false (by rw [← HY.out]; exact Nat.le_trans HLE.out hxs)
 rw [← HX.out] at hpe
 rw [← HY.out] at hpb
 have hnd := parseE_right x false false
 rw [hpe] at hnd
 have HNt := hide hnd.2.2.2.2
 have HTx := hide (fun (z : World) => text_any s z (by have := HSZ.out; omega))
 rw [texts_byL] at HTx
 obtain ⟨t, ht⟩ : ∃ t, t = T.seq (byL s.data.toList) := ⟨_, rfl⟩
 rw [← ht] at hpe hpb HTx HNt
 rw [hpe] at HP1
 have HP2 := hide (fun (z : World) (hz : Below w.heap.size w z) => HPB.out y z hz)
 simp only [hpb] at HP2
 obtain ⟨K, hK⟩ : ∃ K : Int, K = ((0 : Nat) : Int) := ⟨_, rfl⟩
 have gK : (K == 0) = true := by rw [hK]; rfl
 have HK := hide hK
 clear hlong hpe hpb hnd ht hK
 go_wp2_with fail
 refine HP1.out.mono ?_
 rintro e w6 ⟨B, cc, rfl, hown, hb6⟩
 have hal := (Below.refl w6.heap.size w6).alloc (Nat.le_refl _) (.cells #[.int .i64 t.hd.kind, .int .u64 t.hd.s0, .int .u64 t.hd.s1, .int .u64 t.hd.s2, .int .u64 t.hd.s3, .slice B t.subs.length cc, .int .i64 t.hd.num, .int .i64 t.hd.min, .int .i64 t.hd.max, .bool t.hd.bare] 27)
 have hbb := hb6.trans (hal.mono hb6.size)
 have H7 := hide (And.intro (H5.out.trans (hbb.mono H5.out.size)) (And.intro (hown.next hal) (Blk.new w6 27 #[.int .i64 t.hd.kind, .int .u64 t.hd.s0, .int .u64 t.hd.s1, .int .u64 t.hd.s2, .int .u64 t.hd.s3, .slice B t.subs.length cc, .int .i64 t.hd.num, .int .i64 t.hd.min, .int .i64 t.hd.max, .bool t.hd.bare])))
 clear hown hb6 hal hbb HP1
 rw [← HK.out]
 simp only [Hd.cells]
 go_upto_region 9 with fail
 generalize (w6.alloc (.cells #[.int .i64 t.hd.kind, .int .u64 t.hd.s0, .int .u64 t.hd.s1, .int .u64 t.hd.s2, .int .u64 t.hd.s3, .slice B t.subs.length cc, .int .i64 t.hd.num, .int .i64 t.hd.min, .int .i64 t.hd.max, .bool t.hd.bare] 27)) = w7 at *
 generalize w6.heap.size = g7 at *
 go_wp2_with fail
 refine (HP2.out w7 H7.out.1).mono ?_
 rintro e w8 ⟨B2, c2, rfl, hown, hb8⟩
 have hal := (Below.refl w8.heap.size w8).alloc (Nat.le_refl _) (.cells #[.int .i64 t.hd.kind, .int .u64 t.hd.s0, .int .u64 t.hd.s1, .int .u64 t.hd.s2, .int .u64 t.hd.s3, .slice B2 t.subs.length c2, .int .i64 t.hd.num, .int .i64 t.hd.min, .int .i64 t.hd.max, .bool t.hd.bare] 27)
 have hbb := hb8.trans (hal.mono hb8.size)
 have HI1 := hide (show T.In (w8.alloc (.cells #[.int .i64 t.hd.kind, .int .u64 t.hd.s0, .int .u64 t.hd.s1, .int .u64 t.hd.s2, .int .u64 t.hd.s3, .slice B2 t.subs.length c2, .int .i64 t.hd.num, .int .i64 t.hd.min, .int .i64 t.hd.max, .bool t.hd.bare] 27)) (· < (w8.alloc (.cells #[.int .i64 t.hd.kind, .int .u64 t.hd.s0, .int .u64 t.hd.s1, .int .u64 t.hd.s2, .int .u64 t.hd.s3, .slice B2 t.subs.length c2, .int .i64 t.hd.num, .int .i64 t.hd.min, .int .i64 t.hd.max, .bool t.hd.bare] 27)).heap.size) t B from by
  obtain ⟨bs, h1, h2, h3⟩ := H7.out.2.1.next hbb
  exact h1.in_ fun b hb => (h3 b hb).2)
 have HI2 := hide (show T.In (w8.alloc (.cells #[.int .i64 t.hd.kind, .int .u64 t.hd.s0, .int .u64 t.hd.s1, .int .u64 t.hd.s2, .int .u64 t.hd.s3, .slice B2 t.subs.length c2, .int .i64 t.hd.num, .int .i64 t.hd.min, .int .i64 t.hd.max, .bool t.hd.bare] 27)) (· < (w8.alloc (.cells #[.int .i64 t.hd.kind, .int .u64 t.hd.s0, .int .u64 t.hd.s1, .int .u64 t.hd.s2, .int .u64 t.hd.s3, .slice B2 t.subs.length c2, .int .i64 t.hd.num, .int .i64 t.hd.min, .int .i64 t.hd.max, .bool t.hd.bare] 27)).heap.size) t B2 from by
  obtain ⟨bs, h1, h2, h3⟩ := hown.next hal
  exact h1.in_ fun b hb => (h3 b hb).2)
 have H9 := hide (And.intro (H7.out.1.trans (hbb.mono H7.out.1.size)) (And.intro (H7.out.2.2.next hbb) (Blk.new w8 27 #[.int .i64 t.hd.kind, .int .u64 t.hd.s0, .int .u64 t.hd.s1, .int .u64 t.hd.s2, .int .u64 t.hd.s3, .slice B2 t.subs.length c2, .int .i64 t.hd.num, .int .i64 t.hd.min, .int .i64 t.hd.max, .bool t.hd.bare])))
 clear hown hb8 hal hbb HP2 H7 g1
 rw [← HK.out]
 simp only [Hd.cells]
 go_upto_region 12 with fail
 generalize (w8.alloc (.cells #[.int .i64 t.hd.kind, .int .u64 t.hd.s0, .int .u64 t.hd.s1, .int .u64 t.hd.s2, .int .u64 t.hd.s3, .slice B2 t.subs.length c2, .int .i64 t.hd.num, .int .i64 t.hd.min, .int .i64 t.hd.max, .bool t.hd.bare] 27)) = w9 at *
 generalize w8.heap.size = g10 at *
 have HSm := hide (fun (z : World) (B' B'' : Option Addr) (c' c'' : Nat) (hi : T.In z (· < z.heap.size) t B') (hi2 : T.In z (· < z.heap.size) t B'') => show Calls Tryz.prog 22 #[.agg #[.int .i64 t.hd.kind, .int .u64 t.hd.s0, .int .u64 t.hd.s1, .int .u64 t.hd.s2, .int .u64 t.hd.s3, .slice B' t.subs.length c', .int .i64 t.hd.num, .int .i64 t.hd.min, .int .i64 t.hd.max, .bool t.hd.bare], .agg #[.int .i64 t.hd.kind, .int .u64 t.hd.s0, .int .u64 t.hd.s1, .int .u64 t.hd.s2, .int .u64 t.hd.s3, .slice B'' t.subs.length c'', .int .i64 t.hd.num, .int .i64 t.hd.min, .int .i64 t.hd.max, .bool t.hd.bare]] z fun e w' => e = .returned (.bool true) ∧ Below z.heap.size z w' from by
  have h1 := tsame_any 10000 t t B' B'' c' c'' z HNt.out (by decide) hi hi2
  rw [T.same_self8] at h1
  exact h1)
 have hn0 := fun w => run_eql_nil_nil_at (P := Tryz.prog) (w := w) 32 (by kernel_rfl)
 refine wp_region_mix (fun z => Below w9.heap.size w9 z) [] (by kernel_rfl) (fun hcl => ?_)
 generalize hz0 : w9.drew = z0
 have hS : Below w9.heap.size w9 z0 := by rw [← hz0]; exact (Below.refl _ _).drew
 clear hz0
 refine wpAnyT_free (i := 0) hcl rfl (by kernel_rfl) (v := ?_) (fun _ _ _ h => h) hS (Or.inl ⟨rfl, fun w' _ => ?_⟩) (fun hcl => ?_)
 rotate_left
 ·go_simp
  with_reducible rfl
 simp only [List.getElem_toArray, List.getElem_cons_zero, List.getElem_cons_succ, Act.put, List.setIfInBounds_toArray, List.set_cons_zero, List.set_cons_succ]
 refine wpAnyT_free (i := 1) hcl rfl (by kernel_rfl) (v := ?_) (fun _ _ _ h => h) hS (Or.inl ⟨rfl, fun w' _ => ?_⟩) (fun hcl => ?_)
 rotate_left
 ·go_simp
  with_reducible rfl
 simp only [List.getElem_toArray, List.getElem_cons_zero, List.getElem_cons_succ, Act.put, List.setIfInBounds_toArray, List.set_cons_zero, List.set_cons_succ]
 refine wpAnyT_free (i := 2) hcl rfl (by kernel_rfl) (v := ?_) (fun _ _ _ h => h) hS (Or.inl ⟨rfl, fun w' _ => ?_⟩) (fun hcl => ?_)
 rotate_left
 ·go_simp
  with_reducible rfl
 simp only [List.getElem_toArray, List.getElem_cons_zero, List.getElem_cons_succ, Act.put, List.setIfInBounds_toArray, List.set_cons_zero, List.set_cons_succ]
 refine wpAnyT_free (i := 3) hcl rfl (by kernel_rfl) (v := ?_) (fun _ _ _ h => h) hS (Or.inl ⟨rfl, fun w' _ => ?_⟩) (fun hcl => ?_)
 rotate_left
 ·go_simp
  with_reducible rfl
 simp only [List.getElem_toArray, List.getElem_cons_zero, List.getElem_cons_succ, Act.put, List.setIfInBounds_toArray, List.set_cons_zero, List.set_cons_succ]
 refine wpAnyT_free (i := 4) hcl rfl (by kernel_rfl) (v := ?_) (fun _ _ _ h => h) hS (Or.inl ⟨rfl, fun w' _ => ?_⟩) (fun hcl => ?_)
 rotate_left
 ·go_simp
  with_reducible rfl
 simp only [List.getElem_toArray, List.getElem_cons_zero, List.getElem_cons_succ, Act.put, List.setIfInBounds_toArray, List.set_cons_zero, List.set_cons_succ]
 refine wpAnyT_free (i := 5) hcl rfl (by kernel_rfl) (v := ?_) (fun _ _ _ h => h) hS (Or.inl ⟨rfl, fun w' _ => ?_⟩) (fun hcl => ?_)
 rotate_left
 ·go_simp
  with_reducible rfl
 simp only [List.getElem_toArray, List.getElem_cons_zero, List.getElem_cons_succ, Act.put, List.setIfInBounds_toArray, List.set_cons_zero, List.set_cons_succ]
 refine wpAnyT_free (i := 6) hcl rfl (by kernel_rfl) (v := ?_) (fun _ _ _ h => h) hS (Or.inl ⟨rfl, fun w' _ => ?_⟩) (fun hcl => ?_)
 rotate_left
 ·go_simp
  with_reducible rfl
 simp only [List.getElem_toArray, List.getElem_cons_zero, List.getElem_cons_succ, Act.put, List.setIfInBounds_toArray, List.set_cons_zero, List.set_cons_succ]
 refine wpAnyT_free (i := 7) hcl rfl (by kernel_rfl) (v := ?_) (fun _ _ _ h => h) hS (Or.inl ⟨rfl, fun w' _ => ?_⟩) (fun hcl => ?_)
 rotate_left
 ·go_simp
  with_reducible rfl
 simp only [List.getElem_toArray, List.getElem_cons_zero, List.getElem_cons_succ, Act.put, List.setIfInBounds_toArray, List.set_cons_zero, List.set_cons_succ]
 refine wpAnyT_free (i := 8) hcl rfl (by kernel_rfl) (v := ?_) (fun _ _ _ h => h) hS (Or.inl ⟨rfl, fun w' _ => ?_⟩) (fun hcl => ?_)
 rotate_left
 ·go_simp
  with_reducible rfl
 simp only [List.getElem_toArray, List.getElem_cons_zero, List.getElem_cons_succ, Act.put, List.setIfInBounds_toArray, List.set_cons_zero, List.set_cons_succ]
 refine wpAnyT_free (i := 9) hcl rfl (by kernel_rfl) (v := ?_) (fun _ _ _ h => h) hS (Or.inl ⟨rfl, fun w' _ => ?_⟩) (fun hcl => ?_)
 rotate_left
 ·go_simp
  with_reducible rfl
 simp only [List.getElem_toArray, List.getElem_cons_zero, List.getElem_cons_succ, Act.put, List.setIfInBounds_toArray, List.set_cons_zero, List.set_cons_succ]
 refine wpAnyT_free (i := 10) hcl rfl (by kernel_rfl) (v := ?_) (fun _ _ _ h => h) hS (Or.inl ⟨rfl, fun w' _ => ?_⟩) (fun hcl => ?_)
 rotate_left
 ·go_simp
  with_reducible rfl
 simp only [List.getElem_toArray, List.getElem_cons_zero, List.getElem_cons_succ, Act.put, List.setIfInBounds_toArray, List.set_cons_zero, List.set_cons_succ]
 refine wpAnyT_free (i := 11) hcl rfl (by kernel_rfl) (v := ?_) (fun _ _ _ h => h) hS (Or.inl ⟨rfl, fun w' _ => ?_⟩) (fun hcl => ?_)
 rotate_left
 ·go_simp
  with_reducible rfl
 simp only [List.getElem_toArray, List.getElem_cons_zero, List.getElem_cons_succ, Act.put, List.setIfInBounds_toArray, List.set_cons_zero, List.set_cons_succ]
 refine wpAnyT_free (i := 12) hcl rfl (by kernel_rfl) (v := ?_) (fun _ _ _ h => h) hS (Or.inl ⟨rfl, fun w' _ => ?_⟩) (fun hcl => ?_)
 rotate_left
 ·go_simp
  with_reducible rfl
 simp only [List.getElem_toArray, List.getElem_cons_zero, List.getElem_cons_succ, Act.put, List.setIfInBounds_toArray, List.set_cons_zero, List.set_cons_succ]
 refine wpAnyT_free (i := 13) hcl rfl (by kernel_rfl) (v := ?_) (fun _ _ _ h => h) hS (Or.inl ⟨rfl, fun w' _ => ?_⟩) (fun hcl => ?_)
 rotate_left
 ·go_simp
  with_reducible rfl
 simp only [List.getElem_toArray, List.getElem_cons_zero, List.getElem_cons_succ, Act.put, List.setIfInBounds_toArray, List.set_cons_zero, List.set_cons_succ]
 refine wpAnyT_free (i := 14) hcl rfl (by kernel_rfl) (v := ?_) (fun _ _ _ h => h) hS (Or.inl ⟨rfl, fun w' _ => ?_⟩) (fun hcl => ?_)
 rotate_left
 ·go_simp
  with_reducible rfl
 simp only [List.getElem_toArray, List.getElem_cons_zero, List.getElem_cons_succ, Act.put, List.setIfInBounds_toArray, List.set_cons_zero, List.set_cons_succ]
 refine wpAnyT_take (i := 15) hcl rfl (by kernel_rfl) (v := ?_) (fun _ _ _ h => h) hS (Or.inl ⟨rfl, fun w' hS => ?_⟩) (fun hcl => ?_)
 rotate_left
 ·skip
  have cr : ∀ i : Nat, _ = _ := (H9.out.2.1.next hS).cell
  go_simp
  with_reducible rfl
 simp only [List.getElem_toArray, List.getElem_cons_zero, List.getElem_cons_succ, Act.put, List.setIfInBounds_toArray, List.set_cons_zero, List.set_cons_succ]
 refine wpAnyT_free (i := 16) hcl rfl (by kernel_rfl) (v := ?_) (fun _ _ _ h => h) hS (Or.inl ⟨rfl, fun w' _ => ?_⟩) (fun hcl => ?_)
 rotate_left
 ·go_simp
  with_reducible rfl
 simp only [List.getElem_toArray, List.getElem_cons_zero, List.getElem_cons_succ, Act.put, List.setIfInBounds_toArray, List.set_cons_zero, List.set_cons_succ]
 refine wpAnyT_step (i := 17) hcl rfl (by kernel_rfl) (fun hcl => ?_)
 simp only [List.getElem_toArray, List.getElem_cons_zero, List.getElem_cons_succ, Act.put, List.setIfInBounds_toArray, List.set_cons_zero, List.set_cons_succ]
 go_wp2_with fail
 refine (HTx.out z0).mono ?_
 rintro e z1 ⟨B3, c3, bs, rfl, hown3, hnd3, hbs3, hb3⟩
 have hS1 := hS.trans (hb3.mono hS.size)
 have HI3 := hide (show T.In z1 (· < z1.heap.size) t B3 from hown3.in_ fun b hb => (hbs3 b hb).2)
 clear hown3 hnd3 hbs3 hb3 hS
 simp only [Hd.cells]
 go_wp2_with fail
 refine ⟨hS1, ?_⟩
 have hS := hS1
 clear hS1
 refine wpAnyT_step (i := 18) hcl rfl (by kernel_rfl) (fun hcl => ?_)
 simp only [List.getElem_toArray, List.getElem_cons_zero, List.getElem_cons_succ, Act.put, List.setIfInBounds_toArray, List.set_cons_zero, List.set_cons_succ]
 go_wp2_with fail
 refine (HSm.out z1 B B3 cc c3 (HI1.out.next hS) HI3.out).mono ?_
 rintro e z2 ⟨rfl, hb4⟩
 have hS2 := hS.trans (hb4.mono hS.size)
 clear hS hb4 HI3
 go_wp2_with fail
 refine ⟨hS2, ?_⟩
 have hS := hS2
 clear hS2
 refine wpAnyT_free (i := 19) hcl rfl (by kernel_rfl) (v := ?_) (fun _ _ _ h => h) hS (Or.inl ⟨rfl, fun w' _ => ?_⟩) (fun hcl => ?_)
 rotate_left
 ·go_simp
  with_reducible rfl
 simp only [List.getElem_toArray, List.getElem_cons_zero, List.getElem_cons_succ, Act.put, List.setIfInBounds_toArray, List.set_cons_zero, List.set_cons_succ]
 refine wpAnyT_free (i := 20) hcl rfl (by kernel_rfl) (v := ?_) (fun _ _ _ h => h) hS (Or.inl ⟨rfl, fun w' _ => ?_⟩) (fun hcl => ?_)
 rotate_left
 ·go_simp
  with_reducible rfl
 simp only [List.getElem_toArray, List.getElem_cons_zero, List.getElem_cons_succ, Act.put, List.setIfInBounds_toArray, List.set_cons_zero, List.set_cons_succ]
 refine wpAnyT_take (i := 21) hcl rfl (by kernel_rfl) (v := ?_) (fun _ _ _ h => h) hS (Or.inl ⟨rfl, fun w' hS => ?_⟩) (fun hcl => ?_)
 rotate_left
 ·skip
  have cr : ∀ i : Nat, _ = _ := (H9.out.2.2.next hS).cell
  go_simp
  with_reducible rfl
 simp only [List.getElem_toArray, List.getElem_cons_zero, List.getElem_cons_succ, Act.put, List.setIfInBounds_toArray, List.set_cons_zero, List.set_cons_succ]
 refine wpAnyT_take (i := 22) hcl rfl (by kernel_rfl) (v := ?_) (fun _ _ _ h => h) hS (Or.inl ⟨rfl, fun w' hS => ?_⟩) (fun hcl => ?_)
 rotate_left
 ·skip
  have cr : ∀ i : Nat, _ = _ := (H9.out.2.1.next hS).cell
  go_simp
  with_reducible rfl
 simp only [List.getElem_toArray, List.getElem_cons_zero, List.getElem_cons_succ, Act.put, List.setIfInBounds_toArray, List.set_cons_zero, List.set_cons_succ]
 refine wpAnyT_step (i := 23) hcl rfl (by kernel_rfl) (fun hcl => ?_)
 simp only [List.getElem_toArray, List.getElem_cons_zero, List.getElem_cons_succ, Act.put, List.setIfInBounds_toArray, List.set_cons_zero, List.set_cons_succ]
 go_wp2_with fail
 refine (HSm.out z2 B2 B c2 cc (HI2.out.next hS) (HI1.out.next hS)).mono ?_
 rintro e z3 ⟨rfl, hb5⟩
 have hS3 := hS.trans (hb5.mono hS.size)
 clear hS hb5
 go_wp2_with fail
 refine ⟨hS3, ?_⟩
 have hS := hS3
 clear hS3
 refine wpAnyT_free (i := 24) hcl rfl (by kernel_rfl) (v := ?_) (fun _ _ _ h => h) hS (Or.inl ⟨rfl, fun w' _ => ?_⟩) (fun hcl => ?_)
 rotate_left
 ·go_simp
  with_reducible rfl
 simp only [List.getElem_toArray, List.getElem_cons_zero, List.getElem_cons_succ, Act.put, List.setIfInBounds_toArray, List.set_cons_zero, List.set_cons_succ]
 refine wpAnyT_free (i := 25) hcl rfl (by kernel_rfl) (v := ?_) (fun _ _ _ h => h) hS (Or.inl ⟨rfl, fun w' _ => ?_⟩) (fun hcl => ?_)
 rotate_left
 ·go_simp
  with_reducible rfl
 simp only [List.getElem_toArray, List.getElem_cons_zero, List.getElem_cons_succ, Act.put, List.setIfInBounds_toArray, List.set_cons_zero, List.set_cons_succ]
 refine wpAnyT_done (by kernel_rfl) ?_ _
 have Hf := hide (H9.out.1.trans (hS.mono H9.out.1.size))
 clear hS
 go_wp2_with fail
 go_ret
 exact ⟨rfl, Hf.out⟩
end Go.Proofs.YtpkcklpjbeginaaGreatDoor

/-! ## SpellQuotesProof -/
namespace Go.Proofs.YtpkcklpjbeginaaGreatDoor
open Go.ChangeShapes Go.WideShapes Go.ChangeAt Go.RowKit

theorem own : ownKnob Tryz.prog.godebug = none := by kernel_rfl
theorem laidOut : laidOutB Tryz.prog = true := by kernel_rfl
theorem star : ("*" ++ "errors.errorString" : String) = "*errors.errorString" := by decide
theorem rowE (u : TypeId) (h : Tryz.prog.typeName? 3 u = some "*errors.errorString") : u = 211 :=
 typeName_ptr_named (nm := "errors.errorString") (by rw [star]; kernel_rfl) (by kernel_rfl) (by decide) u (by rw [star]; exact h)
theorem glob : ((List.range 21).all fun g => (Tryz.prog.globals[g]?).map (·.type) == some 32) = true := by kernel_rfl
theorem tab8_of_met {l : List (String × DataW Unit)} {W : World} (h : laidMet Tryz.prog l W)
  (hm : ("internal/strconv.uint64pow10", (Lib.tabData .u64 Lib.pow10Tab : DataW Unit)) ∈ l) : Tab8 W := by
 obtain ⟨g, t, cs, fuel, p, h1, h2, h3, h4⟩ := Lib.laidMet.reads h hm
 obtain rfl : g = 24 := Option.some.inj (h1.symm.trans (show Tryz.prog.globalNamed "internal/strconv.uint64pow10" = some 24 by kernel_rfl))
 obtain rfl : t = 203 := Option.some.inj (h2.symm.trans (show (Tryz.prog.globals[24]?).map (·.type) = some 203 by kernel_rfl))
 unfold Tab8 Lib.TabIs
 rw [h3, ← Lib.cells_of_tab Tryz.underlying203 Tryz.underlying22 (by kernel_rfl) (by kernel_rfl) h4]

theorem env_of_laid {W : World} (h : laidMetH Tryz.prog Rows.spellQuotesRow.laid W) : ∃ a, E8 W a := by
 rw [Go.MakeChecks.laidMetH_plain Tryz.prog Rows.spellQuotesRow.laid W (by kernel_rfl)] at h
 have ht := tab_of_met h (by simp only [Rows.spellQuotesRow, Rows.laid_math_bits_deBruijn64tab]; exact List.mem_of_getElem? (i := 1) rfl)
 have ht8 := tab8_of_met h (by simp only [Rows.spellQuotesRow, Rows.laid_internal_strconv_uint64pow10]; exact List.mem_of_getElem? (i := 2) rfl)
 obtain ⟨a, ha⟩ := errs_of_some (fun x => !(x.1 == "math/bits.deBruijn64tab" || x.1 == "math/bits.deBruijn32tab" || x.1 == "internal/strconv.uint64pow10")) h (by
  intro x hx hpr
  have hx' := hx
  simp only [Rows.spellQuotesRow, List.mem_cons, List.not_mem_nil, or_false] at hx'
  rcases hx' with e | e | e | e | e | e | e | e | e | e | e | e | e | e | e | e | e | e | e | e | e | e | e | e <;> subst e <;> first | exact ⟨_, rfl⟩ | exact absurd hpr (by decide)) rowE (by kernel_rfl) (fun g hg => by
   have := List.all_eq_true.1 glob g (by simpa using hg)
   simpa using this)
 exact ⟨a, ha, ht, ht8⟩

theorem door_met (os : Os) (args : Array Value) : laidMetH Tryz.prog Rows.spellQuotesRow.laid ((World.doorLaid Tryz.prog 420 os).forCall (fun _ _ => 0) ⟨#[], args, []⟩).memory :=
 laidMetH_of_parts3 (fuel := 8) (laidMet_of_run' 8 (by kernel_rfl) (by kernel_rfl)) (by kernel_rfl) (by kernel_rfl)

set_option maxRecDepth 100000 in
theorem contract (H : Type) (enc : TypeId × Value → H) (W : World) (base : Nat) (args : Array Value) (ds gs : List (DataW H)) (before : List MemPlace)
  (hval0 : ∀ (j : Nat) t v, Tryz.f6.params[j]? = some t → args[j]? = some v → Value.okWide Tryz.prog W .any base t v)
  (hW : DataW.Whole enc Tryz.prog Tryz.f6.params.toList Rows.spellQuotesSpec.vars false W args.toList ds gs before) (hL : laidMetH Tryz.prog Rows.spellQuotesRow.laid W) (hsh : W.ShapedOpen Tryz.prog) :
  Calls Tryz.prog 6 args W fun e W' => ∃ v, e = .returned v ∧ Rows.spellQuotesSpec.post enc Tryz.prog Tryz.f6 false true false false W args v W' := by
 have hval : ∀ (j : Nat) t v, Tryz.f6.params[j]? = some t → args[j]? = some v → Value.okWide Tryz.prog W .any base t v := hval0
 have hW' := hW
 obtain ⟨p, q, hA0, hV, rfl, hfz, hnd⟩ := hW
 have hA : DataW.TrodAll enc Tryz.prog W 0 (fun _ => true) true Tryz.f6.params.toList args.toList ds p := hA0
 rw [Tryz.params6] at hA hval
 obtain ⟨v0, vs0, d0, ds0, p0, q0, e0, rfl, rfl, h0, r0⟩ := trodAll_cons hA
 obtain ⟨v1, vs1, d1, ds1, p1, q1, e1, rfl, rfl, h1, r1⟩ := trodAll_cons r0
 obtain ⟨rfl, rfl, rfl⟩ := trodAll_nil r1
 subst e1
 obtain rfl : args = #[v0, v1] := by cases args; simp_all
 obtain ⟨rfl, rfl⟩ := trodVars_none hV
 have k0 := h0
 have lt0 : ∀ x ∈ p0, x.block < W.heap.size := by obtain ⟨m, hm⟩ := k0; exact DataW.trod_lt m _ _ _ hm
 have k1 := h1
 have lt1 : ∀ x ∈ p1, x.block < W.heap.size := by obtain ⟨m, hm⟩ := k1; exact DataW.trod_lt m _ _ _ hm
 obtain ⟨s0, e0, f0, hs0⟩ : ∃ s : ByteArray, v0 = .string s ∧ d0 = .lit (.string s.data.toList) ∧ s.size ≤ maxLen := by
  obtain ⟨s, e, f, _, hw⟩ := Go.ChangeMaps.open_string Tryz.underlying9 (hval 0 9 v0 rfl rfl) h0
  exact ⟨s, e, f, hw⟩
 subst e0
 obtain ⟨n1, e1, hn1⟩ : ∃ n : Int, v1 = .int .i64 n ∧ IsI64 n := by
  obtain ⟨n, e, _, _, hw⟩ := open_int Tryz.underlying3 (hval 1 3 v1 rfl rfl) h1
  exact ⟨n, e, bounds_i64 hw⟩
 subst e1
 obtain ⟨a, hE⟩ := env_of_laid hL
 obtain ⟨m, hm⟩ := maxLen_int hsh
 clear hA0 hval0 hval hA
 refine (spellQuotes_law s0 n1 a m W ⟨hE.errs, hm⟩ hE).mono fun e W' ⟨he, bel⟩ => ?_
 subst he
 exact ⟨_, rfl, _, _, _, [], _, [], hW', trodAll_mk1 (shut_bool Tryz.underlying4 _), (trodAll_cons_mk (Below.trod laidOut (by kernel_rfl) (of_decide_eq_true (by kernel_rfl)) k0 bel lt0) (trodAll_cons_mk (Below.trod laidOut (by kernel_rfl) (of_decide_eq_true (by kernel_rfl)) k1 bel lt1) trodAll_mk0)), rfl, bel.frame _, fun h => by cases h⟩

theorem reads (os : Os) {H : Type} (enc : TypeId × Value → H) : ∃ places, DataW.whole enc Tryz.prog ((World.doorLaid Tryz.prog 420 os).forCall (fun _ _ => 0) ⟨#[], #[.string ⟨#[]⟩, .int .i64 0], []⟩).memory Tryz.f6.params.toList Rows.spellQuotesSpec.vars false #[.string ⟨#[]⟩, .int .i64 0].toList 8 = some ([.lit (.string []), .lit (.int .i64 0)], [], places) :=
 ⟨[], by kernel_rfl⟩

theorem witness (os : Os) (H : Type) (enc : TypeId × Value → H) : ∃ (w : World) (tape : Tape) (i : Input), w.os = os ∧ (w.forCall tape i).Shaped Tryz.checked.prog ∧ i.vars = [] ∧ Input.okWide Tryz.checked.prog (w.forCall tape i) .any w.heap.size 6 i ∧
   ((OpenSpec.ofChange Rows.spellQuotesSpec).preRow enc Tryz.checked.prog Tryz.f6 Rows.spellQuotesRow.domain false Rows.spellQuotesRow.laid (w.forCall tape i).memory i.args ∧ ({} : Assume).holds Tryz.checked.prog (lone (Frame.enter Tryz.checked.prog 6 i.args .normal) [] (w.forCall tape i))) := by
 obtain ⟨places, hx⟩ := reads os enc
 have hok : Input.okWideB Tryz.checked.prog ((World.doorLaid Tryz.prog 420 os).forCall (fun _ _ => 0) ⟨#[], #[.string ⟨#[]⟩, .int .i64 0], []⟩) 6 ⟨#[], #[.string ⟨#[]⟩, .int .i64 0], []⟩ = true := by kernel_rfl
 refine ⟨World.doorLaid Tryz.prog 420 os, fun _ _ => 0, ⟨#[], #[.string ⟨#[]⟩, .int .i64 0], []⟩, rfl, World.shaped_of_RefB (by kernel_rfl) (by kernel_rfl), (Input.okWide_of_okWideB (base := 0) hok).1, (Input.okWide_of_okWideB hok).2, OpenSpec.preRow_of_cond 8 hx (by kernel_rfl) (fun k hk => by cases hk) (by kernel_rfl) (door_met os _), ?_⟩
 simp only [Assume.holds]
 exact ⟨by simp, by simp, fun _ => Modest.zero, by simp, by simp⟩

set_option maxRecDepth 100000 in
theorem lifted (os : Os) (started : os.Started) (H : Type) (enc : TypeId × Value → H) (F : Stop.Interp) :
  ReturnsInHanded {} Tryz.checked os 6 .any ((OpenSpec.ofChange Rows.spellQuotesSpec).preRow enc Tryz.prog Tryz.f6 Rows.spellQuotesRow.domain false Rows.spellQuotesRow.laid) (((OpenSpec.ofChange Rows.spellQuotesSpec).at F).post enc Tryz.prog Tryz.f6 false true false false) := by
 refine returnsInHanded_of_row (C := Tryz.checked) (s := (OpenSpec.ofChange Rows.spellQuotesSpec)) own started (by kernel_rfl) Tryz.func6 (witness os H enc) ?_
 intro W base args ds gs before hval hW _ hcond _ hL hsh _
 exact contract H enc W base args ds gs before hval hW hL hsh

theorem said : Rows.SpellQuotesSaid :=
 OpenClaim.holds_of_cond 6 Tryz.f6 rfl rfl rfl rfl rfl rfl rfl ⟨rfl, rfl, rfl, rfl, rfl⟩ rfl rfl rfl rfl rfl (by kernel_rfl) Tryz.func6 (by kernel_rfl)
  (of_decide_eq_true (by kernel_rfl)) (by unfold Func.isWrapper; first | (rw [if_pos (by decide +kernel)]; kernel_rfl) | (rw [if_neg (by decide +kernel)]; exact ⟨rfl, rfl⟩))
  (fun os started H enc _ F => by rw [OpenClaim.pre_eq_preRow]; exact lifted os started H enc F)

theorem plain (f : FuncId) (fn : Func) (hf : Tryz.pinned.checked.prog.funcNamed "trawl/trawllaw08.SpellQuotes" = some f) (hfn : Tryz.pinned.checked.prog.funcs[f]? = some fn) :
  true = Tryz.pinned.checked.prog.looks [] ∧ ∀ (j : Nat) t, fn.params[j]? = some t → Tryz.pinned.checked.prog.wantsStandIn t = false := by
 obtain rfl : f = 6 := Option.some.inj ((show Tryz.prog.funcNamed "trawl/trawllaw08.SpellQuotes" = some 6 by kernel_rfl).symm.trans hf) |>.symm
 obtain rfl : fn = Tryz.f6 := (Option.some.inj (Tryz.func6.symm.trans hfn)).symm
 refine ⟨by kernel_rfl, fun j t ht => ?_⟩
 rw [Tryz.params6] at ht
 have hm := Array.mem_of_getElem? ht
 simp only [List.mem_toArray, List.mem_cons, List.not_mem_nil, or_false] at hm
 rcases hm with rfl | rfl
 ·exact (show Tryz.prog.wantsStandIn 9 = false by kernel_rfl)
 ·exact (show Tryz.prog.wantsStandIn 3 = false by kernel_rfl)

theorem spellQuotes_holds : Rows.SpellQuotesCardSaid :=
 Claim7.holds_tied_plain_at .later [] _ _ _ _ said (fun _ h => by cases h) (by kernel_rfl) (fun _ h => by cases h) spellQuotes_row_tie rfl ⟨rfl, rfl⟩ (by kernel_rfl) rfl plain (by kernel_rfl)
#print axioms spellQuotes_holds
end Go.Proofs.YtpkcklpjbeginaaGreatDoor
