/- Strs6: strings.Cut, strings.HasPrefix: their contracts off the shelf. (Printed by gen_strs6.py.)
Ere6a: ere's small functions: number, counts, fail, next, one, repeat. (Printed by gen_ere6a.py.)
Ere6b: ere: one (a byte with its other case), repeat (what stands behind an atom). (Printed by gen_ere6b.py.)
Ere6c: ere: atom. (Printed by gen_ere6c.py.) -/
import Derived.Test.YtpkcklpjbeginaaGreatDoorProg
import Derived.Test.YtpkcklpjbeginaaGreatDoorWords
import Derived.Shelf.Small.Strs
import Derived.Shelf.Strings.Cut
import Derived.Shelf.Strings.Prefix
import Derived.Test.YtpkcklpjbeginaaGreatDoorEreP
import Derived.Deep.DeepCutAuto
import Derived.StillTailTactics
import Derived.Deep.QuietTactic
import Derived.BigQuiet
set_option linter.unusedSimpArgs false
set_option linter.unusedVariables false
set_option linter.unnecessarySimpa false

/-! ## Strs6 -/
namespace Go.Proofs.YtpkcklpjbeginaaGreatDoor
open Go.RowKit

def strRen6 : Go.Shelf.Ren := ⟨fun | 99 => 106 | 145 => 133 | 206 => 129 | 217 => 86 | 219 => 169 | 220 => 151 | 224 => 183 | 225 => 182 | 266 => 118 | 267 => 184 | 314 => 186 | n => n, fun | 3 => 3 | 4 => 4 | 5 => 5 | 9 => 9 | 46 => 92 | 51 => 204 | 59 => 171 | 146 => 208 | n => n, fun | 1 => 22 | n => n⟩
theorem cutLays6 : Lays.n145 Tryz.prog strRen6 where
  mixed := by kernel_rfl
  f145 := Tryz.func133.trans (congrArg some (by kernel_rfl))
  f217 := Tryz.func86.trans (congrArg some (by kernel_rfl))
  f219 := Tryz.func169.trans (congrArg some (by kernel_rfl))
  f220 := Tryz.func151.trans (congrArg some (by kernel_rfl))
  f224 := Tryz.func183.trans (congrArg some (by kernel_rfl))
  f225 := Tryz.func182.trans (congrArg some (by kernel_rfl))
  f266 := Tryz.func118.trans (congrArg some (by kernel_rfl))
  f267 := Tryz.func184.trans (congrArg some (by kernel_rfl))
  f314 := Tryz.func186.trans (congrArg some (by kernel_rfl))
  t3 := Tryz.underlying3
  a3 := Tryz.isAgg3
  z3 := Tryz.sizeOf3
  v3 := Tryz.zeroValue3
  t4 := Tryz.underlying4
  a4 := Tryz.isAgg4
  z4 := Tryz.sizeOf4
  v4 := Tryz.zeroValue4
  t5 := Tryz.underlying5
  a5 := Tryz.isAgg5
  z5 := Tryz.sizeOf5
  v5 := Tryz.zeroValue5
  t9 := Tryz.underlying9
  a9 := Tryz.isAgg9
  z9 := Tryz.sizeOf9
  v9 := Tryz.zeroValue9
  t46 := Tryz.underlying92
  a46 := Tryz.isAgg92
  z46 := Tryz.sizeOf92
  v46 := Tryz.zeroValue92
  t51 := Tryz.underlying204
  a51 := Tryz.isAgg204
  z51 := Tryz.sizeOf204
  v51 := Tryz.zeroValue204
  t59 := Tryz.underlying171
  a59 := Tryz.isAgg171
  z59 := Tryz.sizeOf171
  v59 := Tryz.zeroValue171
  t146 := Tryz.underlying208
  a146 := Tryz.isAgg208
  z146 := Tryz.sizeOf208
  v146 := Tryz.zeroValue208
  g1 := by kernel_rfl
theorem preLays6 : Lays.n99 Tryz.prog strRen6 where
  mixed := by kernel_rfl
  f99 := Tryz.func106.trans (congrArg some (by kernel_rfl))
  f206 := Tryz.func129.trans (congrArg some (by kernel_rfl))
  t3 := Tryz.underlying3
  a3 := Tryz.isAgg3
  z3 := Tryz.sizeOf3
  v3 := Tryz.zeroValue3
  t4 := Tryz.underlying4
  a4 := Tryz.isAgg4
  z4 := Tryz.sizeOf4
  v4 := Tryz.zeroValue4
  t9 := Tryz.underlying9
  a9 := Tryz.isAgg9
  z9 := Tryz.sizeOf9
  v9 := Tryz.zeroValue9

theorem cut6_any (s sep : ByteArray) (m : Int) (w : World) (hs : s.size < 4294967281) (hm : w.cell? ⟨22, 0, none⟩ = some (.int .i64 m)) :
    Calls Tryz.prog 133 #[.string s, .string sep] w fun e w' => e = .returned (.tuple #[.string ⟨(Lib.cut s.data.toList sep.data.toList).1.toArray⟩, .string ⟨(Lib.cut s.data.toList sep.data.toList).2.1.toArray⟩, .bool (Lib.cut s.data.toList sep.data.toList).2.2]) ∧ ∃ n, w' = w.drewN n := Any.strings_Cut cutLays6 s sep m w hs hm
theorem hasPre6_any (s p : ByteArray) (w : World) :
    Calls Tryz.prog 106 #[.string s, .string p] w fun e w' => e = .returned (.bool (Lib.hasPrefix s.data.toList p.data.toList)) ∧ w' = w := Any.strings_HasPrefix preLays6 s p w
end Go.Proofs.YtpkcklpjbeginaaGreatDoor

/-! ## Ere6a -/
namespace Go.Proofs.YtpkcklpjbeginaaGreatDoor
open Go.RowKit

/-- What number answers. -/
def numV (s : ByteArray) : Nat := (if s.size < 1 ∨ 3 < s.size then none else numF s s.size 0 0).getD 0
theorem numV_of {s : ByteArray} {k : Nat} (h : numP s = some k) : numV s = k := by
  unfold numP at h
  unfold numV
  split at h
  · cases h
  · rename_i hc
    rw [if_neg hc]
    split at h
    · cases h
    · rename_i n hn
      rw [hn]
      split at h
      · exact Option.some.inj h
      · cases h
def NumIs (s : ByteArray) (w : World) (e : Ending) (w' : World) : Prop := e = .returned (.tuple #[.int .i64 (numV s : Int), .bool (numP s).isSome]) ∧ Below w.heap.size w w'
theorem numF_end {s : ByteArray} {i n : Nat} (h : i = s.size) : numF s (s.size - i) i n = some n := by rw [h, Nat.sub_self]; rfl
theorem numF_step {s : ByteArray} {i n : Nat} (h : i < s.size) : numF s (s.size - i) i n = if 48 ≤ pb s i ∧ pb s i ≤ 57 then numF s (s.size - (i + 1)) (i + 1) (10 * n + (pb s i - 48)) else none := by
  rw [show s.size - i = (s.size - (i + 1)) + 1 by omega, numF]
set_option maxRecDepth 100000 in
set_option maxHeartbeats 1000000 in
theorem ereNumber_any (s : ByteArray) (w : World) : Calls Tryz.prog 175 #[.string s] w (NumIs s w) := by
  by_cases hbig : s.size < 1 ∨ 3 < s.size
  · have HN := hide (show numP s = none ∧ numV s = 0 from ⟨by unfold numP; rw [if_pos hbig], by unfold numV; rw [if_pos hbig]; rfl⟩)
    rcases hbig with h | h
    · have h1 : decide ((s.size : Int) < 1) = true := decide_eq_true (by omega)
      go_enter Tryz.func175, Tryz.ntmps175
      go_wp2_with fail
      go_ret2
      exact ⟨by rw [HN.out.1, HN.out.2]; rfl, Below.refl _ _⟩
    · have h1 : decide ((s.size : Int) < 1) = false := decide_eq_false (by omega)
      have h2 : decide ((3 : Int) < (s.size : Int)) = true := decide_eq_true (by omega)
      go_enter Tryz.func175, Tryz.ntmps175
      go_wp2_with fail
      go_ret2
      exact ⟨by rw [HN.out.1, HN.out.2]; rfl, Below.refl _ _⟩
  · have h1 : ¬ (s.size : Int) < 1 := by omega
    have h2 : ¬ (3 : Int) < (s.size : Int) := by omega
    have h3 : s.size ≤ 3 := by omega
    have HN := hide (show numP s = (match numF s (s.size - 0) 0 0 with | none => none | some n => if n ≤ 255 then some n else none) from by unfold numP; rw [if_neg hbig]; rfl)
    have HN2 := hide (show numV s = (numF s (s.size - 0) 0 0).getD 0 from by unfold numV; rw [if_neg hbig]; rfl)
    clear hbig
    go_enter Tryz.func175, Tryz.ntmps175
    go_wp2_with fail
    go_loopw [4, 16] (fun nv kv wr => ∃ k n : Nat, kv = .int .i64 (k : Int) ∧ nv = .int .i64 (n : Int) ∧ k ≤ s.size ∧ n ≤ 1000 * k ∧ n ≤ 999 ∧ (k ≤ 2 → n ≤ 99) ∧ (k ≤ 1 → n ≤ 9) ∧ (k = 0 → n = 0) ∧ numF s (s.size - k) k n = numF s (s.size - 0) 0 0 ∧ Below w.heap.size w wr) (fun _ kv _ => s.size - (intOf kv).toNat)
    case atStart => exact ⟨0, 0, rfl, rfl, Nat.zero_le _, by omega, by omega, fun _ => by omega, fun _ => by omega, fun _ => rfl, rfl, Below.refl _ _⟩
    case round =>
      obtain ⟨k, n, rfl, rfl, hk, hn0, hn1, hn2, hn3, hn4, hnum, hb⟩ := hrel
      have HB := hide hb
      clear hb
      by_cases hlt : k < s.size
      case neg =>
        have g1 : decide ((k : Int) < (s.size : Int)) = false := decide_eq_false (by omega)
        have HV := hide (show numP s = if n ≤ 255 then some n else none from by rw [HN.out, ← hnum, numF_end (by omega)])
        have HV2 := hide (show numV s = n from by rw [HN2.out, ← hnum, numF_end (by omega)]; rfl)
        clear hnum
        by_cases hbd : n ≤ 255
        · have g2 : decide ((n : Int) ≤ 255) = true := decide_eq_true (by omega)
          have HW := hide (HV.out.trans (if_pos hbd))
          go_wp2_with fail
          go_ret2
          exact ⟨by rw [HW.out, HV2.out]; rfl, HB.out⟩
        · have g2 : decide ((n : Int) ≤ 255) = false := decide_eq_false (by omega)
          have HW := hide (HV.out.trans (if_neg hbd))
          go_wp2_with fail
          go_ret2
          exact ⟨by rw [HW.out, HV2.out]; rfl, HB.out⟩
      case pos =>
        have g1 : decide ((k : Int) < (s.size : Int)) = true := decide_eq_true (by omega)
        have hst := hnum.symm.trans (numF_step hlt)
        rw [pb_at hlt] at hst
        have hc := (s[k]'hlt).toNat_lt
        obtain ⟨b, hb⟩ : ∃ b, b = (s[k]'hlt).toNat := ⟨_, rfl⟩
        rw [← hb] at hst hc
        have HS := hide hst
        clear hst hnum
        by_cases c1 : b < 48
        · have g2 : (s[k]'hlt).toNat < 48 := by omega
          have HW := hide (show numP s = none ∧ numV s = 0 from ⟨by rw [HN.out, HS.out, if_neg (by omega)], by rw [HN2.out, HS.out, if_neg (by omega)]; rfl⟩)
          clear hb
          go_wp2_with fail
          go_ret2
          exact ⟨by rw [HW.out.1, HW.out.2]; rfl, HB.out⟩
        · by_cases c2 : 57 < b
          · have g2 : ¬ (s[k]'hlt).toNat < 48 := by omega
            have g3 : 57 < (s[k]'hlt).toNat := by omega
            have HW := hide (show numP s = none ∧ numV s = 0 from ⟨by rw [HN.out, HS.out, if_neg (by omega)], by rw [HN2.out, HS.out, if_neg (by omega)]; rfl⟩)
            clear hb
            go_wp2_with fail
            go_ret2
            exact ⟨by rw [HW.out.1, HW.out.2]; rfl, HB.out⟩
          · have g2 : ¬ (s[k]'hlt).toNat < 48 := by omega
            have g3 : ¬ 57 < (s[k]'hlt).toNat := by omega
            have HW := hide (show numF s (s.size - (k + 1)) (k + 1) (10 * n + (b - 48)) = numF s (s.size - 0) 0 0 from by rw [HS.out, if_pos (by omega)])
            have e1 : IntKind.u8.wrap (((s[k]'hlt).toNat : Int) - 48) = ((b - 48 : Nat) : Int) := by rw [IntKind.wrap_u8']; omega
            have hkk : k = 0 ∨ k = 1 ∨ k = 2 := by omega
            go_wp2_with fail
            go_roundw
            case rel => exact ⟨k + 1, 10 * n + (b - 48), by go_num, by first | (rw [e1]; go_num) | go_num, hlt, by omega, by omega, fun _ => by omega, fun _ => by omega, fun _ => by omega, HW.out, HB.out⟩
            case measure => simp [intOf]; omega
theorem below_drewN6 {B : Nat} {w w' : World} (h : Below B w w') (n : Nat) : Below B w (w'.drewN n) := ⟨h.os, h.tape, h.output, h.size, h.block⟩
theorem extract_all (s : ByteArray) : s.extract 0 s.size = s := by
  apply ByteArray.ext
  apply Array.toList_inj.1
  rw [extract_list, List.drop_zero, Nat.sub_zero, List.take_of_length_le (by rw [data_len]; exact Nat.le_refl _)]
/-- strings.Cut at a comma. -/
theorem cutComma_any (s : ByteArray) (m : Int) (w : World) (hs : s.size < 4294967281) (hm : w.cell? ⟨22, 0, none⟩ = some (.int .i64 m)) :
    Calls Tryz.prog 133 #[.string s, .string ⟨#[44]⟩] w fun e w' => ∃ r, e = .returned (.tuple #[.string (s.extract 0 (findB s 44 0)), .string r, .bool (!decide (findB s 44 0 = s.size))]) ∧ (findB s 44 0 ≠ s.size → r = s.extract (findB s 44 0 + 1) s.size) ∧ Below w.heap.size w w' := by
  refine (cut6_any s ⟨#[44]⟩ m w hs hm).mono ?_
  rintro e w' ⟨rfl, n, rfl⟩
  obtain ⟨h1, h2, h3⟩ := cut_one s 44 (by decide)
  have hl : (⟨#[44]⟩ : ByteArray).data.toList = [(44 : Nat).toUInt8] := rfl
  rw [hl, h1, h3]
  exact ⟨_, rfl, h2, below_drewN6 (Below.refl _ _) n⟩
/-- strings.Cut at two bytes. -/
theorem cutTwo_any (s : ByteArray) (m : Int) (w : World) (hs : s.size < 4294967281) (hm : w.cell? ⟨22, 0, none⟩ = some (.int .i64 m)) :
    Calls Tryz.prog 133 #[.string s, .string ⟨#[92, 125]⟩] w fun e w' => ∃ r, e = .returned (.tuple #[.string (s.extract 0 (find2 s 92 125 0)), .string r, .bool (!decide (find2 s 92 125 0 = s.size))]) ∧ (find2 s 92 125 0 ≠ s.size → r = s.extract (find2 s 92 125 0 + 2) s.size) ∧ Below w.heap.size w w' := by
  refine (cut6_any s ⟨#[92, 125]⟩ m w hs hm).mono ?_
  rintro e w' ⟨rfl, n, rfl⟩
  obtain ⟨h1, h2, h3⟩ := cut_two s 92 125 (by decide) (by decide)
  have hl : (⟨#[92, 125]⟩ : ByteArray).data.toList = [(92 : Nat).toUInt8, (125 : Nat).toUInt8] := rfl
  rw [hl, h1, h3]
  exact ⟨_, rfl, h2, below_drewN6 (Below.refl _ _) n⟩
theorem countsP_eq (s : ByteArray) : countsP s = if findB s 44 0 = s.size then (match numP s with
    | none => none
    | some n => some (n, (n : Int)))
  else match numP (s.extract 0 (findB s 44 0)) with
    | none => none
    | some a => if findB s 44 0 + 1 = s.size then some (a, -1) else match numP (s.extract (findB s 44 0 + 1) s.size) with
      | none => none
      | some b => if a ≤ b then some (a, (b : Int)) else none := rfl
/-- What counts answers. -/
def countsV (s : ByteArray) : Int × Int :=
  if numP (s.extract 0 (findB s 44 0)) = none ∨ findB s 44 0 = s.size then ((numV (s.extract 0 (findB s 44 0)) : Int), (numV (s.extract 0 (findB s 44 0)) : Int))
  else if findB s 44 0 + 1 = s.size then ((numV (s.extract 0 (findB s 44 0)) : Int), -1)
  else ((numV (s.extract 0 (findB s 44 0)) : Int), (numV (s.extract (findB s 44 0 + 1) s.size) : Int))
theorem countsV_of {s : ByteArray} {n : Nat} {z : Int} (h : countsP s = some (n, z)) : countsV s = ((n : Int), z) := by
  rw [countsP_eq] at h
  unfold countsV
  by_cases e : findB s 44 0 = s.size
  · rw [if_pos (.inr e)]
    rw [if_pos e] at h
    rw [e, extract_all]
    cases hn : numP s with
    | none => rw [hn] at h; cases h
    | some k =>
      rw [hn] at h
      simp only [Option.some.injEq, Prod.mk.injEq] at h
      rw [numV_of hn, ← h.1, ← h.2]
  · rw [if_neg e] at h
    cases hn : numP (s.extract 0 (findB s 44 0)) with
    | none => rw [hn] at h; cases h
    | some k =>
      rw [hn] at h
      rw [if_neg (by simp [e]), numV_of hn]
      simp only at h
      by_cases e2 : findB s 44 0 + 1 = s.size
      · rw [if_pos e2] at h ⊢
        simp only [Option.some.injEq, Prod.mk.injEq] at h
        rw [← h.1, ← h.2]
      · rw [if_neg e2] at h ⊢
        cases hb : numP (s.extract (findB s 44 0 + 1) s.size) with
        | none => rw [hb] at h; cases h
        | some b =>
          rw [hb] at h
          simp only at h
          split at h
          · simp only [Option.some.injEq, Prod.mk.injEq] at h
            rw [numV_of hb, ← h.1, ← h.2]
          · cases h
def CountsIs (s : ByteArray) (w : World) (e : Ending) (w' : World) : Prop := e = .returned (.tuple #[.int .i64 (countsV s).1, .int .i64 (countsV s).2, .bool (countsP s).isSome]) ∧ Below w.heap.size w w'
theorem countsIs_some {s : ByteArray} {w w' : World} {n : Nat} {z : Int} (h : countsP s = some (n, z)) (hb : Below w.heap.size w w') : CountsIs s w (.returned (.tuple #[.int .i64 (n : Int), .int .i64 z, .bool true])) w' :=
  ⟨by rw [h, countsV_of h]; rfl, hb⟩
theorem countsIs_none {s : ByteArray} {w w' : World} {a b : Int} (h : countsP s = none) (hv : countsV s = (a, b)) (hb : Below w.heap.size w w') : CountsIs s w (.returned (.tuple #[.int .i64 a, .int .i64 b, .bool false])) w' :=
  ⟨by rw [h, hv]; rfl, hb⟩
set_option maxRecDepth 100000 in
set_option maxHeartbeats 1000000 in
theorem ereCounts_any (s : ByteArray) (m : Int) (w : World) (hs : s.size < 4294967281) (hm : w.cell? ⟨22, 0, none⟩ = some (.int .i64 m)) : Calls Tryz.prog 161 #[.string s] w (CountsIs s w) := by
  have HC := hide (cutComma_any s m w hs hm)
  have HP := hide (countsP_eq s)
  have HV := hide (show countsV s = if numP (s.extract 0 (findB s 44 0)) = none ∨ findB s 44 0 = s.size then ((numV (s.extract 0 (findB s 44 0)) : Int), (numV (s.extract 0 (findB s 44 0)) : Int))
    else if findB s 44 0 + 1 = s.size then ((numV (s.extract 0 (findB s 44 0)) : Int), -1)
    else ((numV (s.extract 0 (findB s 44 0)) : Int), (numV (s.extract (findB s 44 0 + 1) s.size) : Int)) from by unfold countsV; rfl)
  have HX := hide (extract_all s)
  have HE := hide (findB_spec s 44 0 (Nat.zero_le _))
  clear hm
  obtain ⟨f, hf⟩ : ∃ f, f = findB s 44 0 := ⟨_, rfl⟩
  rw [← hf] at HC HP HE HV
  clear hf
  go_enter Tryz.func161, Tryz.ntmps161
  go_wp2_with fail
  refine HC.out.mono ?_
  rintro e w1 ⟨r, rfl, hr, hb1⟩
  have HR := hide hr
  have H1 := hide hb1
  clear hr hb1 HC
  obtain ⟨tw, htw⟩ : ∃ tw, tw = !decide (f = s.size) := ⟨_, rfl⟩
  rw [← htw]
  have HT := hide htw
  clear htw
  obtain ⟨A, hA⟩ : ∃ A, A = s.extract 0 f := ⟨_, rfl⟩
  rw [← hA]
  rw [← hA] at HV
  have HA := hide hA
  clear hA
  go_wp2_with fail
  refine (ereNumber_any A w1).mono ?_
  rintro e w2 ⟨rfl, hb2⟩
  have H2 := hide (H1.out.trans (hb2.mono H1.out.size))
  cases hq : numP A with
  | none =>
    simp only [Option.isSome_none]
    have HN := hide (show countsP s = none from by
      rw [HP.out, ← HA.out, hq]
      by_cases e : f = s.size
      · rw [if_pos e]
        rw [e] at HA
        have : A = s := by rw [HA.out, HX.out]
        rw [← this, hq]
      · rw [if_neg e])
    have HV2 := hide (show countsV s = ((numV A : Int), (numV A : Int)) from by rw [HV.out, if_pos (.inl hq)])
    clear hb2 hq
    go_wp2_with fail
    go_ret3
    exact countsIs_none HN.out HV2.out H2.out
  | some x =>
    simp only [Option.isSome_some]
    have hnx := numV_of hq
    rw [hnx] at HV ⊢
    clear hb2 hnx
    cases tw with
    | false =>
      have hfs : f = s.size := by have := HT.out; simpa using this
      have HN := hide (show countsP s = some (x, (x : Int)) from by
        rw [HP.out, if_pos hfs]
        rw [hfs] at HA
        have : A = s := by rw [HA.out, HX.out]
        rw [← this, hq])
      clear hq hfs
      go_wp2_with fail
      go_ret3
      exact countsIs_some HN.out H2.out
    | true =>
      have hfs : ¬ f = s.size := by have := HT.out; simpa using this
      have HP2 := hide (HP.out.trans (if_neg hfs))
      rw [← HA.out, hq] at HP2
      simp only at HP2
      have hre := HR.out hfs
      have HF := hide hfs
      have hfl := HE.out.2.1
      have HV2 := hide (HV.out.trans (if_neg (by rw [hq]; simp [hfs])))
      clear hq hfs HA HP HV
      by_cases hem : f + 1 = s.size
      · have h1 : r = ⟨#[]⟩ := by
          rw [hre, hem]
          apply ByteArray.ext
          apply Array.toList_inj.1
          rw [extract_list]
          simp
        have HN := hide (HP2.out.trans (if_pos hem))
        subst h1
        clear hre HR HF hem HP2
        go_wp2_with fail
        go_ret3
        exact countsIs_some HN.out H2.out
      · have h1 : ¬ r = ⟨#[]⟩ := by
          intro e
          have h2 := congrArg ByteArray.size (hre.symm.trans e)
          rw [ByteArray.size_extract] at h2
          have h3 : (⟨#[]⟩ : ByteArray).size = 0 := rfl
          rw [h3] at h2
          have := HF.out
          omega
        have h2 : r.toList.isEmpty = false := by
          rw [ByteArray.toList_eq]
          cases hl : r.data.toList with
          | nil =>
            exact absurd (by apply ByteArray.ext; apply Array.toList_inj.1; rw [hl]) h1
          | cons => rfl
        have HN := hide (HP2.out.trans (if_neg hem))
        have HV3 := hide (HV2.out.trans (if_neg hem))
        rw [← hre] at HN HV3
        clear hre HR HF hem HP2
        go_wp2_with fail
        refine (ereNumber_any r w2).mono ?_
        rintro e w3 ⟨rfl, hb3⟩
        have H3 := hide (H2.out.trans (hb3.mono H2.out.size))
        cases hq : numP r with
        | none =>
          simp only [Option.isSome_none]
          rw [hq] at HN
          simp only at HN
          clear hb3 hq
          go_wp2_with fail
          go_ret3
          exact countsIs_none HN.out HV3.out H3.out
        | some z =>
          simp only [Option.isSome_some]
          rw [numV_of hq] at HV3 ⊢
          rw [hq] at HN
          simp only at HN
          clear hb3 hq
          by_cases hle : x ≤ z
          · have g1 : decide ((x : Int) ≤ (z : Int)) = true := decide_eq_true (by omega)
            have HN2 := hide (HN.out.trans (if_pos hle))
            go_wp2_with fail
            go_ret3
            exact countsIs_some HN2.out H3.out
          · have g1 : decide ((x : Int) ≤ (z : Int)) = false := decide_eq_false (by omega)
            have HN2 := hide (HN.out.trans (if_neg hle))
            go_wp2_with fail
            go_ret3
            exact countsIs_none HN2.out HV3.out H3.out
/-- The reader of an extended pattern in memory: the pattern, the place, flags, groups so far, the list of the d groups that are open, the first fault. -/
def RdE (y : World) (gr B0 : Nat) (p : ByteArray) (i : Nat) (fl : Int) (g : Nat) (ov : Value) (d : Nat) (ev : Value) : Prop :=
  RdG y 90 gr B0 #[.string p, .int .i64 (i : Int), .int .i64 fl, .int .i64 (g : Int), ov, ev] ov d
section
variable {y z : World} {gr B0 i g d : Nat} {p : ByteArray} {fl : Int} {ov ev : Value}
theorem RdE.setI (h : RdE y gr B0 p i fl g ov d ev) (j : Nat) : RdE (y.setCell ⟨gr, 1, none⟩ (.int .i64 (j : Int))) gr B0 p j fl g ov d ev := h.set 1 _
theorem RdE.setG (h : RdE y gr B0 p i fl g ov d ev) (j : Nat) : RdE (y.setCell ⟨gr, 3, none⟩ (.int .i64 (j : Int))) gr B0 p i fl j ov d ev := h.set 3 _
theorem RdE.setE (h : RdE y gr B0 p i fl g ov d ev) (u : Value) : RdE (y.setCell ⟨gr, 5, none⟩ u) gr B0 p i fl g ov d u := h.set 5 _
end
/-- A call that has kept the first fault. -/
def FailE (gr B0 : Nat) (p : ByteArray) (i : Nat) (fl : Int) (g : Nat) (ov : Value) (d : Nat) (a : Nat → Addr) (c : Nat) (pl : Int) (y : World) (e : Ending) (y' : World) : Prop :=
  ∃ gf, e = .returned (.tuple #[]) ∧ RdE y' gr B0 p i fl g ov d (faultV gf) ∧ FaultIs a y' gf c pl ∧ RdF gr B0 ov.ownBlock ov.ownBlock y y'
theorem Tryz.isIfaceErr6 : Tryz.prog.isIface 32 = true := by kernel_rfl
set_option maxRecDepth 100000 in
set_option maxHeartbeats 1000000 in
theorem ereFail_any {y : World} {gr B0 : Nat} {p : ByteArray} {i : Nat} {fl : Int} {g : Nat} {ov : Value} {d : Nat} (h : RdE y gr B0 p i fl g ov d .nilIface) (hB : B0 ≤ y.heap.size) (a : Nat → Addr) (c : Nat) (pl : Int) :
    Calls Tryz.prog 50 #[.pointer (some ⟨gr, 0, none⟩), .int .i64 pl, errV (a (sentVar c))] y (FailE gr B0 p i fl g ov d a c pl y) := by
  have HF := hide (fault_any pl (a (sentVar c)) y)
  have c0 := h.box.cell
  have hn0 := fun w => run_eql_nil_nil_at (P := Tryz.prog) (w := w) 32 Tryz.isIfaceErr6
  have HH := hide h
  obtain ⟨er, her⟩ : ∃ er, er = errV (a (sentVar c)) := ⟨_, rfl⟩
  rw [← her] at HF ⊢
  have HER := hide her
  clear h her
  go_enter Tryz.func50, Tryz.ntmps50
  go_wp2_with fail
  refine HF.out.mono ?_
  rintro e w1 ⟨gf, rfl, hgf, hfb, hb⟩
  have HR := hide (show RdE w1 gr B0 p i fl g ov d .nilIface from HH.out.next hb)
  have HB := hide hb
  have HX := hide hfb
  have c1 := HR.out.box.cell
  have f1 := HR.out.box.frozen
  clear c0 hb hfb HF
  unfold faultV
  go_wp2_with fail
  go_end0
  refine ⟨gf, rfl, HR.out.setE _, ?_, (RdF.of_below hB HB.out).set HH.out.base _ _⟩
  unfold FaultIs
  rw [← HER.out]
  exact HX.out.far (fun e => by have := HH.out.box.lt; have e2 : gf = gr := e; omega) _
set_option maxRecDepth 100000 in
set_option maxHeartbeats 1000000 in
theorem ereNext_nil {y : World} {gr B0 : Nat} {p : ByteArray} {i : Nat} {fl : Int} {g : Nat} {ov : Value} {d : Nat} (h : RdE y gr B0 p i fl g ov d .nilIface) (hp : p.size ≤ 1000000) (hi : i ≤ 1000000) :
    Calls Tryz.prog 84 #[.pointer (some ⟨gr, 0, none⟩)] y fun e y' => e = .returned (.tuple #[.int .u8 (if i < p.size then (pb p i : Int) else 0), .bool (decide (i < p.size))]) ∧ Below y.heap.size y y' := by
  have c0 := h.box.cell
  have hn0 := fun w => run_neq_nil_nil_at (P := Tryz.prog) (w := w) 32 Tryz.isIfaceErr6
  clear h
  by_cases hlt : i < p.size
  · rw [if_pos hlt, decide_eq_true hlt]
    have g1 : decide ((p.size : Int) ≤ (i : Int)) = false := decide_eq_false (by omega)
    have hpb := pb_at hlt
    rw [hpb]
    go_enter Tryz.func84, Tryz.ntmps84
    go_wp2_with fail
    go_quiet (fail)
    go_wp2_with fail
    go_quiet (fail)
    go_wp2_with fail
    go_ret2
    exact ⟨rfl, below_drewN6 (below_drewN6 (Below.refl _ _) _) _⟩
  · rw [if_neg hlt, decide_eq_false hlt]
    have g1 : decide ((p.size : Int) ≤ (i : Int)) = true := decide_eq_true (by omega)
    go_enter Tryz.func84, Tryz.ntmps84
    go_wp2_with fail
    go_quiet (fail)
    go_wp2_with fail
    go_ret2
    exact ⟨rfl, below_drewN6 (Below.refl _ _) _⟩
set_option maxRecDepth 100000 in
set_option maxHeartbeats 1000000 in
theorem ereNext_bad {y : World} {gr B0 : Nat} {p : ByteArray} {i : Nat} {fl : Int} {g : Nat} {ov : Value} {d gf : Nat} (h : RdE y gr B0 p i fl g ov d (faultV gf)) :
    Calls Tryz.prog 84 #[.pointer (some ⟨gr, 0, none⟩)] y fun e y' => e = .returned (.tuple #[.int .u8 0, .bool false]) ∧ Below y.heap.size y y' := by
  have c0 := h.box.cell
  have hn0 := fun w => run_neq_iface_nil (P := Tryz.prog) (w := w) 32 Tryz.isIfaceErr6 83 (.pointer (some ⟨gf, 0, none⟩))
  unfold faultV at c0
  clear h
  go_enter Tryz.func84, Tryz.ntmps84
  go_wp2_with fail
  go_quiet (fail)
  go_wp2_with fail
  go_ret2
  exact ⟨rfl, below_drewN6 (Below.refl _ _) _⟩
end Go.Proofs.YtpkcklpjbeginaaGreatDoor

/-! ## Ere6b -/
namespace Go.Proofs.YtpkcklpjbeginaaGreatDoor
open Go.RowKit

/-- A call that answers a node of a set. -/
def BytIs (S : Nat → Bool) (w : World) (e : Ending) (w' : World) : Prop := e = .returned (.agg ((bytT S).hd.cells (.slice none 0 0)).toArray) ∧ Below w.heap.size w w'
theorem bytIs_cells (S : Nat → Bool) : (((bytT S).hd.cells (.slice none 0 0)).toArray) = #[.int .i64 2, .int .u64 ((wd S 0 : Nat) : Int), .int .u64 ((wd S 1 : Nat) : Int), .int .u64 ((wd S 2 : Nat) : Int), .int .u64 ((wd S 3 : Nat) : Int), .slice none 0 0, .int .i64 0, .int .i64 0, .int .i64 0, .bool false] := rfl
set_option maxRecDepth 100000 in
set_option maxHeartbeats 1000000 in
theorem bytes6_any (S : Nat → Bool) (w : World) : Calls Tryz.prog 52 #[setV S] w (BytIs S w) := by
  unfold BytIs
  rw [bytIs_cells]
  unfold setV setC
  generalize wd S 0 = s0
  generalize wd S 1 = s1
  generalize wd S 2 = s2
  generalize wd S 3 = s3
  go_enter Tryz.func52, Tryz.ntmps52
  go_wp2_with fail
  refine bodyPost_ret (v := .agg #[.int .i64 2, .int .u64 s0, .int .u64 s1, .int .u64 s2, .int .u64 s3, .slice none 0 0, .int .i64 0, .int .i64 0, .int .i64 0, .bool false]) (by simp [results, Tryz.results52, go_sem]) rfl ?_
  refine ⟨rfl, ?_⟩
  first
    | exact ((Below.refl _ _).alloc (Nat.le_refl _) _).alloc (by simp) _
    | (repeat refine Below.setCell ?_ (by simp) _
       exact ((Below.refl _ _).alloc (Nat.le_refl _) _).alloc (by simp) _)
set_option maxRecDepth 100000 in
set_option maxHeartbeats 1000000 in
theorem ereOne_any {y : World} {gr : Nat} {p : ByteArray} {i : Nat} {fl : Int} {g : Nat} {ov ev : Value} (hBox : Blk y gr 90 #[.string p, .int .i64 (i : Int), .int .i64 fl, .int .i64 (g : Int), ov, ev]) (b : Nat) (hb256 : b < 256) :
    Calls Tryz.prog 160 #[.pointer (some ⟨gr, 0, none⟩), .int .u8 (b : Int)] y (BytIs (oneS (!decide (bits .and .i64 fl 2 = 0)) b) y) := by
  have hz0 := Blk.new y 27 zeroCells
  have hbel := (Below.refl y.heap.size y).alloc (Nat.le_refl _) (.cells zeroCells 27)
  have H0 := hide (And.intro (hBox.alloc (.cells zeroCells 27)) (And.intro hbel hz0))
  clear hBox hz0 hbel
  obtain ⟨R, hR⟩ : ∃ R, R = oneS (!decide (bits .and .i64 fl 2 = 0)) b := ⟨_, rfl⟩
  rw [← hR]
  have HR := hide hR
  clear hR
  unfold zeroCells at *
  go_enter Tryz.func160, Tryz.ntmps160
  go_upto_region 1 with fail
  generalize (y.alloc (.cells #[.int .i64 0, .int .u64 0, .int .u64 0, .int .u64 0, .int .u64 0, .slice none 0 0, .int .i64 0, .int .i64 0, .int .i64 0, .bool false] 27)) = W at *
  have HOf := hide (of1_any b W.heap.size (W.alloc (.cells #[.int .u8 (b : Int)] 5)) hb256 (Blk.new _ _ _))
  go_wp2_with fail
  refine HOf.out.mono ?_
  rintro e w1 ⟨rfl, hb1⟩
  have hb1' := ((Below.refl W.heap.size W).alloc (Nat.le_refl _) (.cells #[.int .u8 (b : Int)] 5)).trans (hb1.mono (by simp))
  have hb2' := hb1'.trans ((Below.refl w1.heap.size w1).alloc (Nat.le_refl _) (.cells #[.int .u64 0, .int .u64 0, .int .u64 0, .int .u64 0] 24) |>.mono hb1'.size)
  have hne := Blk.new w1 24 #[.int .u64 0, .int .u64 0, .int .u64 0, .int .u64 0]
  have H1 := hide (And.intro (H0.out.1.below hb2' H0.out.1.lt) (And.intro (H0.out.2.1.trans (hb2'.mono H0.out.2.1.size)) (And.intro (H0.out.2.2.below hb2' H0.out.2.2.lt) hne)))
  have HZ1 := hide (Nat.lt_of_lt_of_le H0.out.2.2.lt hb1'.size)
  clear hb1 hb1' hb2' hne HOf
  obtain ⟨S, hS⟩ : ∃ S : Nat → Bool, S = fun x => decide (x = b) := ⟨_, rfl⟩
  rw [← hS]
  have HS := hide hS
  clear hS
  go_upto_region 2 with (refine wpList_store_set rfl _ _ rfl w1.heap.size _ _ rfl rfl H1.out.2.2.2 rfl ?_; intro w2 hrow_w2 hg_w2 hz_w2)
  have hlt2 := HZ1.out
  have H2 := hide (And.intro (H1.out.1.grown hg_w2 (fun e => (blk_ne6 H1.out.1 H1.out.2.2.2 (by decide)) (Option.some.inj e))) (And.intro (below_grew H1.out.2.1 hg_w2 (Nat.le_refl _) (fun q hq => by rw [← Option.some.inj hq]; omega)) (And.intro (H1.out.2.2.1.grown hg_w2 (fun e => by have := Option.some.inj e; omega)) hrow_w2)))
  clear hg_w2 hz_w2 hrow_w2
  have c1 := H2.out.1.cell
  have z1 := H2.out.1.lt
  by_cases hic : bits .and .i64 fl 2 = 0
  · have HE := hide (show R = S from by rw [HR.out, hic, HS.out]; rfl)
    have HB := hide (fun y => bytes6_any S y)
    clear HR HS
    go_wp2_with (refine wpList_load_set rfl _ rfl w1.heap.size _ rfl H2.out.2.2.2 ?_)
    refine (HB.out _).mono ?_
    rintro e w3 ⟨rfl, hb3⟩
    have H3 := hide (And.intro (H2.out.2.1.trans (hb3.mono H2.out.2.1.size)) (H2.out.2.2.1.below hb3 H2.out.2.2.1.lt))
    clear hb3 c1
    go_wp2_with (refine wpList_store_node rfl _ _ rfl y.heap.size _ _ _ _ _ rfl rfl H3.out.2 rfl ?_; intro w9 hrow9 hg9 hz9)
    refine bodyPost_ret (node_result rfl _ _ y.heap.size _ _ rfl hrow9) rfl ?_
    exact ⟨by rw [HE.out], below_grew H3.out.1 hg9 (Nat.le_refl _) (fun q hq => by rw [← Option.some.inj hq]; exact Nat.le_refl _)⟩
  · have HE := hide (show R = fold5 S from by rw [HR.out, HS.out]; unfold oneS; rw [decide_eq_false hic]; rfl)
    have HFo := hide (fun y => foldc_any S y)
    have hic2 : (bits .and .i64 fl 2 != 0) = true := by rw [bne_iff_ne]; exact hic
    clear HR HS
    go_wp2_with (refine wpList_load_set rfl _ rfl w1.heap.size _ rfl H2.out.2.2.2 ?_)
    refine (HFo.out _).mono ?_
    rintro e w3 ⟨rfl, hb3⟩
    have H3 := hide (And.intro (H2.out.2.1.trans (hb3.mono H2.out.2.1.size)) (And.intro (H2.out.2.2.1.below hb3 H2.out.2.2.1.lt) (H2.out.2.2.2.below hb3 H2.out.2.2.2.lt)))
    clear hb3 c1 HFo
    generalize fold5 S = S2 at *
    go_upto_region 4 with (refine wpList_store_set rfl _ _ rfl w1.heap.size _ _ rfl rfl H3.out.2.2 rfl ?_; intro w4 hrow_w4 hg_w4 hz_w4)
    have H4 := hide (And.intro (below_grew H3.out.1 hg_w4 (Nat.le_refl _) (fun q hq => by rw [← Option.some.inj hq]; omega)) (And.intro (H3.out.2.1.grown hg_w4 (fun e => by have := Option.some.inj e; omega)) hrow_w4))
    have HB := hide (fun y => bytes6_any S2 y)
    clear hg_w4 hz_w4 hrow_w4
    go_wp2_with (refine wpList_load_set rfl _ rfl w1.heap.size _ rfl H4.out.2.2 ?_)
    refine (HB.out _).mono ?_
    rintro e w5 ⟨rfl, hb5⟩
    have H5 := hide (And.intro (H4.out.1.trans (hb5.mono H4.out.1.size)) (H4.out.2.1.below hb5 H4.out.2.1.lt))
    clear hb5
    go_wp2_with (refine wpList_store_node rfl _ _ rfl y.heap.size _ _ _ _ _ rfl rfl H5.out.2 rfl ?_; intro w9 hrow9 hg9 hz9)
    refine bodyPost_ret (node_result rfl _ _ y.heap.size _ _ rfl hrow9) rfl ?_
    exact ⟨by rw [HE.out], below_grew H5.out.1 hg9 (Nat.le_refl _) (fun q hq => by rw [← Option.some.inj hq]; exact Nat.le_refl _)⟩
/-- strings.IndexByte, by the first place of the byte. -/
theorem indexByte_one : ∀ (l : List UInt8) (c : UInt8), Lib.indexByte l c = Lib.index l [c]
  | [], c => rfl
  | b :: l, c => by
    rw [Lib.indexByte, Lib.index, indexByte_one l c]
    have : ([c] : List UInt8).isPrefixOf (b :: l) = (b == c) := by
      simp only [List.isPrefixOf, Bool.and_true]
      exact Bool.beq_comm
    rw [this]
theorem indexByte6_any (s : ByteArray) (c : Nat) (hc : c < 256) (w : World) : Calls Tryz.prog 51 #[.string s, .int .u8 (c : Int)] w fun e w' => e = .returned (.int .i64 (if findB s c 0 = s.size then -1 else ((findB s c 0 : Nat) : Int))) ∧ w' = w := by
  refine (indexByte_any s (c : Int) w).mono ?_
  rintro e w' ⟨rfl, rfl⟩
  rw [Int.toNat_natCast, indexByte_one, index_one s c hc]
  exact ⟨rfl, rfl⟩
/-- What repeat answers. -/
def RepPost (r : RR) (gr B0 : Nat) (p : ByteArray) (i : Nat) (fl : Int) (g : Nat) (ov : Value) (d : Nat) (a : Nat → Addr) (y : World) (e : Ending) (y' : World) : Prop := match r with
  | .no => e = .returned (.tuple #[.int .i64 0, .int .i64 0, .bool false]) ∧ RdE y' gr B0 p i fl g ov d .nilIface ∧ RdF gr B0 ov.ownBlock ov.ownBlock y y'
  | .yes u v n => e = .returned (.tuple #[.int .i64 (u : Int), .int .i64 v, .bool true]) ∧ RdE y' gr B0 p n fl g ov d .nilIface ∧ RdF gr B0 ov.ownBlock ov.ownBlock y y'
  | .bad c => ∃ gf, e = .returned (.tuple #[.int .i64 0, .int .i64 0, .bool false]) ∧ RdE y' gr B0 p i fl g ov d (faultV gf) ∧ FaultIs a y' gf c (i : Int) ∧ RdF gr B0 ov.ownBlock ov.ownBlock y y'
theorem repPost_no {r : RR} (hr : r = .no) {gr B0 : Nat} {p : ByteArray} {i : Nat} {fl : Int} {g : Nat} {ov : Value} {d : Nat} {a : Nat → Addr} {y y' : World} (h1 : RdE y' gr B0 p i fl g ov d .nilIface) (h2 : RdF gr B0 ov.ownBlock ov.ownBlock y y') : RepPost r gr B0 p i fl g ov d a y (.returned (.tuple #[.int .i64 0, .int .i64 0, .bool false])) y' := by subst hr; exact ⟨rfl, h1, h2⟩
theorem repPost_yes {r : RR} {u n : Nat} {v : Int} (hr : r = .yes u v n) {gr B0 : Nat} {p : ByteArray} {i : Nat} {fl : Int} {g : Nat} {ov : Value} {d : Nat} {a : Nat → Addr} {y y' : World} (h1 : RdE y' gr B0 p n fl g ov d .nilIface) (h2 : RdF gr B0 ov.ownBlock ov.ownBlock y y') : RepPost r gr B0 p i fl g ov d a y (.returned (.tuple #[.int .i64 (u : Int), .int .i64 v, .bool true])) y' := by subst hr; exact ⟨rfl, h1, h2⟩
theorem repPost_bad {r : RR} {c gf : Nat} (hr : r = .bad c) {gr B0 : Nat} {p : ByteArray} {i : Nat} {fl : Int} {g : Nat} {ov : Value} {d : Nat} {a : Nat → Addr} {y y' : World} (h1 : RdE y' gr B0 p i fl g ov d (faultV gf)) (h2 : RdF gr B0 ov.ownBlock ov.ownBlock y y') (h3 : FaultIs a y' gf c (i : Int)) : RepPost r gr B0 p i fl g ov d a y (.returned (.tuple #[.int .i64 0, .int .i64 0, .bool false])) y' := by subst hr; exact ⟨gf, rfl, h1, h3, h2⟩
set_option maxRecDepth 100000 in
set_option maxHeartbeats 2000000 in
theorem ereRepeat_any {y : World} {gr B0 : Nat} {p : ByteArray} {i : Nat} {fl : Int} {g : Nat} {ov : Value} {d : Nat} (h : RdE y gr B0 p i fl g ov d .nilIface) (hp : p.size ≤ 1024) (hi : i ≤ p.size) (hB : B0 ≤ y.heap.size) (a : Nat → Addr) (m : Int) (hm : ∀ y', Below B0 y y' → B5 y' a m) :
    Calls Tryz.prog 143 #[.pointer (some ⟨gr, 0, none⟩)] y (RepPost (repE p i) gr B0 p i fl g ov d a y) := by
  have HN := hide (ereNext_nil h (by omega) (by omega))
  have HH := hide h
  have HB := hide hB
  have HM := hide hm
  have HF := hide (findB_spec p 125 i hi)
  clear h hB hm
  by_cases h42 : pb p i = 42
  · have hi := pb_ins h42 (by decide)
    have HE := hide (show repE p i = .yes 0 (-1) (i + 1) from by unfold repE; rw [if_pos h42])
    rw [if_pos hi, decide_eq_true hi, h42] at HN
    clear h42 HF
    go_enter Tryz.func143, Tryz.ntmps143
    go_wp2_with fail
    refine HN.out.mono ?_
    rintro e w1 ⟨rfl, hb1⟩
    have H1 := hide (And.intro (HH.out.next hb1) (RdF.of_below (gr := gr) (x := ov.ownBlock) HB.out hb1))
    have c1 := H1.out.1.box.cell
    have f1 := H1.out.1.box.frozen
    clear hb1
    go_wp2_with fail
    go_ret3
    exact repPost_yes HE.out (RdE.setI H1.out.1 (i + 1)) (H1.out.2.set HH.out.base _ _)
  by_cases h43 : pb p i = 43
  · have hi := pb_ins h43 (by decide)
    have HE := hide (show repE p i = .yes 1 (-1) (i + 1) from by unfold repE; rw [if_neg h42]; rw [if_pos h43])
    rw [if_pos hi, decide_eq_true hi, h43] at HN
    clear h42 h43 HF
    go_enter Tryz.func143, Tryz.ntmps143
    go_wp2_with fail
    refine HN.out.mono ?_
    rintro e w1 ⟨rfl, hb1⟩
    have H1 := hide (And.intro (HH.out.next hb1) (RdF.of_below (gr := gr) (x := ov.ownBlock) HB.out hb1))
    have c1 := H1.out.1.box.cell
    have f1 := H1.out.1.box.frozen
    clear hb1
    go_wp2_with fail
    go_ret3
    exact repPost_yes HE.out (RdE.setI H1.out.1 (i + 1)) (H1.out.2.set HH.out.base _ _)
  by_cases h63 : pb p i = 63
  · have hi := pb_ins h63 (by decide)
    have HE := hide (show repE p i = .yes 0 (1) (i + 1) from by unfold repE; rw [if_neg h42]; rw [if_neg h43]; rw [if_pos h63])
    rw [if_pos hi, decide_eq_true hi, h63] at HN
    clear h42 h43 h63 HF
    go_enter Tryz.func143, Tryz.ntmps143
    go_wp2_with fail
    refine HN.out.mono ?_
    rintro e w1 ⟨rfl, hb1⟩
    have H1 := hide (And.intro (HH.out.next hb1) (RdF.of_below (gr := gr) (x := ov.ownBlock) HB.out hb1))
    have c1 := H1.out.1.box.cell
    have f1 := H1.out.1.box.frozen
    clear hb1
    go_wp2_with fail
    go_ret3
    exact repPost_yes HE.out (RdE.setI H1.out.1 (i + 1)) (H1.out.2.set HH.out.base _ _)
  by_cases hi2 : i < p.size
  case neg =>
    have HE := hide (show repE p i = .no from by unfold repE; rw [if_neg h42, if_neg h43, if_neg h63, if_neg (fun e => hi2 (pb_ins e (by decide)))])
    rw [if_neg hi2, decide_eq_false hi2] at HN
    clear h42 h43 h63 HF
    go_enter Tryz.func143, Tryz.ntmps143
    go_wp2_with fail
    refine HN.out.mono ?_
    rintro e w1 ⟨rfl, hb1⟩
    have H1 := hide (And.intro (HH.out.next hb1) (RdF.of_below (gr := gr) (x := ov.ownBlock) HB.out hb1))
    clear hb1
    go_wp2_with fail
    go_ret3
    exact repPost_no HE.out H1.out.1 H1.out.2
  case pos =>
  rw [if_pos hi2, decide_eq_true hi2] at HN
  by_cases h123 : pb p i = 123
  case neg =>
    have HE := hide (show repE p i = .no from by unfold repE; rw [if_neg h42, if_neg h43, if_neg h63, if_neg h123])
    have hpl := pb_lt hi2
    generalize pb p i = c at *
    have g42 : ((c : Int) == 42) = false := by rw [beq_eq_false_iff_ne]; omega
    have g43 : ((c : Int) == 43) = false := by rw [beq_eq_false_iff_ne]; omega
    have g63 : ((c : Int) == 63) = false := by rw [beq_eq_false_iff_ne]; omega
    have g123 : ((c : Int) == 123) = false := by rw [beq_eq_false_iff_ne]; omega
    clear HF
    go_enter Tryz.func143, Tryz.ntmps143
    go_wp2_with fail
    refine HN.out.mono ?_
    rintro e w1 ⟨rfl, hb1⟩
    have H1 := hide (And.intro (HH.out.next hb1) (RdF.of_below (gr := gr) (x := ov.ownBlock) HB.out hb1))
    clear hb1
    go_wp2_with fail
    go_ret3
    exact repPost_no HE.out H1.out.1 H1.out.2
  case pos =>
  have hr0 : repE p i = if findB p 125 i = p.size then .bad 2 else match countsP (p.extract (i + 1) (findB p 125 i)) with
      | none => .bad 3
      | some (a, b) => .yes a b (findB p 125 i + 1) := by unfold repE; rw [if_neg h42, if_neg h43, if_neg h63, if_pos h123]; rfl
  have hrest := findB_rest p 125 i (by decide) hi
  have hlt : i < findB p 125 i := by
    have h1 := HF.out.1
    by_cases e : i = findB p 125 i
    · have h2 := HF.out.2.2.1 (by omega)
      rw [← e] at h2
      omega
    · omega
  rw [h123] at HN
  have HRE := hide hr0
  clear hr0 h42 h43 h63 h123
  have hxs : (p.extract i p.size).size = p.size - i := by rw [ByteArray.size_extract]; omega
  obtain ⟨k, hk⟩ : ∃ k, k = findB p 125 i := ⟨_, rfl⟩
  rw [← hk] at HF HRE hrest hlt
  have HI := hide (fun w => indexByte6_any (p.extract i p.size) 125 (by decide) w)
  rw [hxs] at HI
  have hks := HF.out.2.1
  have HF2 := hide hk
  clear hk HF
  by_cases hke : k = p.size
  · have hn1 : findB (p.extract i p.size) 125 0 = p.size - i := by omega
    rw [if_pos hn1] at HI
    have HE := hide (show repE p i = .bad 2 from by rw [HRE.out, if_pos hke])
    clear HRE hn1 hrest hxs
    go_enter Tryz.func143, Tryz.ntmps143
    go_wp2_with fail
    refine HN.out.mono ?_
    rintro e w1 ⟨rfl, hb1⟩
    have H1 := hide (And.intro (HH.out.next hb1) (RdF.of_below (gr := gr) (x := ov.ownBlock) HB.out hb1))
    have c1 := H1.out.1.box.cell
    have f1 := H1.out.1.box.frozen
    have HB1 := hide (Nat.le_trans HB.out hb1.size)
    clear hb1
    have i1 : (i : Int) ≤ (p.size : Int) := by omega
    go_wp2_with fail
    go_quiet ((go_at_call 51; exact Calls.quiet_of_same (HI.out _)))
    generalize hw2 : w1.drewN _ = w2
    have hb2 : Below w1.heap.size w1 w2 := by rw [← hw2]; exact below_drewN6 (Below.refl _ _) _
    have H2 := hide (And.intro (H1.out.1.next hb2) (H1.out.2.next HB1.out hb2))
    have HB2 := hide (Nat.le_trans HB1.out hb2.size)
    clear hb2 hw2 c1 f1
    have cq := H2.out.1.box.cell
    have ceq := (HM.out _ H2.out.2.below).errs.var 5 (by decide)
    go_wp2_with fail
    go_still_tail 6, (by kernel_rfl)
    change wpList _ _ _ _ _ w2.drew
    generalize hwd : w2.drew = wd
    have hbd : Below w2.heap.size w2 wd := by rw [← hwd]; exact (Below.refl _ _).drew
    have HD := hide (And.intro (H2.out.1.next hbd) (H2.out.2.next HB2.out hbd))
    have HBD := hide (Nat.le_trans HB2.out hbd.size)
    have hdraw := hide (RdF.of_below (gr := gr) (x := ov.ownBlock) HB2.out hbd)
    clear hbd hwd cq ceq
    go_wp2_with fail
    refine (ereFail_any HD.out.1 HBD.out a 2 (i : Int)).mono ?_
    rintro e wf ⟨gf, rfl, hE, hFI, hF⟩
    have HFl := hide (And.intro hE (And.intro hFI (HD.out.2.trans hF)))
    have HBF := hide (Nat.le_trans HBD.out hF.below.size)
    have HKF := hide hF
    clear hE hFI hF
    go_wp2_with fail
    go_ret3
    exact repPost_bad HE.out HFl.out.1 HFl.out.2.2 HFl.out.2.1
  · have hn1 : ¬ findB (p.extract i p.size) 125 0 = p.size - i := by omega
    rw [if_neg hn1] at HI
    obtain ⟨n, hn⟩ : ∃ n, n = findB (p.extract i p.size) 125 0 := ⟨_, rfl⟩
    rw [← hn] at HI hrest
    have hkn : k = i + n := by omega
    have hnp : i + n < p.size := by omega
    have hn0 : 0 < n := by omega
    have HRE2 := hide (HRE.out.trans (if_neg hke))
    subst hkn
    obtain ⟨A, hA⟩ : ∃ A, A = p.extract (i + 1) (i + n) := ⟨_, rfl⟩
    rw [← hA] at HRE2
    have hAs : A.size ≤ 1024 := by rw [hA, ByteArray.size_extract]; omega
    have HA := hide hA
    clear HRE hn1 hrest hxs hn hA hke HF2 hks
    go_enter Tryz.func143, Tryz.ntmps143
    go_wp2_with fail
    refine HN.out.mono ?_
    rintro e w1 ⟨rfl, hb1⟩
    have H1 := hide (And.intro (HH.out.next hb1) (RdF.of_below (gr := gr) (x := ov.ownBlock) HB.out hb1))
    have c1 := H1.out.1.box.cell
    have f1 := H1.out.1.box.frozen
    have HB1 := hide (Nat.le_trans HB.out hb1.size)
    clear hb1
    have i1 : (i : Int) ≤ (p.size : Int) := by omega
    go_wp2_with fail
    go_quiet ((go_at_call 51; exact Calls.quiet_of_same (HI.out _)))
    generalize hw2 : w1.drewN _ = w2
    have hb2 : Below w1.heap.size w1 w2 := by rw [← hw2]; exact below_drewN6 (Below.refl _ _) _
    have H2 := hide (And.intro (H1.out.1.next hb2) (H1.out.2.next HB1.out hb2))
    have HB2 := hide (Nat.le_trans HB1.out hb2.size)
    clear hb2 hw2 c1 f1
    go_upto_region 19 with fail
    have c2 := fun (x : Later w2) => (H2.out.1.next x.2).box.cell
    have HC := hide (fun (x : Later w2) => ereCounts_any A m x.val (by omega) ((HM.out _ (H2.out.2.next HB2.out x.2).below).ml))
    obtain ⟨u, hu⟩ : ∃ u, u = i + 1 := ⟨_, rfl⟩
    obtain ⟨v, hv⟩ : ∃ v, v = i + n := ⟨_, rfl⟩
    have i2 : IntKind.i64.wrap ((i : Int) + 1) = (u : Int) := by rw [wrapI (by omega) (by omega)]; omega
    have i3 : IntKind.i64.wrap ((i : Int) + (n : Int)) = (v : Int) := by rw [wrapI (by omega) (by omega)]; omega
    have i4 : (u : Int) ≤ (v : Int) := by omega
    have i5 : (v : Int) ≤ (p.size : Int) := by omega
    have hAe := HA.out.symm
    rw [← hu, ← hv] at hAe
    have HU := hide (And.intro hu hv)
    clear hu hv
    refine wp_region_later (by kernel_rfl) (by kernel_rfl) ?_
    repeat (go_big_quiet_step (exact calls_later (HC.out _)))
    refine wpQuiet_nil ?_
    intro w3 hw3
    obtain ⟨x, hxe⟩ := hw3
    have hb3 : Below w2.heap.size w2 w3 := hxe ▸ x.2
    have H3 := hide (And.intro (H2.out.1.next hb3) (H2.out.2.next HB2.out hb3))
    have HB3 := hide (Nat.le_trans HB2.out hb3.size)
    clear hxe x hb3 c2 HC i2 i3 i4 i5 hAe HI
    cases hcA : countsP A with
    | none =>
      rw [hcA] at HRE2
      have HE := hide (show repE p i = .bad 3 from HRE2.out)
      simp only [Option.isSome_none]
      have cq := H3.out.1.box.cell
      have ceq := (HM.out _ H3.out.2.below).errs.var 6 (by decide)
      go_wp2_with fail
      go_still_tail 6, (by kernel_rfl)
      change wpList _ _ _ _ _ w3.drew
      generalize hwd : w3.drew = wd
      have hbd : Below w3.heap.size w3 wd := by rw [← hwd]; exact (Below.refl _ _).drew
      have HD := hide (And.intro (H3.out.1.next hbd) (H3.out.2.next HB3.out hbd))
      have HBD := hide (Nat.le_trans HB3.out hbd.size)
      have hdraw := hide (RdF.of_below (gr := gr) (x := ov.ownBlock) HB3.out hbd)
      clear hbd hwd cq ceq
      go_wp2_with fail
      refine (ereFail_any HD.out.1 HBD.out a 3 (i : Int)).mono ?_
      rintro e wf ⟨gf, rfl, hE, hFI, hF⟩
      have HFl := hide (And.intro hE (And.intro hFI (HD.out.2.trans hF)))
      have HBF := hide (Nat.le_trans HBD.out hF.below.size)
      have HKF := hide hF
      clear hE hFI hF
      go_wp2_with fail
      go_ret3
      exact repPost_bad HE.out HFl.out.1 HFl.out.2.2 HFl.out.2.1
    | some q =>
      obtain ⟨qa, qb⟩ := q
      rw [hcA] at HRE2
      have HE := hide (show repE p i = .yes qa qb (i + n + 1) from HRE2.out)
      simp only [Option.isSome_some, countsV_of hcA]
      have c3 := H3.out.1.box.cell
      have f3 := H3.out.1.box.frozen
      have hsum : (i : Int) + ((n : Int) + 1) = ((i + n + 1 : Nat) : Int) := by omega
      have HS := hide hsum
      clear hsum HRE2 hcA
      go_wp2_with fail
      go_ret3
      rw [HS.out]
      exact repPost_yes HE.out (RdE.setI H3.out.1 (i + n + 1)) (H3.out.2.set HH.out.base _ _)
end Go.Proofs.YtpkcklpjbeginaaGreatDoor

/-! ## Ere6c -/
namespace Go.Proofs.YtpkcklpjbeginaaGreatDoor
open Go.RowKit

/-- What a method that reads answers: a tree in new memory, the reader behind it; or the first fault is kept (and some tree answered). -/
def EPost (w0 : World) (gr : Nat) (p : ByteArray) (fl : Int) (a : Nat → Addr) (d K : Nat) (ov : Value) (y : World) (r : PR) (e : Ending) (y' : World) : Prop := match r with
  | .ok t j h => ∃ B c ov', e = .returned (.agg (t.hd.cells (.slice B t.subs.length c)).toArray) ∧ T.In y' (fun b => y.heap.size ≤ b ∧ b < y'.heap.size ∧ ov'.ownBlock ≠ some b) t B ∧ RdE y' gr w0.heap.size p j fl h ov' d .nilIface ∧ RdF gr w0.heap.size ov.ownBlock ov'.ownBlock y y'
  | .bad c pl => ∃ t B cc ov' i' g' d' gf, e = .returned (.agg (t.hd.cells (.slice B t.subs.length cc)).toArray) ∧ T.In y' (fun b => y.heap.size ≤ b ∧ b < y'.heap.size ∧ ov'.ownBlock ≠ some b) t B ∧ t.nodes ≤ K ∧ RdE y' gr w0.heap.size p i' fl g' ov' d' (faultV gf) ∧ FaultIs a y' gf c pl ∧ RdF gr w0.heap.size ov.ownBlock ov'.ownBlock y y'
section
variable {w0 : World} {gr : Nat} {p : ByteArray} {fl : Int} {a : Nat → Addr} {d K : Nat} {ov ov' : Value} {y w w9 : World} {r : PR}
/-- The answer is in its block. -/
theorem eok {t : T} {j h R c : Nat} {cur : Array Value} {B : Option Addr} (hr : r = .ok t j h) (hE : RdE w gr w0.heap.size p j fl h ov' d .nilIface) (hF : RdF gr w0.heap.size ov.ownBlock ov'.ownBlock y w) (hT : T.In w (fun b => R + 1 ≤ b ∧ b < w.heap.size ∧ ov'.ownBlock ≠ some b) t B)
    (hg : w.grownBy w9 (some R)) (hR : Blk w R 27 cur) (hyR : y.heap.size ≤ R) (hB : w0.heap.size ≤ y.heap.size) : EPost w0 gr p fl a d K ov y r (.returned (.agg (t.hd.cells (.slice B t.subs.length c)).toArray)) w9 := by
  subst hr
  obtain ⟨h1, h2, h3⟩ := rd_fin hE hF hT hg hR hyR hB
  exact ⟨B, c, ov', rfl, h3, h1, h2⟩
theorem ebad {t : T} {c R cc : Nat} {pl : Int} {cur : Array Value} {B : Option Addr} {i' g' d' gf : Nat} (hr : r = .bad c pl) (hE : RdE w gr w0.heap.size p i' fl g' ov' d' (faultV gf)) (hI : FaultIs a w gf c pl) (hF : RdF gr w0.heap.size ov.ownBlock ov'.ownBlock y w) (hT : T.In w (fun b => R + 1 ≤ b ∧ b < w.heap.size ∧ ov'.ownBlock ≠ some b) t B) (hn : t.nodes ≤ K)
    (hg : w.grownBy w9 (some R)) (hR : Blk w R 27 cur) (hyR : y.heap.size ≤ R) (hB : w0.heap.size ≤ y.heap.size) : EPost w0 gr p fl a d K ov y r (.returned (.agg (t.hd.cells (.slice B t.subs.length cc)).toArray)) w9 := by
  subst hr
  obtain ⟨h1, h2, h3⟩ := rd_fin hE hF hT hg hR hyR hB
  refine ⟨t, B, cc, ov', i', g', d', gf, rfl, h3, hn, h1, ?_, h2⟩
  exact Blk.grown hI hg (fun e => (blk_ne6 hI hR (by decide)) (Option.some.inj e))
end
def nilT : T := .mk ⟨0, 0, 0, 0, 0, 0, 0, 0, false⟩ []
theorem bytT_congr {S T : Nat → Bool} (h : ∀ x, x < 256 → S x = T x) : bytT S = bytT T := by
  unfold bytT
  rw [wd_congr (S := S) (T := T) (k := 0) (fun j hj => h _ (by omega)), wd_congr (S := S) (T := T) (k := 1) (fun j hj => h _ (by omega)), wd_congr (S := S) (T := T) (k := 2) (fun j hj => h _ (by omega)), wd_congr (S := S) (T := T) (k := 3) (fun j hj => h _ (by omega))]
theorem punct_some : (cls5 (ByteArray.toList ⟨#[112, 117, 110, 99, 116]⟩)).isSome = true := by
  rw [ByteArray.toList_eq]
  first | rfl | decide
/-- The contract of group. -/
def GroupC (w0 : World) (gr : Nat) (p : ByteArray) (fl : Int) (a : Nat → Addr) (d : Nat) (deeper : Option (Nat → Nat → PR)) : Prop :=
  ∀ (y : World) (ov : Value) (i g : Nat), RdE y gr w0.heap.size p (i + 1) fl g ov d .nilIface → i < p.size → g ≤ i → Below w0.heap.size w0 y → Calls Tryz.prog 159 #[.pointer (some ⟨gr, 0, none⟩), .int .i64 (i : Int)] y (EPost w0 gr p fl a d (10000 * (39 - d)) ov y (groupP p 1 deeper i g))
/-- What bracket.Read has answered, in a later world. -/
def RdOut (r : R5) (a : Nat → Addr) (z : World) (S : Nat → Bool) (n : Int) (ev : Value) : Prop := match r with
  | .good S' n' => S = S' ∧ n = (n' : Int) ∧ ev = .nilIface
  | .bad g pl => ∃ gf, ev = faultV gf ∧ FaultIs a z gf g pl
theorem RdOut.next {r : R5} {a : Nat → Addr} {z z' : World} {S : Nat → Bool} {n : Int} {ev : Value} (h : RdOut r a z S n ev) (hb : Below z.heap.size z z') : RdOut r a z' S n ev := by
  cases r with
  | good S' n' => exact h
  | bad g pl =>
    obtain ⟨gf, h1, h2⟩ := h
    exact ⟨gf, h1, Blk.next h2 hb⟩
theorem RdOut.grown {r : R5} {a : Nat → Addr} {z z' : World} {S : Nat → Bool} {n : Int} {ev : Value} {R : Nat} {t : TypeId} {cs : Array Value} (h : RdOut r a z S n ev) (hg : z.grownBy z' (some R)) (hR : Blk z R t cs) (ht : t ≠ 87) : RdOut r a z' S n ev := by
  cases r with
  | good S' n' => exact h
  | bad g pl =>
    obtain ⟨gf, h1, h2⟩ := h
    exact ⟨gf, h1, Blk.grown h2 hg (fun e => (blk_ne6 h2 hR (Ne.symm ht)) (Option.some.inj e))⟩
/-- A call of bracket.Read that has ended. -/
def ReadEnd (r : R5) (a : Nat → Addr) (y : World) (e : Ending) (y' : World) : Prop := ∃ S n ev, e = .returned (.tuple #[setV S, .int .i64 n, ev]) ∧ RdOut r a y' S n ev ∧ Below y.heap.size y y'
theorem readEnd_any (p : ByteArray) (i : Nat) (fl : Int) (ic nl : Bool) (h2 : ic = !decide (bits .and .i64 fl 2 = 0)) (h4 : nl = !decide (bits .and .i64 fl 4 = 0)) (hs : p.size ≤ 1024) (h91 : pb p i = 91) (a : Nat → Addr) (m : Int) (y : World) (hB : B5 y a m) : Calls Tryz.prog 130 #[.string p, .int .i64 (i : Int), .int .i64 fl] y (ReadEnd (readP p i ic nl) a y) := by
  refine (read5_any p (i : Int) fl (by omega) a m y hB).mono ?_
  intro e y' h1
  unfold ReadIs at h1
  rw [if_pos ⟨by omega, by rw [Int.toNat_natCast, h91]⟩, Int.toNat_natCast, ← h2, ← h4] at h1
  cases hr : readP p i ic nl with
  | good S n =>
    rw [hr] at h1
    exact ⟨S, n, .nilIface, h1.1, ⟨rfl, rfl, rfl⟩, h1.2⟩
  | bad g pl =>
    rw [hr] at h1
    obtain ⟨gf, h3, h4, h5, h6⟩ := h1
    exact ⟨_, 0, faultV gf, h3, ⟨gf, rfl, h5⟩, h6⟩
set_option maxRecDepth 100000 in
set_option maxHeartbeats 2000000 in
theorem ereAtom_any {w0 y : World} {gr : Nat} {p : ByteArray} {i : Nat} {fl : Int} {g : Nat} {ov : Value} {d : Nat} {a : Nat → Addr} {m : Int} {deeper : Option (Nat → Nat → PR)} (hd : d ≤ 32) (hB5 : B5 w0 a m) (hG : GroupC w0 gr p fl a d deeper) (h : RdE y gr w0.heap.size p i fl g ov d .nilIface) (hp : p.size ≤ 1024) (hi : i < p.size) (hgi : g ≤ i) (hw : Below w0.heap.size w0 y) :
    Calls Tryz.prog 142 #[.pointer (some ⟨gr, 0, none⟩), .int .u8 ((pb p i : Nat) : Int)] y (EPost w0 gr p fl a d (10000 * (39 - d)) ov y (atomE p (!decide (bits .and .i64 fl 2 = 0)) (!decide (bits .and .i64 fl 4 = 0)) deeper i g)) := by
  have hB0 := hw.size
  have HG := hide hG
  clear hG
  have hz0 := Blk.new y 27 zeroCells
  have hbel := (Below.refl y.heap.size y).alloc (Nat.le_refl _) (.cells zeroCells 27)
  have H0 := hide (And.intro (h.next hbel) (And.intro (RdF.of_below (gr := gr) (x := ov.ownBlock) (Nat.le_trans hB0 (Nat.le_refl _)) hbel) hz0))
  have HB := hide hB0
  have HM := hide (fun (y' : World) (hb : Below w0.heap.size y y') => hB5.below (hw.trans hb))
  have HW := hide hw
  clear hz0 hbel h hB0 hB5 hw
  unfold zeroCells at *
  have HZ := hide (World.size_alloc y (.cells #[.int .i64 0, .int .u64 0, .int .u64 0, .int .u64 0, .int .u64 0, .slice none 0 0, .int .i64 0, .int .i64 0, .int .i64 0, .bool false] 27))
  obtain ⟨ic, hic⟩ : ∃ ic, ic = !decide (bits .and .i64 fl 2 = 0) := ⟨_, rfl⟩
  obtain ⟨nl, hnl⟩ : ∃ nl, nl = !decide (bits .and .i64 fl 4 = 0) := ⟨_, rfl⟩
  rw [← hic, ← hnl]
  have HIC := hide hic
  have HNL := hide hnl
  clear hic hnl
  have hpl := pb_lt hi
  have c0 := H0.out.1.box.cell
  have f0 := H0.out.1.box.frozen
  obtain ⟨res, hres⟩ : ∃ res, res = atomE p ic nl deeper i g := ⟨_, rfl⟩
  rw [← hres]
  have HRS := hide hres
  clear hres
  obtain ⟨c, hc⟩ : ∃ c, c = pb p i := ⟨_, rfl⟩
  rw [← hc] at hpl ⊢
  have HC := hide hc
  clear hc
  go_enter Tryz.func142, Tryz.ntmps142
  go_upto_region 1 with fail
  generalize (y.alloc (.cells #[.int .i64 0, .int .u64 0, .int .u64 0, .int .u64 0, .int .u64 0, .slice none 0 0, .int .i64 0, .int .i64 0, .int .i64 0, .bool false] 27)) = W at *
  go_upto_region 3 with fail
  have e1 : ((i : Int) + 1) = ((i + 1 : Nat) : Int) := by omega
  rw [e1]
  have H1 := hide (And.intro (RdE.setI H0.out.1 (i + 1)) (And.intro (H0.out.2.1.set H0.out.1.base 1 (.int .i64 ((i + 1 : Nat) : Int))) (H0.out.2.2.far (blk_ne6 H0.out.2.2 H0.out.1.box (by decide)) (p := ⟨gr, 1, none⟩) (.int .i64 ((i + 1 : Nat) : Int)))))
  generalize (W.setCell ⟨gr, 1, none⟩ (.int .i64 ((i + 1 : Nat) : Int))) = W1 at *
  have HB1 := hide (Nat.le_trans HB.out H1.out.2.1.below.size)
  have HZ1 := hide (Nat.lt_of_lt_of_le H1.out.2.2.lt (Nat.le_refl _))
  clear c0 f0 e1 H0 HZ
  by_cases h46 : c = 46
  · have HE := hide (show res = .ok (bytT (dotS nl)) (i + 1) g from by rw [HRS.out]; unfold atomE; rw [← HC.out, if_pos h46])
    subst h46
    clear HG HRS hpl
    go_wp2_with fail
    refine (range_any 0 255 _ (by decide) (by decide)).mono ?_
    rintro e w1 ⟨rfl, hb1⟩
    obtain ⟨S, hS⟩ : ∃ S : Nat → Bool, S = fun x => decide (0 ≤ x ∧ x ≤ 255) := ⟨_, rfl⟩
    rw [← hS]
    have HS := hide hS
    have hb1' := hb1.trans ((Below.refl w1.heap.size w1).alloc (Nat.le_refl _) (.cells #[.int .u64 0, .int .u64 0, .int .u64 0, .int .u64 0] 24) |>.mono hb1.size)
    have H2 := hide (And.intro (H1.out.1.next hb1') (And.intro (H1.out.2.1.next HB1.out hb1') (And.intro (H1.out.2.2.next hb1') (Blk.new w1 24 #[.int .u64 0, .int .u64 0, .int .u64 0, .int .u64 0]))))
    have HZ2 := hide (Nat.lt_of_lt_of_le HZ1.out hb1.size)
    have HB2 := hide (Nat.le_trans HB1.out hb1'.size)
    clear hS hb1 hb1'
    have hlt2 := HZ2.out
    go_upto_region 6 with (refine wpList_store_set rfl _ _ rfl w1.heap.size _ _ rfl rfl H2.out.2.2.2 rfl ?_; intro w2 hrow_w2 hg_w2 hz_w2)
    have H3 := hide (And.intro (H2.out.1.grown hg_w2 (fun e => (blk_ne6 H2.out.2.2.2 H2.out.1.box (by decide)) (Option.some.inj e)) (.inr (H2.out.1.apart H2.out.2.2.2 (by decide)))) (And.intro (H2.out.2.1.grown hg_w2 (fun q hq => by rw [← Option.some.inj hq]; omega) HB.out) (And.intro (H2.out.2.2.1.grown hg_w2 (fun e => by have := Option.some.inj e; omega)) (hrow_w2))))
    have HBq := hide (show w0.heap.size ≤ w2.heap.size from Nat.le_trans HB2.out (Nat.le_of_eq hz_w2.symm))
    clear hg_w2 hz_w2 hrow_w2 hlt2
    have c3 := H3.out.1.box.cell
    cases nl with
    | false =>
      have hbit : bits .and .i64 fl 4 = 0 := by have := HNL.out; simpa using this
      go_wp2_with (refine wpList_load_set rfl _ rfl w1.heap.size _ rfl H3.out.2.2.2 ?_)
      refine (bytes6_any S _).mono ?_
      rintro e wb ⟨rfl, hbb⟩
      have H4 := hide (And.intro (H3.out.1.next hbb) (And.intro (H3.out.2.1.next HBq.out hbb) (And.intro (H3.out.2.2.1.next hbb) (H3.out.2.2.2.next hbb))))
      clear hbb
      go_wp2_with (refine wpList_store_node rfl _ _ rfl y.heap.size _ _ _ _ _ rfl rfl H4.out.2.2.1 rfl ?_; intro w9 hrow9 hg9 hz9)
      refine bodyPost_ret (node_result rfl _ _ y.heap.size _ _ rfl hrow9) rfl ?_
      exact eok (t := bytT S) (by rw [HE.out, bytT_congr (S := dotS false) (T := S) (fun x hx => by rw [HS.out]; simp [dotS]; omega)]) H4.out.1 H4.out.2.1 (T.In_iff.2 trivial) hg9 H4.out.2.2.1 (Nat.le_refl _) HB.out
    | true =>
      have hbit : ¬ bits .and .i64 fl 4 = 0 := fun hh => by have := HNL.out; rw [hh] at this; simp at this
      have hbit2 : (bits .and .i64 fl 4 != 0) = true := by rw [bne_iff_ne]; exact hbit
      go_upto_region 7 with fail
      have hzA := H3.out.2.2.2.lt
      refine wp_region_mix (fun z => Below w2.heap.size w2 z) [4] (by kernel_rfl) (fun hcl => ?_)
      have hS : Below w2.heap.size w2 w2.drew := (Below.refl _ _).drew
      refine wpAnyT_take (i := 0) hcl rfl (by kernel_rfl) (v := ?_) (fun _ _ _ h => h) hS (Or.inl ⟨rfl, fun w' hS => ?_⟩) (fun hcl => ?_)
      rotate_left
      · skip
        have cb : ∀ i : Nat, _ = _ := (H3.out.2.2.2.below hS hzA).cell
        simp only [setC] at cb
        go_simp
        with_reducible rfl
      simp only [List.getElem_toArray, List.getElem_cons_zero, List.getElem_cons_succ, Act.put, List.setIfInBounds_toArray, List.set_cons_zero, List.set_cons_succ]
      refine wpAnyT_step (i := 1) hcl rfl (by kernel_rfl) (fun hcl => ?_)
      simp only [List.getElem_toArray, List.getElem_cons_zero, List.getElem_cons_succ, Act.put, List.setIfInBounds_toArray, List.set_cons_zero, List.set_cons_succ]
      go_wp2_with fail
      have hu : Blk (w2.alloc (.cells #[.int .u8 10] 5)).drew w2.heap.size 5 #[.int .u8 10] := Blk.new w2.drew 5 #[.int .u8 10]
      have hS5 : Below w2.heap.size w2 (w2.alloc (.cells #[.int .u8 10] 5)).drew := ((Below.refl w2.heap.size w2).alloc (Nat.le_refl _) (.cells #[.int .u8 10] 5)).drew
      generalize (w2.alloc (.cells #[.int .u8 10] 5)).drew = V5 at *
      refine ⟨hS5, ?_⟩
      clear hS
      refine wpAnyT_step (i := 2) hcl rfl (by kernel_rfl) (fun hcl => ?_)
      simp only [List.getElem_toArray, List.getElem_cons_zero, List.getElem_cons_succ, Act.put, List.setIfInBounds_toArray, List.set_cons_zero, List.set_cons_succ]
      go_wp2_with fail
      refine (of1_any 10 _ V5 (by decide) hu).mono ?_
      rintro e V6 ⟨rfl, hb6⟩
      generalize htC : (fun x => decide (x = 10)) = TC
      have HTC := hide htC.symm
      clear htC
      have hS6 := hS5.trans (hb6.mono hS5.size)
      go_wp2_with fail
      refine ⟨hS6, ?_⟩
      clear hS5 hb6 hu
      refine wpAnyT_step (i := 3) hcl rfl (by kernel_rfl) (fun hcl => ?_)
      simp only [List.getElem_toArray, List.getElem_cons_zero, List.getElem_cons_succ, Act.put, List.setIfInBounds_toArray, List.set_cons_zero, List.set_cons_succ]
      go_wp2_with fail
      refine (less_any S TC V6).mono ?_
      rintro e V7 ⟨rfl, hb7⟩
      generalize htD : (fun x => S x && !TC x) = TD
      have HTD := hide htD.symm
      clear htD
      have hS7 := hS6.trans (hb7.mono hS6.size)
      go_wp2_with fail
      refine ⟨hS7, ?_⟩
      clear hS6 hb7
      have HA7 := hide (And.intro (H3.out.1.next hS7) (And.intro (H3.out.2.1.next HBq.out hS7) (And.intro (H3.out.2.2.1.next hS7) (H3.out.2.2.2.next hS7))))
      have HB7 := hide (Nat.le_trans HBq.out hS7.size)
      clear hS7
      refine wpAnyT_last (i := 4) hcl rfl (by kernel_rfl) (by kernel_rfl) (fun hcl => ?_)
      simp only [List.getElem_toArray, List.getElem_cons_zero, List.getElem_cons_succ, Act.put, List.setIfInBounds_toArray, List.set_cons_zero, List.set_cons_succ]
      have hlt2 := HZ2.out
      refine wpList_store_set rfl _ _ rfl w1.heap.size _ _ rfl rfl HA7.out.2.2.2 rfl ?_
      intro w8 hrow hg9 hz9
      refine wpList_nil ?_
      have H4 := hide (And.intro (HA7.out.1.grown hg9 (fun e => (blk_ne6 HA7.out.2.2.2 HA7.out.1.box (by decide)) (Option.some.inj e)) (.inr (HA7.out.1.apart HA7.out.2.2.2 (by decide)))) (And.intro (HA7.out.2.1.grown hg9 (fun q hq => by rw [← Option.some.inj hq]; omega) HB.out) (And.intro (HA7.out.2.2.1.grown hg9 (fun e => by have := Option.some.inj e; omega)) (hrow))))
      have HBq := hide (show w0.heap.size ≤ w8.heap.size from Nat.le_trans HB7.out (Nat.le_of_eq hz9.symm))
      clear hrow hg9 hz9 hlt2
      refine wpAnyT_done (by kernel_rfl) ?_ _
      go_wp2_with (refine wpList_load_set rfl _ rfl w1.heap.size _ rfl H4.out.2.2.2 ?_)
      refine (bytes6_any TD _).mono ?_
      rintro e wb ⟨rfl, hbb⟩
      have H5 := hide (And.intro (H4.out.1.next hbb) (And.intro (H4.out.2.1.next HBq.out hbb) (And.intro (H4.out.2.2.1.next hbb) (H4.out.2.2.2.next hbb))))
      clear hbb
      go_wp2_with (refine wpList_store_node rfl _ _ rfl y.heap.size _ _ _ _ _ rfl rfl H5.out.2.2.1 rfl ?_; intro w9 hrow9 hg9 hz9)
      refine bodyPost_ret (node_result rfl _ _ y.heap.size _ _ rfl hrow9) rfl ?_
      exact eok (t := bytT TD) (by rw [HE.out, bytT_congr (S := dotS true) (T := TD) (fun x hx => by rw [HTD.out, HTC.out, HS.out]; simp [dotS]; omega)]) H5.out.1 H5.out.2.1 (T.In_iff.2 trivial) hg9 H5.out.2.2.1 (Nat.le_refl _) HB.out
  · by_cases h91 : c = 91
    · have HE := hide (show res = setAt p ic nl i g from by rw [HRS.out]; unfold atomE; rw [← HC.out, if_neg h46, if_pos h91])
      have HRd := hide (fun (y' : World) (hb : B5 y' a m) => readEnd_any p i fl ic nl HIC.out HNL.out hp (by rw [← HC.out, h91]) a m y' hb)
      subst h91
      clear HG HRS hpl
      obtain ⟨r5, hr5⟩ : ∃ r5, r5 = readP p i ic nl := ⟨_, rfl⟩
      rw [← hr5] at HRd
      have HR5 := hide hr5
      clear hr5
      go_upto_region 10 with fail
      go_cut [7, 8, 9] (fun v7 v8 v9 wx => ∃ gb S n ev, v7 = .pointer (some ⟨gb, 0, none⟩) ∧ v8 = .int .i64 n ∧ v9 = ev ∧ W1.heap.size ≤ gb ∧ (RdE wx gr w0.heap.size p (i + 1) fl g ov d .nilIface ∧ RdF gr w0.heap.size ov.ownBlock ov.ownBlock y wx ∧ Blk wx y.heap.size 27 #[.int .i64 0, .int .u64 0, .int .u64 0, .int .u64 0, .int .u64 0, .slice none 0 0, .int .i64 0, .int .i64 0, .int .i64 0, .bool false] ∧ Blk wx gb 24 (setC S).toArray) ∧ RdOut r5 a wx S n ev ∧ w0.heap.size ≤ wx.heap.size)
      case first =>
        refine wp_region_mix (fun z => Below W1.heap.size W1 z) [] (by kernel_rfl) (fun hcl => ?_)
        generalize hz0 : W1.drew = z0
        have hS : Below W1.heap.size W1 z0 := by rw [← hz0]; exact (Below.refl _ _).drew
        clear hz0
        refine wpAnyT_free (i := 0) hcl rfl (by kernel_rfl) (v := ?_) (fun _ _ _ h => h) hS (Or.inl ⟨rfl, fun w' _ => ?_⟩) (fun hcl => ?_)
        rotate_left
        · go_simp
          with_reducible rfl
        simp only [List.getElem_toArray, List.getElem_cons_zero, List.getElem_cons_succ, Act.put, List.setIfInBounds_toArray, List.set_cons_zero, List.set_cons_succ]
        refine wpAnyT_free (i := 1) hcl rfl (by kernel_rfl) (v := ?_) (fun _ _ _ h => h) hS (Or.inl ⟨rfl, fun w' _ => ?_⟩) (fun hcl => ?_)
        rotate_left
        · go_simp
          with_reducible rfl
        simp only [List.getElem_toArray, List.getElem_cons_zero, List.getElem_cons_succ, Act.put, List.setIfInBounds_toArray, List.set_cons_zero, List.set_cons_succ]
        refine wpAnyT_free (i := 2) hcl rfl (by kernel_rfl) (v := ?_) (fun _ _ _ h => h) hS (Or.inl ⟨rfl, fun w' _ => ?_⟩) (fun hcl => ?_)
        rotate_left
        · go_simp
          with_reducible rfl
        simp only [List.getElem_toArray, List.getElem_cons_zero, List.getElem_cons_succ, Act.put, List.setIfInBounds_toArray, List.set_cons_zero, List.set_cons_succ]
        refine wpAnyT_take (i := 3) hcl rfl (by kernel_rfl) (v := ?_) (fun _ _ _ h => h) hS (Or.inl ⟨rfl, fun w' hS => ?_⟩) (fun hcl => ?_)
        rotate_left
        · skip
          have cr : ∀ i : Nat, _ = _ := (H1.out.1.next hS).box.cell
          go_simp
          with_reducible rfl
        simp only [List.getElem_toArray, List.getElem_cons_zero, List.getElem_cons_succ, Act.put, List.setIfInBounds_toArray, List.set_cons_zero, List.set_cons_succ]
        refine wpAnyT_free (i := 4) hcl rfl (by kernel_rfl) (v := ?_) (fun _ _ _ h => h) hS (Or.inl ⟨rfl, fun w' _ => ?_⟩) (fun hcl => ?_)
        rotate_left
        · go_simp
          with_reducible rfl
        simp only [List.getElem_toArray, List.getElem_cons_zero, List.getElem_cons_succ, Act.put, List.setIfInBounds_toArray, List.set_cons_zero, List.set_cons_succ]
        refine wpAnyT_free (i := 5) hcl rfl (by kernel_rfl) (v := ?_) (fun _ _ _ h => h) hS (Or.inl ⟨rfl, fun w' _ => ?_⟩) (fun hcl => ?_)
        rotate_left
        · go_simp
          with_reducible rfl
        simp only [List.getElem_toArray, List.getElem_cons_zero, List.getElem_cons_succ, Act.put, List.setIfInBounds_toArray, List.set_cons_zero, List.set_cons_succ]
        refine wpAnyT_free (i := 6) hcl rfl (by kernel_rfl) (v := ?_) (fun _ _ _ h => h) hS (Or.inl ⟨rfl, fun w' _ => ?_⟩) (fun hcl => ?_)
        rotate_left
        · go_simp
          with_reducible rfl
        simp only [List.getElem_toArray, List.getElem_cons_zero, List.getElem_cons_succ, Act.put, List.setIfInBounds_toArray, List.set_cons_zero, List.set_cons_succ]
        refine wpAnyT_free (i := 7) hcl rfl (by kernel_rfl) (v := ?_) (fun _ _ _ h => h) hS (Or.inl ⟨rfl, fun w' _ => ?_⟩) (fun hcl => ?_)
        rotate_left
        · go_simp
          with_reducible rfl
        simp only [List.getElem_toArray, List.getElem_cons_zero, List.getElem_cons_succ, Act.put, List.setIfInBounds_toArray, List.set_cons_zero, List.set_cons_succ]
        refine wpAnyT_take (i := 8) hcl rfl (by kernel_rfl) (v := ?_) (fun _ _ _ h => h) hS (Or.inl ⟨rfl, fun w' hS => ?_⟩) (fun hcl => ?_)
        rotate_left
        · skip
          have cr : ∀ i : Nat, _ = _ := (H1.out.1.next hS).box.cell
          go_simp
          with_reducible rfl
        simp only [List.getElem_toArray, List.getElem_cons_zero, List.getElem_cons_succ, Act.put, List.setIfInBounds_toArray, List.set_cons_zero, List.set_cons_succ]
        have HS0 := hide hS
        clear hS
        refine wpAnyT_pick2 (i := 9) (j := 14) hcl rfl rfl (by kernel_rfl) (fun hcl => ?_) (fun hcl => ?_)
        · simp only [List.getElem_toArray, List.getElem_cons_zero, List.getElem_cons_succ, Act.put, List.setIfInBounds_toArray, List.set_cons_zero, List.set_cons_succ]
          go_wp2_with fail
          refine (HRd.out _ (HM.out _ (H1.out.2.1.next HB1.out HS0.out).below)).mono ?_
          rintro e z1 ⟨S, n, ev, rfl, hro, hb⟩
          have HS1 := hide (HS0.out.trans (hb.mono HS0.out.size))
          have HO := hide hro
          clear hro hb
          go_wp2_with fail
          refine ⟨HS1.out, ?_⟩
          have hS := HS1.out
          refine wpAnyT_free (i := 10) hcl rfl (by kernel_rfl) (v := ?_) (fun _ _ _ h => h) hS (Or.inl ⟨rfl, fun w' _ => ?_⟩) (fun hcl => ?_)
          rotate_left
          · go_simp
            with_reducible rfl
          simp only [List.getElem_toArray, List.getElem_cons_zero, List.getElem_cons_succ, Act.put, List.setIfInBounds_toArray, List.set_cons_zero, List.set_cons_succ]
          refine wpAnyT_free (i := 11) hcl rfl (by kernel_rfl) (v := ?_) (fun _ _ _ h => h) hS (Or.inl ⟨rfl, fun w' _ => ?_⟩) (fun hcl => ?_)
          rotate_left
          · go_simp
            with_reducible rfl
          simp only [List.getElem_toArray, List.getElem_cons_zero, List.getElem_cons_succ, Act.put, List.setIfInBounds_toArray, List.set_cons_zero, List.set_cons_succ]
          refine wpAnyT_free (i := 12) hcl rfl (by kernel_rfl) (v := ?_) (fun _ _ _ h => h) hS (Or.inl ⟨rfl, fun w' _ => ?_⟩) (fun hcl => ?_)
          rotate_left
          · go_simp
            with_reducible rfl
          simp only [List.getElem_toArray, List.getElem_cons_zero, List.getElem_cons_succ, Act.put, List.setIfInBounds_toArray, List.set_cons_zero, List.set_cons_succ]
          refine wpAnyT_free (i := 13) hcl rfl (by kernel_rfl) (v := ?_) (fun _ _ _ h => h) hS (Or.inl ⟨rfl, fun w' _ => ?_⟩) (fun hcl => ?_)
          rotate_left
          · go_simp
            with_reducible rfl
          simp only [List.getElem_toArray, List.getElem_cons_zero, List.getElem_cons_succ, Act.put, List.setIfInBounds_toArray, List.set_cons_zero, List.set_cons_succ]
          clear hS
          refine wpAnyT_step (i := 14) hcl rfl (by kernel_rfl) (fun hcl => ?_)
          simp only [List.getElem_toArray, List.getElem_cons_zero, List.getElem_cons_succ, Act.put, List.setIfInBounds_toArray, List.set_cons_zero, List.set_cons_succ]
          go_wp2_with fail
          have HS2 := hide (HS1.out.alloc HS1.out.size (.cells #[.int .u64 0, .int .u64 0, .int .u64 0, .int .u64 0] 24))
          refine ⟨HS2.out, ?_⟩
          have HBX := hide (Blk.new z1 24 #[.int .u64 0, .int .u64 0, .int .u64 0, .int .u64 0])
          have HG := hide (HS1.out.size)
          replace HO := hide (HO.out.next ((Below.refl z1.heap.size z1).alloc (Nat.le_refl _) (.cells #[.int .u64 0, .int .u64 0, .int .u64 0, .int .u64 0] 24)))
          generalize (z1.alloc (.cells #[.int .u64 0, .int .u64 0, .int .u64 0, .int .u64 0] 24)) = z2 at *
          generalize z1.heap.size = gb at *
          refine wpAnyT_step (i := 15) hcl rfl (by kernel_rfl) (fun hcl => ?_)
          simp only [List.getElem_toArray, List.getElem_cons_zero, List.getElem_cons_succ, Act.put, List.setIfInBounds_toArray, List.set_cons_zero, List.set_cons_succ]
          refine wpList_store_set rfl _ _ rfl gb _ _ rfl rfl HBX.out rfl ?_
          intro w8 hrow hg9 hz9
          refine wpList_nil ?_
          have HGy := HG.out
          have hltR := HZ1.out
          have hb9 := HS2.out
          have q1 := RdG.next H1.out.1 hb9
          have q2 := H1.out.2.1.next HB1.out hb9
          have q3 := H1.out.2.2.next hb9
          have HF := hide (And.intro (q1.grown hg9 (fun e => (blk_ne6 HBX.out q1.box (by decide)) (Option.some.inj e)) (.inr (q1.apart HBX.out (by decide)))) (And.intro (q2.grown hg9 (fun q hq => by rw [← Option.some.inj hq]; omega) HB.out) (And.intro (q3.grown hg9 (fun e => by have := Option.some.inj e; omega)) (And.intro hrow (And.intro (HO.out.grown hg9 HBX.out (by decide)) (show w0.heap.size ≤ w8.heap.size from Nat.le_trans HB1.out (Nat.le_trans hb9.size (Nat.le_of_eq hz9.symm))))))))
          have hS : Below W1.heap.size W1 w8 := below_grew hb9 hg9 (Nat.le_refl _) (fun q hq => by rw [← Option.some.inj hq]; omega)
          refine ⟨hS, ?_⟩
          clear hrow hg9 hz9 HGy hltR hb9 q1 q2 q3
          refine wpAnyT_free (i := 16) hcl rfl (by kernel_rfl) (v := ?_) (fun _ _ _ h => h) hS (Or.inl ⟨rfl, fun w' _ => ?_⟩) (fun hcl => ?_)
          rotate_left
          · go_simp
            with_reducible rfl
          simp only [List.getElem_toArray, List.getElem_cons_zero, List.getElem_cons_succ, Act.put, List.setIfInBounds_toArray, List.set_cons_zero, List.set_cons_succ]
          refine wpAnyT_free (i := 17) hcl rfl (by kernel_rfl) (v := ?_) (fun _ _ _ h => h) hS (Or.inl ⟨rfl, fun w' _ => ?_⟩) (fun hcl => ?_)
          rotate_left
          · go_simp
            with_reducible rfl
          simp only [List.getElem_toArray, List.getElem_cons_zero, List.getElem_cons_succ, Act.put, List.setIfInBounds_toArray, List.set_cons_zero, List.set_cons_succ]
          clear hS
          refine wpAnyT_done (by kernel_rfl) ?_ _
          go_wp2_with fail
          go_meet
          case rel => exact ⟨_, _, _, _, rfl, rfl, rfl, HG.out, ⟨HF.out.1, HF.out.2.1, HF.out.2.2.1, HF.out.2.2.2.1⟩, HF.out.2.2.2.2.1, HF.out.2.2.2.2.2⟩
        · simp only [List.getElem_toArray, List.getElem_cons_zero, List.getElem_cons_succ, Act.put, List.setIfInBounds_toArray, List.set_cons_zero, List.set_cons_succ]
          go_wp2_with fail
          have HS1 := hide (HS0.out.alloc HS0.out.size (.cells #[.int .u64 0, .int .u64 0, .int .u64 0, .int .u64 0] 24))
          refine ⟨HS1.out, ?_⟩
          have HBX := hide (Blk.new z0 24 #[.int .u64 0, .int .u64 0, .int .u64 0, .int .u64 0])
          have HG := hide (HS0.out.size)
          generalize (z0.alloc (.cells #[.int .u64 0, .int .u64 0, .int .u64 0, .int .u64 0] 24)) = z1 at *
          generalize z0.heap.size = gb at *
          refine wpAnyT_step (i := 9) hcl rfl (by kernel_rfl) (fun hcl => ?_)
          simp only [List.getElem_toArray, List.getElem_cons_zero, List.getElem_cons_succ, Act.put, List.setIfInBounds_toArray, List.set_cons_zero, List.set_cons_succ]
          go_wp2_with fail
          refine (HRd.out _ (HM.out _ (H1.out.2.1.next HB1.out HS1.out).below)).mono ?_
          rintro e z2 ⟨S, n, ev, rfl, hro, hb⟩
          have HS2 := hide (HS1.out.trans (hb.mono HS1.out.size))
          have HO := hide hro
          replace HBX := hide (HBX.out.next hb)
          clear hro hb
          go_wp2_with fail
          refine ⟨HS2.out, ?_⟩
          have hS := HS2.out
          refine wpAnyT_free (i := 10) hcl rfl (by kernel_rfl) (v := ?_) (fun _ _ _ h => h) hS (Or.inl ⟨rfl, fun w' _ => ?_⟩) (fun hcl => ?_)
          rotate_left
          · go_simp
            with_reducible rfl
          simp only [List.getElem_toArray, List.getElem_cons_zero, List.getElem_cons_succ, Act.put, List.setIfInBounds_toArray, List.set_cons_zero, List.set_cons_succ]
          refine wpAnyT_free (i := 11) hcl rfl (by kernel_rfl) (v := ?_) (fun _ _ _ h => h) hS (Or.inl ⟨rfl, fun w' _ => ?_⟩) (fun hcl => ?_)
          rotate_left
          · go_simp
            with_reducible rfl
          simp only [List.getElem_toArray, List.getElem_cons_zero, List.getElem_cons_succ, Act.put, List.setIfInBounds_toArray, List.set_cons_zero, List.set_cons_succ]
          refine wpAnyT_free (i := 12) hcl rfl (by kernel_rfl) (v := ?_) (fun _ _ _ h => h) hS (Or.inl ⟨rfl, fun w' _ => ?_⟩) (fun hcl => ?_)
          rotate_left
          · go_simp
            with_reducible rfl
          simp only [List.getElem_toArray, List.getElem_cons_zero, List.getElem_cons_succ, Act.put, List.setIfInBounds_toArray, List.set_cons_zero, List.set_cons_succ]
          refine wpAnyT_free (i := 13) hcl rfl (by kernel_rfl) (v := ?_) (fun _ _ _ h => h) hS (Or.inl ⟨rfl, fun w' _ => ?_⟩) (fun hcl => ?_)
          rotate_left
          · go_simp
            with_reducible rfl
          simp only [List.getElem_toArray, List.getElem_cons_zero, List.getElem_cons_succ, Act.put, List.setIfInBounds_toArray, List.set_cons_zero, List.set_cons_succ]
          clear hS
          refine wpAnyT_step (i := 15) hcl rfl (by kernel_rfl) (fun hcl => ?_)
          simp only [List.getElem_toArray, List.getElem_cons_zero, List.getElem_cons_succ, Act.put, List.setIfInBounds_toArray, List.set_cons_zero, List.set_cons_succ]
          refine wpList_store_set rfl _ _ rfl gb _ _ rfl rfl HBX.out rfl ?_
          intro w8 hrow hg9 hz9
          refine wpList_nil ?_
          have HGy := HG.out
          have hltR := HZ1.out
          have hb9 := HS2.out
          have q1 := RdG.next H1.out.1 hb9
          have q2 := H1.out.2.1.next HB1.out hb9
          have q3 := H1.out.2.2.next hb9
          have HF := hide (And.intro (q1.grown hg9 (fun e => (blk_ne6 HBX.out q1.box (by decide)) (Option.some.inj e)) (.inr (q1.apart HBX.out (by decide)))) (And.intro (q2.grown hg9 (fun q hq => by rw [← Option.some.inj hq]; omega) HB.out) (And.intro (q3.grown hg9 (fun e => by have := Option.some.inj e; omega)) (And.intro hrow (And.intro (HO.out.grown hg9 HBX.out (by decide)) (show w0.heap.size ≤ w8.heap.size from Nat.le_trans HB1.out (Nat.le_trans hb9.size (Nat.le_of_eq hz9.symm))))))))
          have hS : Below W1.heap.size W1 w8 := below_grew hb9 hg9 (Nat.le_refl _) (fun q hq => by rw [← Option.some.inj hq]; omega)
          refine ⟨hS, ?_⟩
          clear hrow hg9 hz9 HGy hltR hb9 q1 q2 q3
          refine wpAnyT_free (i := 16) hcl rfl (by kernel_rfl) (v := ?_) (fun _ _ _ h => h) hS (Or.inl ⟨rfl, fun w' _ => ?_⟩) (fun hcl => ?_)
          rotate_left
          · go_simp
            with_reducible rfl
          simp only [List.getElem_toArray, List.getElem_cons_zero, List.getElem_cons_succ, Act.put, List.setIfInBounds_toArray, List.set_cons_zero, List.set_cons_succ]
          refine wpAnyT_free (i := 17) hcl rfl (by kernel_rfl) (v := ?_) (fun _ _ _ h => h) hS (Or.inl ⟨rfl, fun w' _ => ?_⟩) (fun hcl => ?_)
          rotate_left
          · go_simp
            with_reducible rfl
          simp only [List.getElem_toArray, List.getElem_cons_zero, List.getElem_cons_succ, Act.put, List.setIfInBounds_toArray, List.set_cons_zero, List.set_cons_succ]
          clear hS
          refine wpAnyT_done (by kernel_rfl) ?_ _
          go_wp2_with fail
          go_meet
          case rel => exact ⟨_, _, _, _, rfl, rfl, rfl, HG.out, ⟨HF.out.1, HF.out.2.1, HF.out.2.2.1, HF.out.2.2.2.1⟩, HF.out.2.2.2.2.1, HF.out.2.2.2.2.2⟩
      case rest =>
      rename World => W3
      obtain ⟨gb, S, n, ev, hv7, hv8, hv9, hgb, hst, hro, hbx⟩ := hcut
      subst hv7 hv8 hv9
      have H3 := hide hst
      have HBq := hide hbx
      have c3 := H3.out.1.box.cell
      have f3 := H3.out.1.box.frozen
      have HZ3 := hide (Nat.lt_of_lt_of_le HZ1.out hgb)
      clear hst hbx HRd hgb
      unfold setAt at HE
      rw [← HR5.out] at HE
      cases r5 with
      | good S' n' =>
        obtain ⟨rfl, rfl, rfl⟩ := hro
        have HE2 := hide (show res = .ok (bytT S) n' g from HE.out)
        have hn0 := fun w => run_neq_nil_nil_at (P := Tryz.prog) (w := w) 32 Tryz.isIfaceErr6
        clear HE
        go_upto_region 15 with fail
        have H4 := hide (And.intro (RdE.setI H3.out.1 n') (And.intro (H3.out.2.1.set H3.out.1.base 1 (.int .i64 (n' : Int))) (And.intro (H3.out.2.2.1.far (blk_ne6 H3.out.2.2.1 H3.out.1.box (by decide)) (p := ⟨gr, 1, none⟩) (.int .i64 (n' : Int))) (H3.out.2.2.2.far (blk_ne6 H3.out.2.2.2 H3.out.1.box (by decide)) (p := ⟨gr, 1, none⟩) (.int .i64 (n' : Int))))))
        have HBz := hide (show w0.heap.size ≤ (W3.setCell ⟨gr, 1, none⟩ (.int .i64 (n' : Int))).heap.size from by rw [World.size_setCell]; exact HBq.out)
        generalize (W3.setCell ⟨gr, 1, none⟩ (.int .i64 (n' : Int))) = W4 at *
        clear HBq
        have HBq := HBz
        clear HBz c3 f3
        go_wp2_with (refine wpList_load_set rfl _ rfl gb _ rfl H4.out.2.2.2 ?_)
        refine (bytes6_any S _).mono ?_
        rintro e wb ⟨rfl, hbb⟩
        have H5 := hide (And.intro (H4.out.1.next hbb) (And.intro (H4.out.2.1.next HBq.out hbb) (And.intro (H4.out.2.2.1.next hbb) (H4.out.2.2.2.next hbb))))
        clear hbb
        go_wp2_with (refine wpList_store_node rfl _ _ rfl y.heap.size _ _ _ _ _ rfl rfl H5.out.2.2.1 rfl ?_; intro w9 hrow9 hg9 hz9)
        refine bodyPost_ret (node_result rfl _ _ y.heap.size _ _ rfl hrow9) rfl ?_
        exact eok (t := bytT S) HE2.out H5.out.1 H5.out.2.1 (T.In_iff.2 trivial) hg9 H5.out.2.2.1 (Nat.le_refl _) HB.out
      | bad q pl =>
        obtain ⟨gf, rfl, hfi⟩ := hro
        have HE2 := hide (show res = .bad q pl from HE.out)
        have HFI := hide hfi
        have hn0 := fun w => run_neq_iface_nil (P := Tryz.prog) (w := w) 32 Tryz.isIfaceErr6 83 (.pointer (some ⟨gf, 0, none⟩))
        clear HE hfi
        unfold faultV
        go_upto_region 13 with fail
        have H4 := hide (And.intro (RdE.setE H3.out.1 (faultV gf)) (And.intro (H3.out.2.1.set H3.out.1.base 5 (faultV gf)) (And.intro (H3.out.2.2.1.far (blk_ne6 H3.out.2.2.1 H3.out.1.box (by decide)) (p := ⟨gr, 5, none⟩) (faultV gf)) (Blk.far HFI.out (blk_ne6 HFI.out H3.out.1.box (by decide)) (p := ⟨gr, 5, none⟩) (faultV gf)))))
        unfold faultV at H4
        generalize (W3.setCell ⟨gr, 5, none⟩ _) = W4 at *
        clear c3 f3
        go_wp2_with (refine wpList_store_node rfl _ _ rfl y.heap.size _ ⟨0, 0, 0, 0, 0, 0, 0, 0, false⟩ none 0 0 rfl rfl H4.out.2.2.1 rfl ?_; intro w9 hrow9 hg9 hz9)
        refine bodyPost_ret (node_result rfl _ _ y.heap.size _ _ rfl hrow9) rfl ?_
        exact ebad (t := nilT) HE2.out H4.out.1 H4.out.2.2.2 H4.out.2.1 (T.In_iff.2 trivial) (by simp only [nilT, T.nodes, TL.nodes]; omega) hg9 H4.out.2.2.1 (Nat.le_refl _) HB.out
    · by_cases h40 : c = 40
      · have HE := hide (show res = groupP p 1 deeper i g from by rw [HRS.out]; unfold atomE; rw [← HC.out, if_neg h46, if_neg h91, if_pos h40])
        have HGr := hide (HG.out W1 ov i g H1.out.1 hi hgi (HW.out.trans H1.out.2.1.below))
        subst h40
        clear HG HRS hpl
        go_wp2_with fail
        refine HGr.out.mono ?_
        rintro e z hz
        cases hq : groupP p 1 deeper i g with
        | ok t j q =>
          rw [hq] at hz HE
          obtain ⟨B, c', ov', rfl, hin, hE, hF⟩ := hz
          have H2 := hide (And.intro hE (And.intro (H1.out.2.1.trans hF) (hF.blk_ H1.out.2.2 (blk_ne6 H1.out.2.2 H1.out.1.box (by decide)) (H1.out.1.apart H1.out.2.2 (by decide)))))
          have HT := hide (TIn.mono' hin (lo' := y.heap.size + 1) HZ1.out)
          clear hin hE hF HGr hq
          go_wp2_with (refine wpList_store_node rfl _ _ rfl y.heap.size _ _ _ _ _ rfl rfl H2.out.2.2 rfl ?_; intro w9 hrow9 hg9 hz9)
          refine bodyPost_ret (node_result rfl _ _ y.heap.size _ _ rfl hrow9) rfl ?_
          exact eok HE.out H2.out.1 H2.out.2.1 HT.out hg9 H2.out.2.2 (Nat.le_refl _) HB.out
        | bad q pl =>
          rw [hq] at hz HE
          obtain ⟨t, B, cc, ov', i', g', d', gf, rfl, hin, hnod, hE, hFI, hF⟩ := hz
          have H2 := hide (And.intro hE (And.intro (H1.out.2.1.trans hF) (And.intro (hF.blk_ H1.out.2.2 (blk_ne6 H1.out.2.2 H1.out.1.box (by decide)) (H1.out.1.apart H1.out.2.2 (by decide))) hFI)))
          have HT := hide (And.intro (TIn.mono' hin (lo' := y.heap.size + 1) HZ1.out) hnod)
          clear hin hE hF HGr hq hnod hFI
          go_wp2_with (refine wpList_store_node rfl _ _ rfl y.heap.size _ _ _ _ _ rfl rfl H2.out.2.2.1 rfl ?_; intro w9 hrow9 hg9 hz9)
          refine bodyPost_ret (node_result rfl _ _ y.heap.size _ _ rfl hrow9) rfl ?_
          exact ebad HE.out H2.out.1 H2.out.2.2.2 H2.out.2.1 HT.out.1 HT.out.2 hg9 H2.out.2.2.1 (Nat.le_refl _) HB.out
      · by_cases h92 : c = 92
        · have HE := hide (show res = (if i + 1 < p.size ∧ punct5 (pb p (i + 1)) = true then .ok (bytT (oneS ic (pb p (i + 1)))) (i + 2) g else .bad 7 i) from by rw [HRS.out]; unfold atomE; rw [← HC.out, if_neg h46, if_neg h91, if_neg h40, if_pos h92])
          have HNm := hide (fun (w : World) (hb : B5 w a m) => named5_ok a ⟨#[112, 117, 110, 99, 116]⟩ w (hb.errs.var 8 (by decide)))
          subst h92
          clear HG HRS hpl
          go_wp2_with fail
          refine (HNm.out _ (HM.out _ H1.out.2.1.below)).mono ?_
          rintro e w1 ⟨rfl, hb1⟩
          rw [if_pos punct_some]
          obtain ⟨S, hS⟩ : ∃ S : Nat → Bool, S = memb5 ⟨#[112, 117, 110, 99, 116]⟩ := ⟨_, rfl⟩
          rw [← hS]
          have HS := hide hS
          have hb1' := hb1.trans ((Below.refl w1.heap.size w1).alloc (Nat.le_refl _) (.cells #[.int .u64 0, .int .u64 0, .int .u64 0, .int .u64 0] 24) |>.mono hb1.size)
          have H2 := hide (And.intro (H1.out.1.next hb1') (And.intro (H1.out.2.1.next HB1.out hb1') (And.intro (H1.out.2.2.next hb1') (Blk.new w1 24 #[.int .u64 0, .int .u64 0, .int .u64 0, .int .u64 0]))))
          have HZ2 := hide (Nat.lt_of_lt_of_le HZ1.out hb1.size)
          have HB2 := hide (Nat.le_trans HB1.out hb1'.size)
          clear hS hb1 hb1' HNm
          have hlt2 := HZ2.out
          go_upto_region 20 with (refine wpList_store_set rfl _ _ rfl w1.heap.size _ _ rfl rfl H2.out.2.2.2 rfl ?_; intro w2 hrow_w2 hg_w2 hz_w2)
          have H3 := hide (And.intro (H2.out.1.grown hg_w2 (fun e => (blk_ne6 H2.out.2.2.2 H2.out.1.box (by decide)) (Option.some.inj e)) (.inr (H2.out.1.apart H2.out.2.2.2 (by decide)))) (And.intro (H2.out.2.1.grown hg_w2 (fun q hq => by rw [← Option.some.inj hq]; omega) HB.out) (And.intro (H2.out.2.2.1.grown hg_w2 (fun e => by have := Option.some.inj e; omega)) (hrow_w2))))
          have HBq := hide (show w0.heap.size ≤ w2.heap.size from Nat.le_trans HB2.out (Nat.le_of_eq hz_w2.symm))
          clear hg_w2 hz_w2 hrow_w2 hlt2
          have HN := hide (ereNext_nil (show RdE w2 gr w0.heap.size p (i + 1) fl g ov d .nilIface from H3.out.1) (by omega) (by omega))
          go_wp2_with fail
          refine HN.out.mono ?_
          rintro e w3 ⟨rfl, hb3⟩
          have H4 := hide (And.intro (H3.out.1.next hb3) (And.intro (H3.out.2.1.next HBq.out hb3) (And.intro (H3.out.2.2.1.next hb3) (H3.out.2.2.2.next hb3))))
          have HB4 := hide (Nat.le_trans HBq.out hb3.size)
          clear hb3 HN
          by_cases hi1 : i + 1 < p.size
          · rw [if_pos hi1, decide_eq_true hi1]
            have hpb := pb_lt hi1
            obtain ⟨b, hb⟩ : ∃ b, b = pb p (i + 1) := ⟨_, rfl⟩
            rw [← hb] at hpb HE ⊢
            have HH5 := hide (has5_any S b hpb w3)
            cases hsb : S b with
            | true =>
              have HE2 := hide (show res = .ok (bytT (oneS ic b)) (i + 2) g from by rw [HE.out, if_pos ⟨hi1, by unfold punct5; rw [← HS.out]; exact hsb⟩])
              rw [hsb] at HH5
              clear HE hb hsb
              have cS := H4.out.2.2.2.cell
              simp only [setC] at cS
              go_wp2_with fail
              refine HH5.out.mono ?_
              rintro e w4 ⟨rfl, hb4⟩
              have H5 := hide (And.intro (H4.out.1.next hb4) (And.intro (H4.out.2.1.next HB4.out hb4) (And.intro (H4.out.2.2.1.next hb4) (H4.out.2.2.2.next hb4))))
              have HB5' := hide (Nat.le_trans HB4.out hb4.size)
              clear hb4 HH5 cS
              have c5 := H5.out.1.box.cell
              have f5 := H5.out.1.box.frozen
              go_upto_region 25 with fail
              have H6 := hide (And.intro (RdE.setI (show RdE w4 gr w0.heap.size p (i + 1) fl g ov d .nilIface from H5.out.1) (i + 2)) (And.intro (H5.out.2.1.set H5.out.1.base 1 (.int .i64 ((i + 2 : Nat) : Int))) (H5.out.2.2.1.far (blk_ne6 H5.out.2.2.1 H5.out.1.box (by decide)) (p := ⟨gr, 1, none⟩) (.int .i64 ((i + 2 : Nat) : Int)))))
              have e1 : ((i : Int) + 1 + 1) = ((i + 2 : Nat) : Int) := by omega
              rw [e1]
              have HB6 := hide (show w0.heap.size ≤ (w4.setCell ⟨gr, 1, none⟩ (.int .i64 ((i + 2 : Nat) : Int))).heap.size from by rw [World.size_setCell]; exact HB5'.out)
              generalize (w4.setCell ⟨gr, 1, none⟩ (.int .i64 ((i + 2 : Nat) : Int))) = w5 at *
              clear c5 f5 e1
              have hone := ereOne_any H6.out.1.box b hpb
              rw [← HIC.out] at hone
              have HO1 := hide hone
              clear hone
              go_wp2_with fail
              refine HO1.out.mono ?_
              rintro e w6 ⟨rfl, hb6⟩
              have H7 := hide (And.intro (H6.out.1.next hb6) (And.intro (H6.out.2.1.next HB6.out hb6) (H6.out.2.2.next hb6)))
              clear hb6 HO1
              go_wp2_with (refine wpList_store_node rfl _ _ rfl y.heap.size _ _ _ _ _ rfl rfl H7.out.2.2 rfl ?_; intro w9 hrow9 hg9 hz9)
              refine bodyPost_ret (node_result rfl _ _ y.heap.size _ _ rfl hrow9) rfl ?_
              exact eok (t := bytT (oneS ic b)) HE2.out H7.out.1 H7.out.2.1 (T.In_iff.2 trivial) hg9 H7.out.2.2 (Nat.le_refl _) HB.out
            | false =>
              have HE2 := hide (show res = .bad 7 i from by rw [HE.out, if_neg (fun hh => by have h2 := hh.2; unfold punct5 at h2; rw [← HS.out, hsb] at h2; cases h2)])
              rw [hsb] at HH5
              clear HE hb hsb
              have cS := H4.out.2.2.2.cell
              simp only [setC] at cS
              go_wp2_with fail
              refine HH5.out.mono ?_
              rintro e w4 ⟨rfl, hb4⟩
              have H5 := hide (And.intro (H4.out.1.next hb4) (And.intro (H4.out.2.1.next HB4.out hb4) (And.intro (H4.out.2.2.1.next hb4) (H4.out.2.2.2.next hb4))))
              have HB5' := hide (Nat.le_trans HB4.out hb4.size)
              clear hb4 HH5 cS
              have cq := H5.out.1.box.cell
              have ceq := (HM.out _ H5.out.2.1.below).errs.var 10 (by decide)
              go_wp2_with fail
              refine (ereFail_any H5.out.1 HB5'.out a 7 (i : Int)).mono ?_
              rintro e wf ⟨gf, rfl, hE, hFI, hF⟩
              have HFl := hide (And.intro hE (And.intro hFI (H5.out.2.1.trans hF)))
              have HBF := hide (Nat.le_trans HB5'.out hF.below.size)
              have HKF := hide hF
              clear hE hFI hF cq ceq
              have HR5 := hide (HKF.out.blk_ H5.out.2.2.1 (blk_ne6 H5.out.2.2.1 H5.out.1.box (by decide)) (H5.out.1.apart H5.out.2.2.1 (by decide)))
              go_wp2_with (refine wpList_store_node rfl _ _ rfl y.heap.size _ ⟨0, 0, 0, 0, 0, 0, 0, 0, false⟩ none 0 0 rfl rfl HR5.out rfl ?_; intro w9 hrow9 hg9 hz9)
              refine bodyPost_ret (node_result rfl _ _ y.heap.size _ _ rfl hrow9) rfl ?_
              exact ebad (t := nilT) HE2.out HFl.out.1 HFl.out.2.1 HFl.out.2.2 (T.In_iff.2 trivial) (by simp only [nilT, T.nodes, TL.nodes]; omega) hg9 HR5.out (Nat.le_refl _) HB.out
          · rw [if_neg hi1, decide_eq_false hi1]
            have HE2 := hide (show res = .bad 7 i from by rw [HE.out, if_neg (fun hh => hi1 hh.1)])
            clear HE
            have cq := H4.out.1.box.cell
            have ceq := (HM.out _ H4.out.2.1.below).errs.var 10 (by decide)
            go_wp2_with fail
            refine (ereFail_any H4.out.1 HB4.out a 7 (i : Int)).mono ?_
            rintro e wf ⟨gf, rfl, hE, hFI, hF⟩
            have HFl := hide (And.intro hE (And.intro hFI (H4.out.2.1.trans hF)))
            have HBF := hide (Nat.le_trans HB4.out hF.below.size)
            have HKF := hide hF
            clear hE hFI hF cq ceq
            have HR5 := hide (HKF.out.blk_ H4.out.2.2.1 (blk_ne6 H4.out.2.2.1 H4.out.1.box (by decide)) (H4.out.1.apart H4.out.2.2.1 (by decide)))
            go_wp2_with (refine wpList_store_node rfl _ _ rfl y.heap.size _ ⟨0, 0, 0, 0, 0, 0, 0, 0, false⟩ none 0 0 rfl rfl HR5.out rfl ?_; intro w9 hrow9 hg9 hz9)
            refine bodyPost_ret (node_result rfl _ _ y.heap.size _ _ rfl hrow9) rfl ?_
            exact ebad (t := nilT) HE2.out HFl.out.1 HFl.out.2.1 HFl.out.2.2 (T.In_iff.2 trivial) (by simp only [nilT, T.nodes, TL.nodes]; omega) hg9 HR5.out (Nat.le_refl _) HB.out
        · have HE := hide (show res = .ok (bytT (oneS ic c)) (i + 1) g from by rw [HRS.out]; unfold atomE; rw [← HC.out, if_neg h46, if_neg h91, if_neg h40, if_neg h92])
          have g46 : ((c : Int) == 46) = false := by rw [beq_eq_false_iff_ne]; omega
          have g91 : ((c : Int) == 91) = false := by rw [beq_eq_false_iff_ne]; omega
          have g40 : ((c : Int) == 40) = false := by rw [beq_eq_false_iff_ne]; omega
          have g92 : ((c : Int) == 92) = false := by rw [beq_eq_false_iff_ne]; omega
          have hone := ereOne_any H1.out.1.box c hpl
          rw [← HIC.out] at hone
          have HO1 := hide hone
          clear hone HG HRS
          go_wp2_with fail
          refine HO1.out.mono ?_
          rintro e w6 ⟨rfl, hb6⟩
          have H7 := hide (And.intro (H1.out.1.next hb6) (And.intro (H1.out.2.1.next HB1.out hb6) (H1.out.2.2.next hb6)))
          clear hb6 HO1
          go_wp2_with (refine wpList_store_node rfl _ _ rfl y.heap.size _ _ _ _ _ rfl rfl H7.out.2.2 rfl ?_; intro w9 hrow9 hg9 hz9)
          refine bodyPost_ret (node_result rfl _ _ y.heap.size _ _ rfl hrow9) rfl ?_
          exact eok (t := bytT (oneS ic c)) HE.out H7.out.1 H7.out.2.1 (T.In_iff.2 trivial) hg9 H7.out.2.2 (Nat.le_refl _) HB.out
end Go.Proofs.YtpkcklpjbeginaaGreatDoor
