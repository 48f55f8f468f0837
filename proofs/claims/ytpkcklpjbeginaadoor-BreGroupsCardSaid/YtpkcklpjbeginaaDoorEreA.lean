/- Strs6: strings.Cut, strings.HasPrefix: their contracts off the shelf. (Printed by gen_strs6.py.)
Ere6a: ere's small functions: number, counts, fail, next, one, repeat. (Printed by gen_ere6a.py.)
Ere6b: ere: one (a byte with its other case), repeat (what stands behind an atom). (Printed by gen_ere6b.py.)
Ere6c: ere: atom. (Printed by gen_ere6c.py.) -/
import Derived.Test.YtpkcklpjbeginaaDoorProg
import Derived.Test.YtpkcklpjbeginaaDoorWords
import Derived.Shelf.Small.Strs
import Derived.Shelf.Strings.Cut
import Derived.Shelf.Strings.Prefix
import Derived.Test.YtpkcklpjbeginaaDoorEreP
import Derived.Deep.DeepCutAuto
import Derived.StillTailTactics
import Derived.Deep.QuietTactic
import Derived.BigQuiet
set_option linter.unusedSimpArgs false
set_option linter.unusedVariables false
set_option linter.unnecessarySimpa false

/-! ## Strs6 -/
namespace Go.Proofs.YtpkcklpjbeginaaDoor
open Go.RowKit

def strRen6 : Go.Shelf.Ren := ⟨fun | 99 => 36 | 145 => 54 | 206 => 48 | 217 => 76 | 219 => 75 | 220 => 65 | 224 => 80 | 225 => 79 | 266 => 82 | 267 => 81 | 314 => 83 | n => n, fun | 3 => 3 | 4 => 4 | 5 => 5 | 9 => 9 | 46 => 115 | 51 => 130 | 59 => 109 | 146 => 131 | n => n, fun | 1 => 22 | n => n⟩
theorem cutLays6 : Lays.n145 Tryd.prog strRen6 where
  mixed := by kernel_rfl
  f145 := Tryd.func54.trans (congrArg some (by kernel_rfl))
  f217 := Tryd.func76.trans (congrArg some (by kernel_rfl))
  f219 := Tryd.func75.trans (congrArg some (by kernel_rfl))
  f220 := Tryd.func65.trans (congrArg some (by kernel_rfl))
  f224 := Tryd.func80.trans (congrArg some (by kernel_rfl))
  f225 := Tryd.func79.trans (congrArg some (by kernel_rfl))
  f266 := Tryd.func82.trans (congrArg some (by kernel_rfl))
  f267 := Tryd.func81.trans (congrArg some (by kernel_rfl))
  f314 := Tryd.func83.trans (congrArg some (by kernel_rfl))
  t3 := Tryd.underlying3
  a3 := Tryd.isAgg3
  z3 := Tryd.sizeOf3
  v3 := Tryd.zeroValue3
  t4 := Tryd.underlying4
  a4 := Tryd.isAgg4
  z4 := Tryd.sizeOf4
  v4 := Tryd.zeroValue4
  t5 := Tryd.underlying5
  a5 := Tryd.isAgg5
  z5 := Tryd.sizeOf5
  v5 := Tryd.zeroValue5
  t9 := Tryd.underlying9
  a9 := Tryd.isAgg9
  z9 := Tryd.sizeOf9
  v9 := Tryd.zeroValue9
  t46 := Tryd.underlying115
  a46 := Tryd.isAgg115
  z46 := Tryd.sizeOf115
  v46 := Tryd.zeroValue115
  t51 := Tryd.underlying130
  a51 := Tryd.isAgg130
  z51 := Tryd.sizeOf130
  v51 := Tryd.zeroValue130
  t59 := Tryd.underlying109
  a59 := Tryd.isAgg109
  z59 := Tryd.sizeOf109
  v59 := Tryd.zeroValue109
  t146 := Tryd.underlying131
  a146 := Tryd.isAgg131
  z146 := Tryd.sizeOf131
  v146 := Tryd.zeroValue131
  g1 := by kernel_rfl
theorem preLays6 : Lays.n99 Tryd.prog strRen6 where
  mixed := by kernel_rfl
  f99 := Tryd.func36.trans (congrArg some (by kernel_rfl))
  f206 := Tryd.func48.trans (congrArg some (by kernel_rfl))
  t3 := Tryd.underlying3
  a3 := Tryd.isAgg3
  z3 := Tryd.sizeOf3
  v3 := Tryd.zeroValue3
  t4 := Tryd.underlying4
  a4 := Tryd.isAgg4
  z4 := Tryd.sizeOf4
  v4 := Tryd.zeroValue4
  t9 := Tryd.underlying9
  a9 := Tryd.isAgg9
  z9 := Tryd.sizeOf9
  v9 := Tryd.zeroValue9

theorem cut6_any (s sep : ByteArray) (m : Int) (w : World) (hs : s.size < 4294967281) (hm : w.cell? ⟨22, 0, none⟩ = some (.int .i64 m)) :
    Calls Tryd.prog 54 #[.string s, .string sep] w fun e w' => e = .returned (.tuple #[.string ⟨(Lib.cut s.data.toList sep.data.toList).1.toArray⟩, .string ⟨(Lib.cut s.data.toList sep.data.toList).2.1.toArray⟩, .bool (Lib.cut s.data.toList sep.data.toList).2.2]) ∧ ∃ n, w' = w.drewN n := Any.strings_Cut cutLays6 s sep m w hs hm
theorem hasPre6_any (s p : ByteArray) (w : World) :
    Calls Tryd.prog 36 #[.string s, .string p] w fun e w' => e = .returned (.bool (Lib.hasPrefix s.data.toList p.data.toList)) ∧ w' = w := Any.strings_HasPrefix preLays6 s p w
end Go.Proofs.YtpkcklpjbeginaaDoor

/-! ## Ere6a -/
namespace Go.Proofs.YtpkcklpjbeginaaDoor
open Go.RowKit

/-- What number answers. -/
def numV (s : ByteArray) : Nat := (if s.size < 1 ∨ 3 < s.size then none else numF s s.size 0 0).getD 0
theorem numV_of {s : ByteArray} {k : Nat} (h : numP s = some k) : numV s = k := by
  unfold numP at h
  unfold numV
  split at h
  · cases h
  · rename_i hc
    rw [if_neg hc]
    split at h
    · cases h
    · rename_i n hn
      rw [hn]
      split at h
      · exact Option.some.inj h
      · cases h
def NumIs (s : ByteArray) (w : World) (e : Ending) (w' : World) : Prop := e = .returned (.tuple #[.int .i64 (numV s : Int), .bool (numP s).isSome]) ∧ Below w.heap.size w w'
theorem numF_end {s : ByteArray} {i n : Nat} (h : i = s.size) : numF s (s.size - i) i n = some n := by rw [h, Nat.sub_self]; rfl
theorem numF_step {s : ByteArray} {i n : Nat} (h : i < s.size) : numF s (s.size - i) i n = if 48 ≤ pb s i ∧ pb s i ≤ 57 then numF s (s.size - (i + 1)) (i + 1) (10 * n + (pb s i - 48)) else none := by
  rw [show s.size - i = (s.size - (i + 1)) + 1 by omega, numF]
theorem below_drewN6 {B : Nat} {w w' : World} (h : Below B w w') (n : Nat) : Below B w (w'.drewN n) := ⟨h.os, h.tape, h.output, h.size, h.block⟩
theorem extract_all (s : ByteArray) : s.extract 0 s.size = s := by
  apply ByteArray.ext
  apply Array.toList_inj.1
  rw [extract_list, List.drop_zero, Nat.sub_zero, List.take_of_length_le (by rw [data_len]; exact Nat.le_refl _)]
/-- strings.Cut at a comma. -/
theorem cutComma_any (s : ByteArray) (m : Int) (w : World) (hs : s.size < 4294967281) (hm : w.cell? ⟨22, 0, none⟩ = some (.int .i64 m)) :
    Calls Tryd.prog 54 #[.string s, .string ⟨#[44]⟩] w fun e w' => ∃ r, e = .returned (.tuple #[.string (s.extract 0 (findB s 44 0)), .string r, .bool (!decide (findB s 44 0 = s.size))]) ∧ (findB s 44 0 ≠ s.size → r = s.extract (findB s 44 0 + 1) s.size) ∧ Below w.heap.size w w' := by
  refine (cut6_any s ⟨#[44]⟩ m w hs hm).mono ?_
  rintro e w' ⟨rfl, n, rfl⟩
  obtain ⟨h1, h2, h3⟩ := cut_one s 44 (by decide)
  have hl : (⟨#[44]⟩ : ByteArray).data.toList = [(44 : Nat).toUInt8] := rfl
  rw [hl, h1, h3]
  exact ⟨_, rfl, h2, below_drewN6 (Below.refl _ _) n⟩
/-- strings.Cut at two bytes. -/
theorem cutTwo_any (s : ByteArray) (m : Int) (w : World) (hs : s.size < 4294967281) (hm : w.cell? ⟨22, 0, none⟩ = some (.int .i64 m)) :
    Calls Tryd.prog 54 #[.string s, .string ⟨#[92, 125]⟩] w fun e w' => ∃ r, e = .returned (.tuple #[.string (s.extract 0 (find2 s 92 125 0)), .string r, .bool (!decide (find2 s 92 125 0 = s.size))]) ∧ (find2 s 92 125 0 ≠ s.size → r = s.extract (find2 s 92 125 0 + 2) s.size) ∧ Below w.heap.size w w' := by
  refine (cut6_any s ⟨#[92, 125]⟩ m w hs hm).mono ?_
  rintro e w' ⟨rfl, n, rfl⟩
  obtain ⟨h1, h2, h3⟩ := cut_two s 92 125 (by decide) (by decide)
  have hl : (⟨#[92, 125]⟩ : ByteArray).data.toList = [(92 : Nat).toUInt8, (125 : Nat).toUInt8] := rfl
  rw [hl, h1, h3]
  exact ⟨_, rfl, h2, below_drewN6 (Below.refl _ _) n⟩
theorem countsP_eq (s : ByteArray) : countsP s = if findB s 44 0 = s.size then (match numP s with
    | none => none
    | some n => some (n, (n : Int)))
  else match numP (s.extract 0 (findB s 44 0)) with
    | none => none
    | some a => if findB s 44 0 + 1 = s.size then some (a, -1) else match numP (s.extract (findB s 44 0 + 1) s.size) with
      | none => none
      | some b => if a ≤ b then some (a, (b : Int)) else none := rfl
/-- The reader of an extended pattern in memory: the pattern, the place, flags, groups so far, the list of the d groups that are open, the first fault. -/
def RdE (y : World) (gr B0 : Nat) (p : ByteArray) (i : Nat) (fl : Int) (g : Nat) (ov : Value) (d : Nat) (ev : Value) : Prop :=
  RdG y 55 gr B0 #[.string p, .int .i64 (i : Int), .int .i64 fl, .int .i64 (g : Int), ov, ev] ov d
section
variable {y z : World} {gr B0 i g d : Nat} {p : ByteArray} {fl : Int} {ov ev : Value}
end
theorem Tryd.isIfaceErr6 : Tryd.prog.isIface 30 = true := by kernel_rfl
end Go.Proofs.YtpkcklpjbeginaaDoor

/-! ## Ere6b -/
namespace Go.Proofs.YtpkcklpjbeginaaDoor
open Go.RowKit

/-- A call that answers a node of a set. -/
def BytIs (S : Nat → Bool) (w : World) (e : Ending) (w' : World) : Prop := e = .returned (.agg ((bytT S).hd.cells (.slice none 0 0)).toArray) ∧ Below w.heap.size w w'
theorem bytIs_cells (S : Nat → Bool) : (((bytT S).hd.cells (.slice none 0 0)).toArray) = #[.int .i64 2, .int .u64 ((wd S 0 : Nat) : Int), .int .u64 ((wd S 1 : Nat) : Int), .int .u64 ((wd S 2 : Nat) : Int), .int .u64 ((wd S 3 : Nat) : Int), .slice none 0 0, .int .i64 0, .int .i64 0, .int .i64 0, .bool false] := rfl
set_option maxRecDepth 100000 in
set_option maxHeartbeats 1000000 in
theorem bytes6_any (S : Nat → Bool) (w : World) : Calls Tryd.prog 45 #[setV S] w (BytIs S w) := by
  unfold BytIs
  rw [bytIs_cells]
  unfold setV setC
  generalize wd S 0 = s0
  generalize wd S 1 = s1
  generalize wd S 2 = s2
  generalize wd S 3 = s3
  go_enter Tryd.func45, Tryd.ntmps45
  go_wp2_with fail
  refine bodyPost_ret (v := .agg #[.int .i64 2, .int .u64 s0, .int .u64 s1, .int .u64 s2, .int .u64 s3, .slice none 0 0, .int .i64 0, .int .i64 0, .int .i64 0, .bool false]) (by simp [results, Tryd.results45, go_sem]) rfl ?_
  refine ⟨rfl, ?_⟩
  first
    | exact ((Below.refl _ _).alloc (Nat.le_refl _) _).alloc (by simp) _
    | (repeat refine Below.setCell ?_ (by simp) _
       exact ((Below.refl _ _).alloc (Nat.le_refl _) _).alloc (by simp) _)
end Go.Proofs.YtpkcklpjbeginaaDoor

/-! ## Ere6c -/
namespace Go.Proofs.YtpkcklpjbeginaaDoor
open Go.RowKit

section
variable {w0 : World} {gr : Nat} {p : ByteArray} {fl : Int} {a : Nat → Addr} {d K : Nat} {ov ov' : Value} {y w w9 : World} {r : PR}
end
theorem bytT_congr {S T : Nat → Bool} (h : ∀ x, x < 256 → S x = T x) : bytT S = bytT T := by
  unfold bytT
  rw [wd_congr (S := S) (T := T) (k := 0) (fun j hj => h _ (by omega)), wd_congr (S := S) (T := T) (k := 1) (fun j hj => h _ (by omega)), wd_congr (S := S) (T := T) (k := 2) (fun j hj => h _ (by omega)), wd_congr (S := S) (T := T) (k := 3) (fun j hj => h _ (by omega))]
theorem punct_some : (cls5 (ByteArray.toList ⟨#[112, 117, 110, 99, 116]⟩)).isSome = true := by
  rw [ByteArray.toList_eq]
  first | rfl | decide
/-- What bracket.Read has answered, in a later world. -/
def RdOut (r : R5) (a : Nat → Addr) (z : World) (S : Nat → Bool) (n : Int) (ev : Value) : Prop := match r with
  | .good S' n' => S = S' ∧ n = (n' : Int) ∧ ev = .nilIface
  | .bad g pl => ∃ gf, ev = faultV gf ∧ FaultIs a z gf g pl
theorem RdOut.next {r : R5} {a : Nat → Addr} {z z' : World} {S : Nat → Bool} {n : Int} {ev : Value} (h : RdOut r a z S n ev) (hb : Below z.heap.size z z') : RdOut r a z' S n ev := by
  cases r with
  | good S' n' => exact h
  | bad g pl =>
    obtain ⟨gf, h1, h2⟩ := h
    exact ⟨gf, h1, Blk.next h2 hb⟩
theorem RdOut.grown {r : R5} {a : Nat → Addr} {z z' : World} {S : Nat → Bool} {n : Int} {ev : Value} {R : Nat} {t : TypeId} {cs : Array Value} (h : RdOut r a z S n ev) (hg : z.grownBy z' (some R)) (hR : Blk z R t cs) (ht : t ≠ 60) : RdOut r a z' S n ev := by
  cases r with
  | good S' n' => exact h
  | bad g pl =>
    obtain ⟨gf, h1, h2⟩ := h
    exact ⟨gf, h1, Blk.grown h2 hg (fun e => (blk_ne6 h2 hR (Ne.symm ht)) (Option.some.inj e))⟩
/-- A call of bracket.Read that has ended. -/
def ReadEnd (r : R5) (a : Nat → Addr) (y : World) (e : Ending) (y' : World) : Prop := ∃ S n ev, e = .returned (.tuple #[setV S, .int .i64 n, ev]) ∧ RdOut r a y' S n ev ∧ Below y.heap.size y y'
theorem readEnd_any (p : ByteArray) (i : Nat) (fl : Int) (ic nl : Bool) (h2 : ic = !decide (bits .and .i64 fl 2 = 0)) (h4 : nl = !decide (bits .and .i64 fl 4 = 0)) (hs : p.size ≤ 1024) (h91 : pb p i = 91) (a : Nat → Addr) (m : Int) (y : World) (hB : B5 y a m) : Calls Tryd.prog 51 #[.string p, .int .i64 (i : Int), .int .i64 fl] y (ReadEnd (readP p i ic nl) a y) := by
  refine (read5_any p (i : Int) fl (by omega) a m y hB).mono ?_
  intro e y' h1
  unfold ReadIs at h1
  rw [if_pos ⟨by omega, by rw [Int.toNat_natCast, h91]⟩, Int.toNat_natCast, ← h2, ← h4] at h1
  cases hr : readP p i ic nl with
  | good S n =>
    rw [hr] at h1
    exact ⟨S, n, .nilIface, h1.1, ⟨rfl, rfl, rfl⟩, h1.2⟩
  | bad g pl =>
    rw [hr] at h1
    obtain ⟨gf, h3, h4, h5, h6⟩ := h1
    exact ⟨_, 0, faultV gf, h3, ⟨gf, rfl, h5⟩, h6⟩
end Go.Proofs.YtpkcklpjbeginaaDoor
