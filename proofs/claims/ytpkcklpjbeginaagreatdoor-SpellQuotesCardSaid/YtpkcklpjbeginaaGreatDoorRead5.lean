/- bracket.Read. (Printed by gen_read5.py.) -/
import Derived.Test.YtpkcklpjbeginaaGreatDoorItem5
import Derived.Test.YtpkcklpjbeginaaGreatDoorNamed5
set_option linter.unusedSimpArgs false
set_option linter.unusedVariables false
namespace Go.Proofs.YtpkcklpjbeginaaGreatDoor
open Go.RowKit

theorem named5_ok (a : Nat → Addr) : Named5Ok a := fun s w h => named5_any s a w h
/-- The items from a place on. -/
def loopP (p : ByteArray) (z f : Nat) : Nat → Nat → (Nat → Bool) → R5
 | 0, _, _ => .bad 0 (z : Int)
 | n + 1, i, S =>
  if p.size ≤ i then .bad 0 (z : Int)
  else if pb p i = 93 ∧ f < i then .good S i
  else match itemP p i (z : Int) with
   | .bad g y => .bad g y
   | .good T j => loopP p z f n j (fun x => S x || T x)
/-- What becomes of the set behind the items. -/
def finP (tb ic nl : Bool) (S : Nat → Bool) : Nat → Bool :=
 if tb then (if nl then (fun x => (!(if ic then fold5 S else S) x) && !decide (x = 10)) else (fun x => !(if ic then fold5 S else S) x)) else (if ic then fold5 S else S)
def outP (tb ic nl : Bool) : R5 → R5
 | .bad g y => .bad g y
 | .good S i => .good (finP tb ic nl S) (i + 1)
def readP (p : ByteArray) (z : Nat) (ic nl : Bool) : R5 :=
 outP (decide (pb p (z + 1) = 94)) ic nl (loopP p z (if pb p (z + 1) = 94 then z + 2 else z + 1) (p.size + 1) (if pb p (z + 1) = 94 then z + 2 else z + 1) (fun _ => false))
theorem namedP_next {p : ByteArray} {i : Nat} {pl : Int} {S : Nat → Bool} {n : Nat} (h : namedP p i pl = .good S n) : i < n ∧ n ≤ p.size := by
 unfold namedP at h
 split at h
 ·cases h
 ·split at h
  ·injection h with _ h2
   have := clo_in (p := p) (k := i + 2) (by omega)
   omega
  ·cases h
theorem itemP_next {p : ByteArray} {i : Nat} {pl : Int} (hi : i < p.size) {S : Nat → Bool} {n : Nat} (h : itemP p i pl = .good S n) : i < n ∧ n ≤ p.size := by
 unfold itemP at h
 split at h
 ·cases h
 ·split at h
  ·exact namedP_next h
  ·split at h
   ·rename_i h3
    split at h
    ·cases h
    ·split at h
     ·cases h
     ·injection h with _ h2
      omega
   ·injection h with _ h2
    omega
/-- What bracket.Read answers. -/
def ReadIs (p : ByteArray) (z fl : Int) (a : Nat → Addr) (w : World) (e : Ending) (w' : World) : Prop :=
 if 0 ≤ z ∧ pb p z.toNat = 91 then R5.Is (readP p z.toNat (!decide (bits .and .i64 fl 2 = 0)) (!decide (bits .and .i64 fl 4 = 0))) a w e w'
 else e = .returned (.tuple #[setV (fun _ => false), .int .i64 0, errV (a 14)]) ∧ Below w.heap.size w w'
set_option maxRecDepth 100000 in
set_option maxHeartbeats 2000000 in
theorem read5_none (p : ByteArray) (z fl : Int) (hs : p.size < 4294967281) (hz : ¬ (0 ≤ z ∧ pb p z.toNat = 91)) (a : Nat → Addr) (m : Int) (w : World) (hB : B5 w a m) : Calls Tryz.prog 130 #[.string p, .int .i64 z, .int .i64 fl] w fun e w' => e = .returned (.tuple #[setV (fun _ => false), .int .i64 0, errV (a 14)]) ∧ Below w.heap.size w w' := by
 have hb := (Below.refl w.heap.size w).alloc (Nat.le_refl _) (.cells #[.int .u64 0, .int .u64 0, .int .u64 0, .int .u64 0] 24)
 have h1 := Blk.new w 24 #[.int .u64 0, .int .u64 0, .int .u64 0, .int .u64 0]
 have H0 := hide (And.intro h1 (And.intro hb (hB.below hb)))
 clear hb h1
 have HS := hide hs
 have HE0 := hide (hB.errs.var 14 (by decide))
 clear hB hs
 have hcond : (z < 0) ∨ (0 ≤ z ∧ (p.size : Int) ≤ z) ∨ (∃ (i : Nat) (hi : i < p.size), z = (i : Int) ∧ ¬ (p[i]'hi).toNat = 91) := by
  by_cases h0 : z < 0
  ·exact .inl h0
  ·by_cases h1 : (p.size : Int) ≤ z
   ·exact .inr (.inl ⟨by omega, h1⟩)
   ·refine .inr (.inr ⟨z.toNat, by omega, by omega, fun h => hz ⟨by omega, ?_⟩⟩)
    rw [pb_at (by omega)]
    exact h
 clear hz
 have HSZ := hide (show (w.alloc (.cells #[.int .u64 0, .int .u64 0, .int .u64 0, .int .u64 0] 24)).heap.size = w.heap.size + 1 by simp)
 go_enter Tryz.func130, Tryz.ntmps130
 go_upto_region 1 with fail
 generalize (w.alloc (.cells #[.int .u64 0, .int .u64 0, .int .u64 0, .int .u64 0] 24)) = W at *
 rcases hcond with h | ⟨h0, h⟩ | ⟨i, hi, rfl, h⟩
 ·have h1 : ¬ 0 ≤ z := by omega
  go_upto_region 2 with fail
  have hzB := H0.out.1.lt
  have HE := hide (H0.out.2.2.errs.var 14 (by decide))
  refine wp_region_mix (fun z => z.cell? ⟨14, 0, none⟩ = some (errV (a 14))) [] (by kernel_rfl) (fun hcl => ?_)
  have hSb : Below W.heap.size W W.drew := (Below.refl _ _).drew
  have hS : W.drew.cell? ⟨14, 0, none⟩ = some (errV (a 14)) := (hSb.cell (World.block_lt_of_cell? _ _ HE.out)).trans HE.out
  refine wpAnyT_free (i := 0) hcl rfl (by kernel_rfl) (v := ?_) (fun _ _ _ h => h) hS (Or.inl ⟨rfl, fun w' _ => ?_⟩) (fun hcl => ?_)
  rotate_left
  ·go_simp
   with_reducible rfl
  simp only [List.getElem_toArray, List.getElem_cons_zero, List.getElem_cons_succ, Act.put, List.setIfInBounds_toArray, List.set_cons_zero, List.set_cons_succ]
  refine wpAnyT_take (i := 1) hcl rfl (by kernel_rfl) (v := ?_) (fun _ _ _ h => h) hS (Or.inl ⟨rfl, fun w' hS => ?_⟩) (fun hcl => ?_)
  rotate_left
  ·skip
   have ce := hS
   go_simp
   with_reducible rfl
  simp only [List.getElem_toArray, List.getElem_cons_zero, List.getElem_cons_succ, Act.put, List.setIfInBounds_toArray, List.set_cons_zero, List.set_cons_succ]
  have HD := hide (And.intro (H0.out.1.below hSb hzB) (H0.out.2.1.trans (hSb.mono H0.out.2.1.size)))
  clear hS hSb
  refine wpAnyT_step (i := 2) hcl rfl (by kernel_rfl) (fun hcl => ?_)
  simp only [List.getElem_toArray, List.getElem_cons_zero, List.getElem_cons_succ, Act.put, List.setIfInBounds_toArray, List.set_cons_zero, List.set_cons_succ]
  refine wpList_store_row rfl _ _ _ rfl w.heap.size 0 _ _ _ rfl rfl HD.out.1 Tryz.sizeSetO (by simp) (by simp [Value.oneCell']) ?_
  intro w9 hrow2 hg9 hz9
  refine wpList_nil ?_
  have hrow := hrow2.out
  rw [splice_full (by rfl)] at hrow
  have hb9 := below_grew HD.out.2 hg9 (Nat.le_refl _) (fun q hq => by rw [← Option.some.inj hq]; exact Nat.le_refl _)
  have hS : w9.cell? ⟨14, 0, none⟩ = some (errV (a 14)) := (hb9.cell (World.block_lt_of_cell? _ _ HE0.out)).trans HE0.out
  have HF := hide (And.intro hrow hb9)
  clear hrow hrow2 hg9 hz9 hb9
  refine ⟨hS, ?_⟩
  refine wpAnyT_free (i := 3) hcl rfl (by kernel_rfl) (v := ?_) (fun _ _ _ h => h) hS (Or.inl ⟨rfl, fun w' _ => ?_⟩) (fun hcl => ?_)
  rotate_left
  ·go_simp
   with_reducible rfl
  simp only [List.getElem_toArray, List.getElem_cons_zero, List.getElem_cons_succ, Act.put, List.setIfInBounds_toArray, List.set_cons_zero, List.set_cons_succ]
  refine wpAnyT_free (i := 4) hcl rfl (by kernel_rfl) (v := ?_) (fun _ _ _ h => h) hS (Or.inl ⟨rfl, fun w' _ => ?_⟩) (fun hcl => ?_)
  rotate_left
  ·go_simp
   with_reducible rfl
  simp only [List.getElem_toArray, List.getElem_cons_zero, List.getElem_cons_succ, Act.put, List.setIfInBounds_toArray, List.set_cons_zero, List.set_cons_succ]
  clear hS
  refine wpAnyT_done (by kernel_rfl) ?_ _
  go_wp2_with fail
  have c9 : ∀ i : Nat, _ = _ := HF.out.1.cell
  refine bodyPost_ret (v := .tuple #[setV (fun _ => false), .int .i64 0, errV (a 14)]) (by rw [setV_none]; unfold errV; simp [results, Tryz.results130, go_sem, c9]) rfl ?_
  exact ⟨rfl, HF.out.2⟩
 ·have h1 : ¬ z < 0 := by omega
  have h2 : ¬ z < (p.size : Int) := by omega
  go_upto_region 2 with fail
  have hzB := H0.out.1.lt
  have HE := hide (H0.out.2.2.errs.var 14 (by decide))
  refine wp_region_mix (fun z => z.cell? ⟨14, 0, none⟩ = some (errV (a 14))) [] (by kernel_rfl) (fun hcl => ?_)
  have hSb : Below W.heap.size W W.drew := (Below.refl _ _).drew
  have hS : W.drew.cell? ⟨14, 0, none⟩ = some (errV (a 14)) := (hSb.cell (World.block_lt_of_cell? _ _ HE.out)).trans HE.out
  refine wpAnyT_free (i := 0) hcl rfl (by kernel_rfl) (v := ?_) (fun _ _ _ h => h) hS (Or.inl ⟨rfl, fun w' _ => ?_⟩) (fun hcl => ?_)
  rotate_left
  ·go_simp
   with_reducible rfl
  simp only [List.getElem_toArray, List.getElem_cons_zero, List.getElem_cons_succ, Act.put, List.setIfInBounds_toArray, List.set_cons_zero, List.set_cons_succ]
  refine wpAnyT_take (i := 1) hcl rfl (by kernel_rfl) (v := ?_) (fun _ _ _ h => h) hS (Or.inl ⟨rfl, fun w' hS => ?_⟩) (fun hcl => ?_)
  rotate_left
  ·skip
   have ce := hS
   go_simp
   with_reducible rfl
  simp only [List.getElem_toArray, List.getElem_cons_zero, List.getElem_cons_succ, Act.put, List.setIfInBounds_toArray, List.set_cons_zero, List.set_cons_succ]
  have HD := hide (And.intro (H0.out.1.below hSb hzB) (H0.out.2.1.trans (hSb.mono H0.out.2.1.size)))
  clear hS hSb
  refine wpAnyT_step (i := 2) hcl rfl (by kernel_rfl) (fun hcl => ?_)
  simp only [List.getElem_toArray, List.getElem_cons_zero, List.getElem_cons_succ, Act.put, List.setIfInBounds_toArray, List.set_cons_zero, List.set_cons_succ]
  refine wpList_store_row rfl _ _ _ rfl w.heap.size 0 _ _ _ rfl rfl HD.out.1 Tryz.sizeSetO (by simp) (by simp [Value.oneCell']) ?_
  intro w9 hrow2 hg9 hz9
  refine wpList_nil ?_
  have hrow := hrow2.out
  rw [splice_full (by rfl)] at hrow
  have hb9 := below_grew HD.out.2 hg9 (Nat.le_refl _) (fun q hq => by rw [← Option.some.inj hq]; exact Nat.le_refl _)
  have hS : w9.cell? ⟨14, 0, none⟩ = some (errV (a 14)) := (hb9.cell (World.block_lt_of_cell? _ _ HE0.out)).trans HE0.out
  have HF := hide (And.intro hrow hb9)
  clear hrow hrow2 hg9 hz9 hb9
  refine ⟨hS, ?_⟩
  refine wpAnyT_free (i := 3) hcl rfl (by kernel_rfl) (v := ?_) (fun _ _ _ h => h) hS (Or.inl ⟨rfl, fun w' _ => ?_⟩) (fun hcl => ?_)
  rotate_left
  ·go_simp
   with_reducible rfl
  simp only [List.getElem_toArray, List.getElem_cons_zero, List.getElem_cons_succ, Act.put, List.setIfInBounds_toArray, List.set_cons_zero, List.set_cons_succ]
  refine wpAnyT_free (i := 4) hcl rfl (by kernel_rfl) (v := ?_) (fun _ _ _ h => h) hS (Or.inl ⟨rfl, fun w' _ => ?_⟩) (fun hcl => ?_)
  rotate_left
  ·go_simp
   with_reducible rfl
  simp only [List.getElem_toArray, List.getElem_cons_zero, List.getElem_cons_succ, Act.put, List.setIfInBounds_toArray, List.set_cons_zero, List.set_cons_succ]
  clear hS
  refine wpAnyT_done (by kernel_rfl) ?_ _
  go_wp2_with fail
  have c9 : ∀ i : Nat, _ = _ := HF.out.1.cell
  refine bodyPost_ret (v := .tuple #[setV (fun _ => false), .int .i64 0, errV (a 14)]) (by rw [setV_none]; unfold errV; simp [results, Tryz.results130, go_sem, c9]) rfl ?_
  exact ⟨rfl, HF.out.2⟩
 ·have h1 : ¬ (i : Int) < 0 := by omega
  have h2 : ¬ (p.size : Int) ≤ (i : Int) := by omega
  have h3 : (0 : Int) ≤ (i : Int) ∧ (i : Int) < (p.size : Int) := by omega
  have h4 : ¬ ((p[i]'hi).toNat : Int) = 91 := by omega
  clear h
  go_upto_region 2 with fail
  have hzB := H0.out.1.lt
  have HE := hide (H0.out.2.2.errs.var 14 (by decide))
  refine wp_region_mix (fun z => z.cell? ⟨14, 0, none⟩ = some (errV (a 14))) [] (by kernel_rfl) (fun hcl => ?_)
  have hSb : Below W.heap.size W W.drew := (Below.refl _ _).drew
  have hS : W.drew.cell? ⟨14, 0, none⟩ = some (errV (a 14)) := (hSb.cell (World.block_lt_of_cell? _ _ HE.out)).trans HE.out
  refine wpAnyT_free (i := 0) hcl rfl (by kernel_rfl) (v := ?_) (fun _ _ _ h => h) hS (Or.inl ⟨rfl, fun w' _ => ?_⟩) (fun hcl => ?_)
  rotate_left
  ·go_simp
   with_reducible rfl
  simp only [List.getElem_toArray, List.getElem_cons_zero, List.getElem_cons_succ, Act.put, List.setIfInBounds_toArray, List.set_cons_zero, List.set_cons_succ]
  refine wpAnyT_take (i := 1) hcl rfl (by kernel_rfl) (v := ?_) (fun _ _ _ h => h) hS (Or.inl ⟨rfl, fun w' hS => ?_⟩) (fun hcl => ?_)
  rotate_left
  ·skip
   have ce := hS
   go_simp
   with_reducible rfl
  simp only [List.getElem_toArray, List.getElem_cons_zero, List.getElem_cons_succ, Act.put, List.setIfInBounds_toArray, List.set_cons_zero, List.set_cons_succ]
  have HD := hide (And.intro (H0.out.1.below hSb hzB) (H0.out.2.1.trans (hSb.mono H0.out.2.1.size)))
  clear hS hSb
  refine wpAnyT_step (i := 2) hcl rfl (by kernel_rfl) (fun hcl => ?_)
  simp only [List.getElem_toArray, List.getElem_cons_zero, List.getElem_cons_succ, Act.put, List.setIfInBounds_toArray, List.set_cons_zero, List.set_cons_succ]
  refine wpList_store_row rfl _ _ _ rfl w.heap.size 0 _ _ _ rfl rfl HD.out.1 Tryz.sizeSetO (by simp) (by simp [Value.oneCell']) ?_
  intro w9 hrow2 hg9 hz9
  refine wpList_nil ?_
  have hrow := hrow2.out
  rw [splice_full (by rfl)] at hrow
  have hb9 := below_grew HD.out.2 hg9 (Nat.le_refl _) (fun q hq => by rw [← Option.some.inj hq]; exact Nat.le_refl _)
  have hS : w9.cell? ⟨14, 0, none⟩ = some (errV (a 14)) := (hb9.cell (World.block_lt_of_cell? _ _ HE0.out)).trans HE0.out
  have HF := hide (And.intro hrow hb9)
  clear hrow hrow2 hg9 hz9 hb9
  refine ⟨hS, ?_⟩
  refine wpAnyT_free (i := 3) hcl rfl (by kernel_rfl) (v := ?_) (fun _ _ _ h => h) hS (Or.inl ⟨rfl, fun w' _ => ?_⟩) (fun hcl => ?_)
  rotate_left
  ·go_simp
   with_reducible rfl
  simp only [List.getElem_toArray, List.getElem_cons_zero, List.getElem_cons_succ, Act.put, List.setIfInBounds_toArray, List.set_cons_zero, List.set_cons_succ]
  refine wpAnyT_free (i := 4) hcl rfl (by kernel_rfl) (v := ?_) (fun _ _ _ h => h) hS (Or.inl ⟨rfl, fun w' _ => ?_⟩) (fun hcl => ?_)
  rotate_left
  ·go_simp
   with_reducible rfl
  simp only [List.getElem_toArray, List.getElem_cons_zero, List.getElem_cons_succ, Act.put, List.setIfInBounds_toArray, List.set_cons_zero, List.set_cons_succ]
  clear hS
  refine wpAnyT_done (by kernel_rfl) ?_ _
  go_wp2_with fail
  have c9 : ∀ i : Nat, _ = _ := HF.out.1.cell
  refine bodyPost_ret (v := .tuple #[setV (fun _ => false), .int .i64 0, errV (a 14)]) (by rw [setV_none]; unfold errV; simp [results, Tryz.results130, go_sem, c9]) rfl ?_
  exact ⟨rfl, HF.out.2⟩
set_option maxRecDepth 100000 in
set_option maxHeartbeats 4000000 in
theorem read5_turned (p : ByteArray) (z : Nat) (fl : Int) (hs : p.size < 4294967281) (hzs : z < p.size) (hz91 : pb p z = 91) (ht : pb p (z + 1) = 94) (a : Nat → Addr) (m : Int) (w : World) (hB : B5 w a m) : Calls Tryz.prog 130 #[.string p, .int .i64 (z : Int), .int .i64 fl] w (R5.Is (readP p z (!decide (bits .and .i64 fl 2 = 0)) (!decide (bits .and .i64 fl 4 = 0))) a w) := by
 obtain ⟨ic, hic⟩ : ∃ ic, ic = !decide (bits .and .i64 fl 2 = 0) := ⟨_, rfl⟩
 obtain ⟨nl, hnl⟩ : ∃ nl, nl = !decide (bits .and .i64 fl 4 = 0) := ⟨_, rfl⟩
 rw [← hic, ← hnl]
 obtain ⟨r, hr⟩ : ∃ r, r = readP p z ic nl := ⟨_, rfl⟩
 rw [← hr]
 obtain ⟨f, hf⟩ : ∃ f, f = z + 2 := ⟨_, rfl⟩
 obtain ⟨R, hR⟩ : ∃ R, R = loopP p z f (p.size + 1) f (fun _ => false) := ⟨_, rfl⟩
 have HR := hide (show r = outP true ic nl R by rw [hr, hR, hf]; unfold readP; rw [if_pos ht, decide_eq_true ht])
 have HLP := hide hR
 clear hr hR
 have HIC := hide hic
 have HNL := hide hnl
 clear hic hnl
 have h1 : z + 1 < p.size := pb_in (by omega)
 have hfs : f ≤ p.size := by omega
 have hb := (Below.refl w.heap.size w).alloc (Nat.le_refl _) (.cells #[.int .u64 0, .int .u64 0, .int .u64 0, .int .u64 0] 24)
 have h1 := Blk.new w 24 #[.int .u64 0, .int .u64 0, .int .u64 0, .int .u64 0]
 have H0 := hide (And.intro h1 (And.intro hb (hB.below hb)))
 clear hb h1
 have HS := hide hs
 have HB0 := hide hB
 clear hB
 have z0 : ¬ (z : Int) < 0 := by omega
 have z1 : (0 : Int) ≤ (z : Int) ∧ (z : Int) < (p.size : Int) := by omega
 have z2 : ¬ (p.size : Int) ≤ (z : Int) := by omega
 have z3 : ((p[z]'hzs).toNat : Int) = 91 := by rw [← pb_at hzs, hz91]; rfl
 have hw1 : IntKind.i64.wrap ((z : Int) + 1) = (z : Int) + 1 := by simp [IntKind.wrap, IntKind.bits, IntKind.signed]; omega
 have hw2 : IntKind.i64.wrap ((z : Int) + 1 + 1) = (z : Int) + 2 := by simp [IntKind.wrap, IntKind.bits, IntKind.signed]; omega
 have hn1 : ((z : Int) + 1).toNat = z + 1 := by omega
 have z4 : (0 : Int) ≤ (z : Int) + 1 ∧ (z : Int) + 1 < (p.size : Int) := by omega
 have z5 : ((p[z + 1]'h1).toNat : Int) = 94 := by rw [← pb_at h1]; omega
 clear hz91 ht hs
 have HSZ := hide (show (w.alloc (.cells #[.int .u64 0, .int .u64 0, .int .u64 0, .int .u64 0] 24)).heap.size = w.heap.size + 1 by simp)
 go_enter Tryz.func130, Tryz.ntmps130
 go_upto_region 1 with fail
 generalize (w.alloc (.cells #[.int .u64 0, .int .u64 0, .int .u64 0, .int .u64 0] 24)) = W at *
 go_upto_region 7 with fail
 have hzW : W.heap.size = w.heap.size + 1 := HSZ.out
 have hbA := (Below.refl W.heap.size W).alloc (Nat.le_refl _) (.cells #[.int .u64 0, .int .u64 0, .int .u64 0, .int .u64 0] 24)
 have hzb := Blk.new W 24 #[.int .u64 0, .int .u64 0, .int .u64 0, .int .u64 0]
 rw [hzW] at hzb
 have HA := hide (And.intro (show Blk (W.alloc (.cells #[.int .u64 0, .int .u64 0, .int .u64 0, .int .u64 0] 24)) (w.heap.size + 1) 24 (setC fun _ => false).toArray by rw [zeroC]; exact hzb) (And.intro (H0.out.1.below hbA H0.out.1.lt) (H0.out.2.1.trans (hbA.mono H0.out.2.1.size))))
 clear hbA hzb H0
 go_upto_region 8 with fail
 generalize (W.alloc (.cells #[.int .u64 0, .int .u64 0, .int .u64 0, .int .u64 0] 24)) = W2 at *
 clear hzW HSZ
 clear W
 go_wp2_with fail
 go_loopw [9] (fun v wr => ∃ (i n : Nat) (S : Nat → Bool), v = .int .i64 (i : Int) ∧ f ≤ i ∧ i ≤ p.size ∧ p.size < i + n ∧ R = loopP p z f n i S ∧ Blk wr (w.heap.size + 1) 24 (setC S).toArray ∧ Blk wr w.heap.size 24 #[.int .u64 0, .int .u64 0, .int .u64 0, .int .u64 0] ∧ Below w.heap.size w wr) (fun v _ => p.size - (intOf v).toNat)
 case atStart => exact ⟨f, p.size + 1, fun _ => false, by rw [hf]; go_num, by omega, hfs, by omega, HLP.out, HA.out.1, HA.out.2.1, HA.out.2.2⟩
 case round =>
  obtain ⟨i, n, S, rfl, hfi, hip, hn, hl, h1, h2, h3⟩ := hrel
  have H1 := hide (And.intro h1 (And.intro h2 h3))
  clear HA HLP h1 h2 h3
  have HL := hide hl
  clear hl
  have HN0 := hide hn
  clear hn
  have HFI := hide (And.intro hf (And.intro hfi (And.intro hip hfs)))
  clear hf hfi hfs
  obtain ⟨k, hk⟩ : ∃ k, n = k + 1 := ⟨n - 1, by have := HN0.out; omega⟩
  subst hk
  by_cases hge : p.size ≤ i
  case pos =>
   have hR : R = .bad 0 (z : Int) := by rw [HL.out, loopP, if_pos hge]
   have HR2 := hide (show r = .bad 0 (z : Int) by rw [HR.out, hR]; rfl)
   clear HL HR hR
   have g1 : (p.size : Int) ≤ (i : Int) := by omega
   have g2 : (i : Int) ≥ (p.size : Int) := by omega
   have ce := ((HB0.out.below H1.out.2.2).errs.var 3 (by decide))
   have H2 := hide H1.out.2
   clear H1 hip hge
   go_wp2_with fail
   refine (fault_any (z : Int) (a 3) wr).mono ?_
   rintro e wf ⟨gf, rfl, hgf, hbf, hb2⟩
   have HB := hide (And.intro (H2.out.1.below hb2 (by have := H2.out.1.lt; omega)) (And.intro (H2.out.2.trans (hb2.mono H2.out.2.size)) hbf))
   have HG := hide (And.intro hgf hbf.lt)
   have hz2 := hb2.size
   have hz1 := H2.out.2.size
   have hne := H2.out.1.lt
   clear hgf hbf hb2
   unfold faultV
   go_wp2_with (refine wpList_store_row rfl _ _ _ rfl w.heap.size 0 _ _ _ rfl rfl HB.out.1 Tryz.sizeSetO (by simp) (by simp [Value.oneCell']) ?_)
   intro w9 hrow2 hg9 hz9
   have hrow := hrow2.out
   rw [splice_full (by rfl)] at hrow
   have hb9 := below_grew HB.out.2.1 hg9 (Nat.le_refl _) (fun q hq => by rw [← Option.some.inj hq]; exact Nat.le_refl _)
   have HF := hide (And.intro hrow (And.intro hb9 (HB.out.2.2.grown hg9 (fun e => by have := Option.some.inj e; have := HG.out.1; omega))))
   clear hrow hrow2 hg9 hz9 hb9
   go_wp2_with fail
   have c9 : ∀ i : Nat, _ = _ := HF.out.1.cell
   refine bodyPost_ret (v := .tuple #[setV (fun _ => false), .int .i64 0, faultV gf]) (by rw [setV_none]; unfold faultV; simp [results, Tryz.results130, go_sem, c9]) rfl ?_
   rw [HR2.out]
   exact ⟨gf, rfl, by have := HG.out.1; omega, HF.out.2.2, HF.out.2.1⟩
  case neg =>
   have hi : i < p.size := by omega
   have g1 : ¬ (p.size : Int) ≤ (i : Int) := by omega
   have g2 : (0 : Int) ≤ (i : Int) ∧ (i : Int) < (p.size : Int) := by omega
   have q0 := pb_at hi
   by_cases hbr : pb p i = 93 ∧ f < i
   case pos =>
    have hR : R = .good S i := by rw [HL.out, loopP, if_neg hge, if_pos hbr]
    have HR2 := hide (show r = .good (finP true ic nl S) (i + 1) by rw [HR.out, hR]; rfl)
    clear HL HR hR
    have e0 : ((p[i]'hi).toNat : Int) = 93 := by rw [← q0, hbr.1]; rfl
    have e1 : (z : Int) + 2 < (i : Int) := by have := hbr.2; have := HFI.out.1; omega
    have hw3 : IntKind.i64.wrap ((i : Int) + 1) = (i : Int) + 1 := by have := HS.out; simp [IntKind.wrap, IntKind.bits, IntKind.signed]; omega
    clear hbr q0 hge HN0
    cases ic with
   | false =>
    have hbit : bits .and .i64 fl 2 = 0 := Decidable.byContradiction fun e => by have h := HIC.out; rw [decide_eq_false e] at h; cases h
    clear HIC
    have cb : ∀ i : Nat, _ = _ := H1.out.1.cell
    simp only [setC] at cb
    have hcn := not_any S wr
    unfold setV setC at hcn
    go_wp2_with fail
    refine hcn.mono ?_
    rintro e V3 ⟨rfl, hb3⟩
    have HA3 := hide (And.intro (H1.out.1.below hb3 H1.out.1.lt) (And.intro (H1.out.2.1.below hb3 H1.out.2.1.lt) (H1.out.2.2.trans (hb3.mono H1.out.2.2.size))))
    clear hb3
    generalize htB : (fun x => !S x) = TB
    have HTB := hide htB.symm
    clear htB cb hcn H1
    unfold setV setC
    go_wp2_with (refine wpList_store_row rfl _ _ _ rfl (w.heap.size + 1) 0 _ _ _ rfl rfl HA3.out.1 Tryz.sizeSetO (by simp [setC]) (by simp [Value.oneCell']) ?_)
    intro V4 hrow2 hg9 hz9
    have hrow := hrow2.out
    rw [splice_full (by rfl)] at hrow
    have H4 := hide (And.intro (show Blk V4 (w.heap.size + 1) 24 (setC TB).toArray from hrow) (And.intro (HA3.out.2.1.grown hg9 (fun e => by have := Option.some.inj e; omega)) (below_grew HA3.out.2.2 hg9 (Nat.le_refl _) (fun q hq => by rw [← Option.some.inj hq]; omega))))
    clear hrow hrow2 hg9 hz9
    clear HA3
    cases nl with
    | false =>
     have hbit4 : bits .and .i64 fl 4 = 0 := Decidable.byContradiction fun e => by have h := HNL.out; rw [decide_eq_false e] at h; cases h
     clear HNL
     have cb : ∀ i : Nat, _ = _ := H4.out.1.cell
     simp only [setC] at cb
     go_wp2_with (refine wpList_store_row rfl _ _ _ rfl w.heap.size 0 _ _ _ rfl rfl H4.out.2.1 Tryz.sizeSetO (by simp) (by simp [Value.oneCell']) ?_)
     intro w9 hrow2 hg9 hz9
     have hrow := hrow2.out
     rw [splice_full (by rfl)] at hrow
     have hb9 := below_grew H4.out.2.2 hg9 (Nat.le_refl _) (fun q hq => by rw [← Option.some.inj hq]; exact Nat.le_refl _)
     have HF := hide (And.intro (show Blk w9 w.heap.size 24 (setC TB).toArray from hrow) hb9)
     clear hrow hrow2 hg9 hz9 hb9 cb
     go_wp2_with fail
     have c9 : ∀ i : Nat, _ = _ := HF.out.1.cell
     simp only [setC] at c9
     refine bodyPost_ret (v := .tuple #[setV TB, .int .i64 ((i + 1 : Nat) : Int), .nilIface]) (by unfold setV setC; simp [results, Tryz.results130, go_sem, c9]; try omega) rfl ?_
     rw [HR2.out]
     refine ⟨?_, HF.out.2⟩
     rw [HTB.out]
     try rfl
    | true =>
     have hbit4 : ¬ bits .and .i64 fl 4 = 0 := fun h => by have := HNL.out; rw [decide_eq_true h] at this; cases this
     clear HNL
     go_upto_region 22 with fail
     have hzA := H4.out.1.lt
     refine wp_region_mix (fun z => Below V4.heap.size V4 z) [4] (by kernel_rfl) (fun hcl => ?_)
     have hS : Below V4.heap.size V4 V4.drew := (Below.refl _ _).drew
     refine wpAnyT_take (i := 0) hcl rfl (by kernel_rfl) (v := ?_) (fun _ _ _ h => h) hS (Or.inl ⟨rfl, fun w' hS => ?_⟩) (fun hcl => ?_)
     rotate_left
     ·skip
      have cb : ∀ i : Nat, _ = _ := (H4.out.1.below hS hzA).cell
      simp only [setC] at cb
      go_simp
      with_reducible rfl
     simp only [List.getElem_toArray, List.getElem_cons_zero, List.getElem_cons_succ, Act.put, List.setIfInBounds_toArray, List.set_cons_zero, List.set_cons_succ]
     refine wpAnyT_step (i := 1) hcl rfl (by kernel_rfl) (fun hcl => ?_)
     simp only [List.getElem_toArray, List.getElem_cons_zero, List.getElem_cons_succ, Act.put, List.setIfInBounds_toArray, List.set_cons_zero, List.set_cons_succ]
     go_wp2_with fail
     have hu : Blk (V4.alloc (.cells #[.int .u8 10] 5)).drew V4.heap.size 5 #[.int .u8 10] := Blk.new V4.drew 5 #[.int .u8 10]
     have hS5 : Below V4.heap.size V4 (V4.alloc (.cells #[.int .u8 10] 5)).drew := ((Below.refl V4.heap.size V4).alloc (Nat.le_refl _) (.cells #[.int .u8 10] 5)).drew
     generalize (V4.alloc (.cells #[.int .u8 10] 5)).drew = V5 at *
     refine ⟨hS5, ?_⟩
     clear hS
     refine wpAnyT_step (i := 2) hcl rfl (by kernel_rfl) (fun hcl => ?_)
     simp only [List.getElem_toArray, List.getElem_cons_zero, List.getElem_cons_succ, Act.put, List.setIfInBounds_toArray, List.set_cons_zero, List.set_cons_succ]
     go_wp2_with fail
     refine (of1_any 10 _ V5 (by decide) hu).mono ?_
     rintro e V6 ⟨rfl, hb6⟩
     generalize htC : (fun x => decide (x = 10)) = TC
     have HTC := hide htC.symm
     clear htC
     unfold setV setC
     have hS6 := hS5.trans (hb6.mono hS5.size)
     go_wp2_with fail
     refine ⟨hS6, ?_⟩
     clear hS5 hb6 hu
     refine wpAnyT_step (i := 3) hcl rfl (by kernel_rfl) (fun hcl => ?_)
     simp only [List.getElem_toArray, List.getElem_cons_zero, List.getElem_cons_succ, Act.put, List.setIfInBounds_toArray, List.set_cons_zero, List.set_cons_succ]
     go_wp2_with fail
     refine (less_any TB TC V6).mono ?_
     rintro e V7 ⟨rfl, hb7⟩
     generalize htD : (fun x => TB x && !TC x) = TD
     have HTD := hide htD.symm
     clear htD
     unfold setV setC
     have hS7 := hS6.trans (hb7.mono hS6.size)
     go_wp2_with fail
     refine ⟨hS7, ?_⟩
     clear hS6 hb7
     have HA7 := hide (And.intro (H4.out.1.below hS7 H4.out.1.lt) (And.intro (H4.out.2.1.below hS7 H4.out.2.1.lt) (H4.out.2.2.trans (hS7.mono H4.out.2.2.size))))
     clear hS7
     refine wpAnyT_last (i := 4) hcl rfl (by kernel_rfl) (by kernel_rfl) (fun hcl => ?_)
     simp only [List.getElem_toArray, List.getElem_cons_zero, List.getElem_cons_succ, Act.put, List.setIfInBounds_toArray, List.set_cons_zero, List.set_cons_succ]
     clear H4
     refine wpList_store_row rfl _ _ _ rfl (w.heap.size + 1) 0 _ _ _ rfl rfl HA7.out.1 Tryz.sizeSetO (by simp [setC]) (by simp [Value.oneCell']) ?_
     intro V8 hrow2 hg9 hz9
     refine wpList_nil ?_
     have hrow := hrow2.out
     rw [splice_full (by rfl)] at hrow
     have H8 := hide (And.intro (show Blk V8 (w.heap.size + 1) 24 (setC TD).toArray from hrow) (And.intro (HA7.out.2.1.grown hg9 (fun e => by have := Option.some.inj e; omega)) (below_grew HA7.out.2.2 hg9 (Nat.le_refl _) (fun q hq => by rw [← Option.some.inj hq]; omega))))
     clear hrow hrow2 hg9 hz9
     clear HA7
     refine wpAnyT_done (by kernel_rfl) ?_ _
     have cb : ∀ i : Nat, _ = _ := H8.out.1.cell
     simp only [setC] at cb
     go_wp2_with (refine wpList_store_row rfl _ _ _ rfl w.heap.size 0 _ _ _ rfl rfl H8.out.2.1 Tryz.sizeSetO (by simp) (by simp [Value.oneCell']) ?_)
     intro w9 hrow2 hg9 hz9
     have hrow := hrow2.out
     rw [splice_full (by rfl)] at hrow
     have hb9 := below_grew H8.out.2.2 hg9 (Nat.le_refl _) (fun q hq => by rw [← Option.some.inj hq]; exact Nat.le_refl _)
     have HF := hide (And.intro (show Blk w9 w.heap.size 24 (setC TD).toArray from hrow) hb9)
     clear hrow hrow2 hg9 hz9 hb9 cb
     go_wp2_with fail
     have c9 : ∀ i : Nat, _ = _ := HF.out.1.cell
     simp only [setC] at c9
     refine bodyPost_ret (v := .tuple #[setV TD, .int .i64 ((i + 1 : Nat) : Int), .nilIface]) (by unfold setV setC; simp [results, Tryz.results130, go_sem, c9]; try omega) rfl ?_
     rw [HR2.out]
     refine ⟨?_, HF.out.2⟩
     rw [HTD.out, HTC.out, HTB.out]
     try rfl
   | true =>
    have hbit : ¬ bits .and .i64 fl 2 = 0 := fun h => by have := HIC.out; rw [decide_eq_true h] at this; cases this
    clear HIC
    have cb : ∀ i : Nat, _ = _ := H1.out.1.cell
    simp only [setC] at cb
    have hcf := foldc_any S wr
    unfold setV setC at hcf
    go_wp2_with fail
    refine hcf.mono ?_
    rintro e V1 ⟨rfl, hb1⟩
    have HA1 := hide (And.intro (H1.out.1.below hb1 H1.out.1.lt) (And.intro (H1.out.2.1.below hb1 H1.out.2.1.lt) (H1.out.2.2.trans (hb1.mono H1.out.2.2.size))))
    clear hb1
    generalize htA : fold5 S = TA
    have HTA := hide htA.symm
    clear htA cb hcf H1
    unfold setV setC
    go_wp2_with (refine wpList_store_row rfl _ _ _ rfl (w.heap.size + 1) 0 _ _ _ rfl rfl HA1.out.1 Tryz.sizeSetO (by simp [setC]) (by simp [Value.oneCell']) ?_)
    intro V2 hrow2 hg9 hz9
    have hrow := hrow2.out
    rw [splice_full (by rfl)] at hrow
    have H2 := hide (And.intro (show Blk V2 (w.heap.size + 1) 24 (setC TA).toArray from hrow) (And.intro (HA1.out.2.1.grown hg9 (fun e => by have := Option.some.inj e; omega)) (below_grew HA1.out.2.2 hg9 (Nat.le_refl _) (fun q hq => by rw [← Option.some.inj hq]; omega))))
    clear hrow hrow2 hg9 hz9
    clear HA1
    have cb : ∀ i : Nat, _ = _ := H2.out.1.cell
    simp only [setC] at cb
    have hcn := not_any TA V2
    unfold setV setC at hcn
    go_wp2_with fail
    refine hcn.mono ?_
    rintro e V3 ⟨rfl, hb3⟩
    have HA3 := hide (And.intro (H2.out.1.below hb3 H2.out.1.lt) (And.intro (H2.out.2.1.below hb3 H2.out.2.1.lt) (H2.out.2.2.trans (hb3.mono H2.out.2.2.size))))
    clear hb3
    generalize htB : (fun x => !TA x) = TB
    have HTB := hide htB.symm
    clear htB cb hcn H2
    unfold setV setC
    go_wp2_with (refine wpList_store_row rfl _ _ _ rfl (w.heap.size + 1) 0 _ _ _ rfl rfl HA3.out.1 Tryz.sizeSetO (by simp [setC]) (by simp [Value.oneCell']) ?_)
    intro V4 hrow2 hg9 hz9
    have hrow := hrow2.out
    rw [splice_full (by rfl)] at hrow
    have H4 := hide (And.intro (show Blk V4 (w.heap.size + 1) 24 (setC TB).toArray from hrow) (And.intro (HA3.out.2.1.grown hg9 (fun e => by have := Option.some.inj e; omega)) (below_grew HA3.out.2.2 hg9 (Nat.le_refl _) (fun q hq => by rw [← Option.some.inj hq]; omega))))
    clear hrow hrow2 hg9 hz9
    clear HA3
    cases nl with
    | false =>
     have hbit4 : bits .and .i64 fl 4 = 0 := Decidable.byContradiction fun e => by have h := HNL.out; rw [decide_eq_false e] at h; cases h
     clear HNL
     have cb : ∀ i : Nat, _ = _ := H4.out.1.cell
     simp only [setC] at cb
     go_wp2_with (refine wpList_store_row rfl _ _ _ rfl w.heap.size 0 _ _ _ rfl rfl H4.out.2.1 Tryz.sizeSetO (by simp) (by simp [Value.oneCell']) ?_)
     intro w9 hrow2 hg9 hz9
     have hrow := hrow2.out
     rw [splice_full (by rfl)] at hrow
     have hb9 := below_grew H4.out.2.2 hg9 (Nat.le_refl _) (fun q hq => by rw [← Option.some.inj hq]; exact Nat.le_refl _)
     have HF := hide (And.intro (show Blk w9 w.heap.size 24 (setC TB).toArray from hrow) hb9)
     clear hrow hrow2 hg9 hz9 hb9 cb
     go_wp2_with fail
     have c9 : ∀ i : Nat, _ = _ := HF.out.1.cell
     simp only [setC] at c9
     refine bodyPost_ret (v := .tuple #[setV TB, .int .i64 ((i + 1 : Nat) : Int), .nilIface]) (by unfold setV setC; simp [results, Tryz.results130, go_sem, c9]; try omega) rfl ?_
     rw [HR2.out]
     refine ⟨?_, HF.out.2⟩
     rw [HTB.out, HTA.out]
     try rfl
    | true =>
     have hbit4 : ¬ bits .and .i64 fl 4 = 0 := fun h => by have := HNL.out; rw [decide_eq_true h] at this; cases this
     clear HNL
     go_upto_region 22 with fail
     have hzA := H4.out.1.lt
     refine wp_region_mix (fun z => Below V4.heap.size V4 z) [4] (by kernel_rfl) (fun hcl => ?_)
     have hS : Below V4.heap.size V4 V4.drew := (Below.refl _ _).drew
     refine wpAnyT_take (i := 0) hcl rfl (by kernel_rfl) (v := ?_) (fun _ _ _ h => h) hS (Or.inl ⟨rfl, fun w' hS => ?_⟩) (fun hcl => ?_)
     rotate_left
     ·skip
      have cb : ∀ i : Nat, _ = _ := (H4.out.1.below hS hzA).cell
      simp only [setC] at cb
      go_simp
      with_reducible rfl
     simp only [List.getElem_toArray, List.getElem_cons_zero, List.getElem_cons_succ, Act.put, List.setIfInBounds_toArray, List.set_cons_zero, List.set_cons_succ]
     refine wpAnyT_step (i := 1) hcl rfl (by kernel_rfl) (fun hcl => ?_)
     simp only [List.getElem_toArray, List.getElem_cons_zero, List.getElem_cons_succ, Act.put, List.setIfInBounds_toArray, List.set_cons_zero, List.set_cons_succ]
     go_wp2_with fail
     have hu : Blk (V4.alloc (.cells #[.int .u8 10] 5)).drew V4.heap.size 5 #[.int .u8 10] := Blk.new V4.drew 5 #[.int .u8 10]
     have hS5 : Below V4.heap.size V4 (V4.alloc (.cells #[.int .u8 10] 5)).drew := ((Below.refl V4.heap.size V4).alloc (Nat.le_refl _) (.cells #[.int .u8 10] 5)).drew
     generalize (V4.alloc (.cells #[.int .u8 10] 5)).drew = V5 at *
     refine ⟨hS5, ?_⟩
     clear hS
     refine wpAnyT_step (i := 2) hcl rfl (by kernel_rfl) (fun hcl => ?_)
     simp only [List.getElem_toArray, List.getElem_cons_zero, List.getElem_cons_succ, Act.put, List.setIfInBounds_toArray, List.set_cons_zero, List.set_cons_succ]
     go_wp2_with fail
     refine (of1_any 10 _ V5 (by decide) hu).mono ?_
     rintro e V6 ⟨rfl, hb6⟩
     generalize htC : (fun x => decide (x = 10)) = TC
     have HTC := hide htC.symm
     clear htC
     unfold setV setC
     have hS6 := hS5.trans (hb6.mono hS5.size)
     go_wp2_with fail
     refine ⟨hS6, ?_⟩
     clear hS5 hb6 hu
     refine wpAnyT_step (i := 3) hcl rfl (by kernel_rfl) (fun hcl => ?_)
     simp only [List.getElem_toArray, List.getElem_cons_zero, List.getElem_cons_succ, Act.put, List.setIfInBounds_toArray, List.set_cons_zero, List.set_cons_succ]
     go_wp2_with fail
     refine (less_any TB TC V6).mono ?_
     rintro e V7 ⟨rfl, hb7⟩
     generalize htD : (fun x => TB x && !TC x) = TD
     have HTD := hide htD.symm
     clear htD
     unfold setV setC
     have hS7 := hS6.trans (hb7.mono hS6.size)
     go_wp2_with fail
     refine ⟨hS7, ?_⟩
     clear hS6 hb7
     have HA7 := hide (And.intro (H4.out.1.below hS7 H4.out.1.lt) (And.intro (H4.out.2.1.below hS7 H4.out.2.1.lt) (H4.out.2.2.trans (hS7.mono H4.out.2.2.size))))
     clear hS7
     refine wpAnyT_last (i := 4) hcl rfl (by kernel_rfl) (by kernel_rfl) (fun hcl => ?_)
     simp only [List.getElem_toArray, List.getElem_cons_zero, List.getElem_cons_succ, Act.put, List.setIfInBounds_toArray, List.set_cons_zero, List.set_cons_succ]
     clear H4
     refine wpList_store_row rfl _ _ _ rfl (w.heap.size + 1) 0 _ _ _ rfl rfl HA7.out.1 Tryz.sizeSetO (by simp [setC]) (by simp [Value.oneCell']) ?_
     intro V8 hrow2 hg9 hz9
     refine wpList_nil ?_
     have hrow := hrow2.out
     rw [splice_full (by rfl)] at hrow
     have H8 := hide (And.intro (show Blk V8 (w.heap.size + 1) 24 (setC TD).toArray from hrow) (And.intro (HA7.out.2.1.grown hg9 (fun e => by have := Option.some.inj e; omega)) (below_grew HA7.out.2.2 hg9 (Nat.le_refl _) (fun q hq => by rw [← Option.some.inj hq]; omega))))
     clear hrow hrow2 hg9 hz9
     clear HA7
     refine wpAnyT_done (by kernel_rfl) ?_ _
     have cb : ∀ i : Nat, _ = _ := H8.out.1.cell
     simp only [setC] at cb
     go_wp2_with (refine wpList_store_row rfl _ _ _ rfl w.heap.size 0 _ _ _ rfl rfl H8.out.2.1 Tryz.sizeSetO (by simp) (by simp [Value.oneCell']) ?_)
     intro w9 hrow2 hg9 hz9
     have hrow := hrow2.out
     rw [splice_full (by rfl)] at hrow
     have hb9 := below_grew H8.out.2.2 hg9 (Nat.le_refl _) (fun q hq => by rw [← Option.some.inj hq]; exact Nat.le_refl _)
     have HF := hide (And.intro (show Blk w9 w.heap.size 24 (setC TD).toArray from hrow) hb9)
     clear hrow hrow2 hg9 hz9 hb9 cb
     go_wp2_with fail
     have c9 : ∀ i : Nat, _ = _ := HF.out.1.cell
     simp only [setC] at c9
     refine bodyPost_ret (v := .tuple #[setV TD, .int .i64 ((i + 1 : Nat) : Int), .nilIface]) (by unfold setV setC; simp [results, Tryz.results130, go_sem, c9]; try omega) rfl ?_
     rw [HR2.out]
     refine ⟨?_, HF.out.2⟩
     rw [HTD.out, HTC.out, HTB.out, HTA.out]
     try rfl
   case neg =>
    have hR : R = (match itemP p i (z : Int) with
     | .bad g y => R5.bad g y
     | .good T j => loopP p z f k j (fun x => S x || T x)) := by rw [HL.out, loopP, if_neg hge, if_neg hbr]
    have HRL := hide hR
    clear HL hR
    have hnx := fun (T : Nat → Bool) (j : Nat) (h : itemP p i (z : Int) = .good T j) => itemP_next hi h
    have hbr2 : (¬ (p[i]'hi).toNat = 93) ∨ ((p[i]'hi).toNat = 93 ∧ ¬ f < i) := by
     rw [← q0]
     by_cases h : pb p i = 93
     ·exact .inr ⟨h, fun h2 => hbr ⟨h, h2⟩⟩
     ·exact .inl h
    have HIT := hide (item_any p i (z : Int) hi HS.out a m (named5_ok a) wr (HB0.out.below H1.out.2.2))
    generalize itemP p i (z : Int) = q at *
    clear q0 hbr hge
    rcases hbr2 with e0 | ⟨e0, e1⟩
    ·have e2 : ¬ ((p[i]'hi).toNat : Int) = 93 := by omega
     clear e0
     go_wp2_with fail
     refine HIT.out.mono ?_
     intro e V1 hres
     cases q with
     | good T j =>
      obtain ⟨rfl, hb1⟩ := hres
      have hj := hnx T j rfl
      have hRR : R = loopP p z f k j (fun x => S x || T x) := HRL.out
      have HRR := hide hRR
      clear HRL hRR hnx HIT
      have H2 := hide (And.intro (H1.out.1.below hb1 H1.out.1.lt) (And.intro (H1.out.2.1.below hb1 H1.out.2.1.lt) (H1.out.2.2.trans (hb1.mono H1.out.2.2.size))))
      clear hb1
      clear H1
      have hal := (Below.refl V1.heap.size V1).alloc (Nat.le_refl _) (.cells #[.int .u64 0, .int .u64 0, .int .u64 0, .int .u64 0] 24)
      have hzb := Blk.new V1 24 #[.int .u64 0, .int .u64 0, .int .u64 0, .int .u64 0]
      have hzq := H2.out.2.2.size
      have hz1 := H2.out.1.lt
      unfold setV setC
      go_wp2_with (refine wpList_store_row rfl _ _ _ rfl V1.heap.size 0 _ _ _ rfl rfl hzb Tryz.sizeSetO (by simp) (by simp [Value.oneCell']) ?_)
      intro V2 hrow2 hg9 hz9
      have hrow := hrow2.out
      rw [splice_full (by rfl)] at hrow
      have hbE : Below V1.heap.size V1 V2 := below_grew hal hg9 (Nat.le_refl _) (fun q hq => by rw [← Option.some.inj hq]; exact Nat.le_refl _)
      have H13 := hide (show Blk V2 V1.heap.size 24 (setC T).toArray from hrow)
      have hzV2 := hbE.size
      have H3 := hide (And.intro (H2.out.1.below hbE H2.out.1.lt) (And.intro (H2.out.2.1.below hbE H2.out.2.1.lt) (H2.out.2.2.trans (hbE.mono H2.out.2.2.size))))
      clear hbE
      clear hrow hrow2 hg9 hz9 hal hzb H2
      have hz13 := H13.out.lt
      generalize hg13 : V1.heap.size = g13 at *
      clear hg13
      have cb : ∀ i : Nat, _ = _ := H3.out.1.cell
      have cd : ∀ i : Nat, _ = _ := H13.out.cell
      simp only [setC] at cb cd
      go_wp2_with fail
      have hu := Blk.new V2 24 #[.int .u64 ((wd S 0 : Nat) : Int), .int .u64 ((wd S 1 : Nat) : Int), .int .u64 ((wd S 2 : Nat) : Int), .int .u64 ((wd S 3 : Nat) : Int), .int .u64 ((wd T 0 : Nat) : Int), .int .u64 ((wd T 1 : Nat) : Int), .int .u64 ((wd T 2 : Nat) : Int), .int .u64 ((wd T 3 : Nat) : Int)]
      have hbu := (Below.refl V2.heap.size V2).alloc (Nat.le_refl _) (.cells #[.int .u64 ((wd S 0 : Nat) : Int), .int .u64 ((wd S 1 : Nat) : Int), .int .u64 ((wd S 2 : Nat) : Int), .int .u64 ((wd S 3 : Nat) : Int), .int .u64 ((wd T 0 : Nat) : Int), .int .u64 ((wd T 1 : Nat) : Int), .int .u64 ((wd T 2 : Nat) : Int), .int .u64 ((wd T 3 : Nat) : Int)] 24)
      generalize (V2.alloc (.cells #[.int .u64 ((wd S 0 : Nat) : Int), .int .u64 ((wd S 1 : Nat) : Int), .int .u64 ((wd S 2 : Nat) : Int), .int .u64 ((wd S 3 : Nat) : Int), .int .u64 ((wd T 0 : Nat) : Int), .int .u64 ((wd T 1 : Nat) : Int), .int .u64 ((wd T 2 : Nat) : Int), .int .u64 ((wd T 3 : Nat) : Int)] 24)) = V3 at *
      refine (join2_any S T V2.heap.size V3 hu).mono ?_
      rintro e V4 ⟨rfl, hb4⟩
      have hb5 := hbu.trans (hb4.mono hbu.size)
      clear hbu hb4 hu cb cd H13
      have H5 := hide (And.intro (H3.out.1.below hb5 H3.out.1.lt) (And.intro (H3.out.2.1.below hb5 H3.out.2.1.lt) (H3.out.2.2.trans (hb5.mono H3.out.2.2.size))))
      clear hb5
      clear H3
      generalize htJ : (fun x => S x || T x) = TJ at *
      clear htJ
      unfold setV setC
      go_wp2_with (refine wpList_store_row rfl _ _ _ rfl (w.heap.size + 1) 0 _ _ _ rfl rfl H5.out.1 Tryz.sizeSetO (by simp [setC]) (by simp [Value.oneCell']) ?_)
      intro V6 hrow2 hg9 hz9
      have hrow := hrow2.out
      rw [splice_full (by rfl)] at hrow
      have H6 := hide (And.intro (show Blk V6 (w.heap.size + 1) 24 (setC TJ).toArray from hrow) (And.intro (H5.out.2.1.grown hg9 (fun e => by have := Option.some.inj e; omega)) (below_grew H5.out.2.2 hg9 (Nat.le_refl _) (fun q hq => by rw [← Option.some.inj hq]; omega))))
      clear hrow hrow2 hg9 hz9
      clear H5
      go_wp2_with fail
      go_roundw
      case rel => exact ⟨j, k, TJ, rfl, by have := HFI.out.2.1; omega, hj.2, by have := HN0.out; omega, HRR.out, H6.out.1, H6.out.2.1, H6.out.2.2⟩
      case measure => simp [intOf]; have := hj.1; omega
     | bad kg y =>
      obtain ⟨gf, rfl, hgf, hbf, hb1⟩ := hres
      have HR2 := hide (show r = .bad kg y by rw [HR.out, HRL.out]; rfl)
      have H2 := hide (And.intro (H1.out.2.1.below hb1 H1.out.2.1.lt) (And.intro (H1.out.2.2.trans (hb1.mono H1.out.2.2.size)) hbf))
      have hgz := H1.out.2.1.lt
      have hgk := hbf.lt
      clear HRL HR hnx HIT hb1 hbf H1
      have hal := (Below.refl V1.heap.size V1).alloc (Nat.le_refl _) (.cells #[.int .u64 0, .int .u64 0, .int .u64 0, .int .u64 0] 24)
      have hzb := Blk.new V1 24 #[.int .u64 0, .int .u64 0, .int .u64 0, .int .u64 0]
      rw [setV_none]
      unfold faultV
      have hnn := fun w => run_eql_iface_nil (P := Tryz.prog) (w := w) 32 (by kernel_rfl) 83 (.pointer (some ⟨gf, 0, none⟩))
      go_wp2_with (refine wpList_store_row rfl _ _ _ rfl V1.heap.size 0 _ _ _ rfl rfl hzb Tryz.sizeSetO (by simp) (by simp [Value.oneCell']) ?_)
      intro V2 hrow2 hg9 hz9
      have hbE : Below V1.heap.size V1 V2 := below_grew hal hg9 (Nat.le_refl _) (fun q hq => by rw [← Option.some.inj hq]; exact Nat.le_refl _)
      have H3 := hide (And.intro (H2.out.1.below hbE H2.out.1.lt) (And.intro (H2.out.2.1.trans (hbE.mono H2.out.2.1.size)) (H2.out.2.2.below hbE hgk)))
      have hzw := H2.out.2.1.size
      clear hrow2 hg9 hz9 hal hzb H2 hbE
      go_wp2_with (refine wpList_store_row rfl _ _ _ rfl w.heap.size 0 _ _ _ rfl rfl H3.out.1 Tryz.sizeSetO (by simp) (by simp [Value.oneCell']) ?_)
      intro w9 hrow2 hg9 hz9
      have hrow := hrow2.out
      rw [splice_full (by rfl)] at hrow
      have hb9 := below_grew H3.out.2.1 hg9 (Nat.le_refl _) (fun q hq => by rw [← Option.some.inj hq]; exact Nat.le_refl _)
      have HF := hide (And.intro hrow (And.intro hb9 (H3.out.2.2.grown hg9 (fun e => by have := Option.some.inj e; omega))))
      clear hrow hrow2 hg9 hz9 hb9
      go_wp2_with fail
      have c9 : ∀ i : Nat, _ = _ := HF.out.1.cell
      refine bodyPost_ret (v := .tuple #[setV (fun _ => false), .int .i64 0, faultV gf]) (by rw [setV_none]; unfold faultV; simp [results, Tryz.results130, go_sem, c9]) rfl ?_
      rw [HR2.out]
      exact ⟨gf, rfl, by omega, HF.out.2.2, HF.out.2.1⟩
    ·have e2 : ((p[i]'hi).toNat : Int) = 93 := by omega
     have e3 : ¬ (z : Int) + 2 < (i : Int) := by have := HFI.out.1; omega
     clear e0 e1
     go_wp2_with fail
     refine HIT.out.mono ?_
     intro e V1 hres
     cases q with
     | good T j =>
      obtain ⟨rfl, hb1⟩ := hres
      have hj := hnx T j rfl
      have hRR : R = loopP p z f k j (fun x => S x || T x) := HRL.out
      have HRR := hide hRR
      clear HRL hRR hnx HIT
      have H2 := hide (And.intro (H1.out.1.below hb1 H1.out.1.lt) (And.intro (H1.out.2.1.below hb1 H1.out.2.1.lt) (H1.out.2.2.trans (hb1.mono H1.out.2.2.size))))
      clear hb1
      clear H1
      have hal := (Below.refl V1.heap.size V1).alloc (Nat.le_refl _) (.cells #[.int .u64 0, .int .u64 0, .int .u64 0, .int .u64 0] 24)
      have hzb := Blk.new V1 24 #[.int .u64 0, .int .u64 0, .int .u64 0, .int .u64 0]
      have hzq := H2.out.2.2.size
      have hz1 := H2.out.1.lt
      unfold setV setC
      go_wp2_with (refine wpList_store_row rfl _ _ _ rfl V1.heap.size 0 _ _ _ rfl rfl hzb Tryz.sizeSetO (by simp) (by simp [Value.oneCell']) ?_)
      intro V2 hrow2 hg9 hz9
      have hrow := hrow2.out
      rw [splice_full (by rfl)] at hrow
      have hbE : Below V1.heap.size V1 V2 := below_grew hal hg9 (Nat.le_refl _) (fun q hq => by rw [← Option.some.inj hq]; exact Nat.le_refl _)
      have H13 := hide (show Blk V2 V1.heap.size 24 (setC T).toArray from hrow)
      have hzV2 := hbE.size
      have H3 := hide (And.intro (H2.out.1.below hbE H2.out.1.lt) (And.intro (H2.out.2.1.below hbE H2.out.2.1.lt) (H2.out.2.2.trans (hbE.mono H2.out.2.2.size))))
      clear hbE
      clear hrow hrow2 hg9 hz9 hal hzb H2
      have hz13 := H13.out.lt
      generalize hg13 : V1.heap.size = g13 at *
      clear hg13
      have cb : ∀ i : Nat, _ = _ := H3.out.1.cell
      have cd : ∀ i : Nat, _ = _ := H13.out.cell
      simp only [setC] at cb cd
      go_wp2_with fail
      have hu := Blk.new V2 24 #[.int .u64 ((wd S 0 : Nat) : Int), .int .u64 ((wd S 1 : Nat) : Int), .int .u64 ((wd S 2 : Nat) : Int), .int .u64 ((wd S 3 : Nat) : Int), .int .u64 ((wd T 0 : Nat) : Int), .int .u64 ((wd T 1 : Nat) : Int), .int .u64 ((wd T 2 : Nat) : Int), .int .u64 ((wd T 3 : Nat) : Int)]
      have hbu := (Below.refl V2.heap.size V2).alloc (Nat.le_refl _) (.cells #[.int .u64 ((wd S 0 : Nat) : Int), .int .u64 ((wd S 1 : Nat) : Int), .int .u64 ((wd S 2 : Nat) : Int), .int .u64 ((wd S 3 : Nat) : Int), .int .u64 ((wd T 0 : Nat) : Int), .int .u64 ((wd T 1 : Nat) : Int), .int .u64 ((wd T 2 : Nat) : Int), .int .u64 ((wd T 3 : Nat) : Int)] 24)
      generalize (V2.alloc (.cells #[.int .u64 ((wd S 0 : Nat) : Int), .int .u64 ((wd S 1 : Nat) : Int), .int .u64 ((wd S 2 : Nat) : Int), .int .u64 ((wd S 3 : Nat) : Int), .int .u64 ((wd T 0 : Nat) : Int), .int .u64 ((wd T 1 : Nat) : Int), .int .u64 ((wd T 2 : Nat) : Int), .int .u64 ((wd T 3 : Nat) : Int)] 24)) = V3 at *
      refine (join2_any S T V2.heap.size V3 hu).mono ?_
      rintro e V4 ⟨rfl, hb4⟩
      have hb5 := hbu.trans (hb4.mono hbu.size)
      clear hbu hb4 hu cb cd H13
      have H5 := hide (And.intro (H3.out.1.below hb5 H3.out.1.lt) (And.intro (H3.out.2.1.below hb5 H3.out.2.1.lt) (H3.out.2.2.trans (hb5.mono H3.out.2.2.size))))
      clear hb5
      clear H3
      generalize htJ : (fun x => S x || T x) = TJ at *
      clear htJ
      unfold setV setC
      go_wp2_with (refine wpList_store_row rfl _ _ _ rfl (w.heap.size + 1) 0 _ _ _ rfl rfl H5.out.1 Tryz.sizeSetO (by simp [setC]) (by simp [Value.oneCell']) ?_)
      intro V6 hrow2 hg9 hz9
      have hrow := hrow2.out
      rw [splice_full (by rfl)] at hrow
      have H6 := hide (And.intro (show Blk V6 (w.heap.size + 1) 24 (setC TJ).toArray from hrow) (And.intro (H5.out.2.1.grown hg9 (fun e => by have := Option.some.inj e; omega)) (below_grew H5.out.2.2 hg9 (Nat.le_refl _) (fun q hq => by rw [← Option.some.inj hq]; omega))))
      clear hrow hrow2 hg9 hz9
      clear H5
      go_wp2_with fail
      go_roundw
      case rel => exact ⟨j, k, TJ, rfl, by have := HFI.out.2.1; omega, hj.2, by have := HN0.out; omega, HRR.out, H6.out.1, H6.out.2.1, H6.out.2.2⟩
      case measure => simp [intOf]; have := hj.1; omega
     | bad kg y =>
      obtain ⟨gf, rfl, hgf, hbf, hb1⟩ := hres
      have HR2 := hide (show r = .bad kg y by rw [HR.out, HRL.out]; rfl)
      have H2 := hide (And.intro (H1.out.2.1.below hb1 H1.out.2.1.lt) (And.intro (H1.out.2.2.trans (hb1.mono H1.out.2.2.size)) hbf))
      have hgz := H1.out.2.1.lt
      have hgk := hbf.lt
      clear HRL HR hnx HIT hb1 hbf H1
      have hal := (Below.refl V1.heap.size V1).alloc (Nat.le_refl _) (.cells #[.int .u64 0, .int .u64 0, .int .u64 0, .int .u64 0] 24)
      have hzb := Blk.new V1 24 #[.int .u64 0, .int .u64 0, .int .u64 0, .int .u64 0]
      rw [setV_none]
      unfold faultV
      have hnn := fun w => run_eql_iface_nil (P := Tryz.prog) (w := w) 32 (by kernel_rfl) 83 (.pointer (some ⟨gf, 0, none⟩))
      go_wp2_with (refine wpList_store_row rfl _ _ _ rfl V1.heap.size 0 _ _ _ rfl rfl hzb Tryz.sizeSetO (by simp) (by simp [Value.oneCell']) ?_)
      intro V2 hrow2 hg9 hz9
      have hbE : Below V1.heap.size V1 V2 := below_grew hal hg9 (Nat.le_refl _) (fun q hq => by rw [← Option.some.inj hq]; exact Nat.le_refl _)
      have H3 := hide (And.intro (H2.out.1.below hbE H2.out.1.lt) (And.intro (H2.out.2.1.trans (hbE.mono H2.out.2.1.size)) (H2.out.2.2.below hbE hgk)))
      have hzw := H2.out.2.1.size
      clear hrow2 hg9 hz9 hal hzb H2 hbE
      go_wp2_with (refine wpList_store_row rfl _ _ _ rfl w.heap.size 0 _ _ _ rfl rfl H3.out.1 Tryz.sizeSetO (by simp) (by simp [Value.oneCell']) ?_)
      intro w9 hrow2 hg9 hz9
      have hrow := hrow2.out
      rw [splice_full (by rfl)] at hrow
      have hb9 := below_grew H3.out.2.1 hg9 (Nat.le_refl _) (fun q hq => by rw [← Option.some.inj hq]; exact Nat.le_refl _)
      have HF := hide (And.intro hrow (And.intro hb9 (H3.out.2.2.grown hg9 (fun e => by have := Option.some.inj e; omega))))
      clear hrow hrow2 hg9 hz9 hb9
      go_wp2_with fail
      have c9 : ∀ i : Nat, _ = _ := HF.out.1.cell
      refine bodyPost_ret (v := .tuple #[setV (fun _ => false), .int .i64 0, faultV gf]) (by rw [setV_none]; unfold faultV; simp [results, Tryz.results130, go_sem, c9]) rfl ?_
      rw [HR2.out]
      exact ⟨gf, rfl, by omega, HF.out.2.2, HF.out.2.1⟩
set_option maxRecDepth 100000 in
set_option maxHeartbeats 4000000 in
theorem read5_plain0 (p : ByteArray) (z : Nat) (fl : Int) (hs : p.size < 4294967281) (hzs : z < p.size) (hz91 : pb p z = 91) (ht : ¬ z + 1 < p.size) (a : Nat → Addr) (m : Int) (w : World) (hB : B5 w a m) : Calls Tryz.prog 130 #[.string p, .int .i64 (z : Int), .int .i64 fl] w (R5.Is (readP p z (!decide (bits .and .i64 fl 2 = 0)) (!decide (bits .and .i64 fl 4 = 0))) a w) := by
 obtain ⟨ic, hic⟩ : ∃ ic, ic = !decide (bits .and .i64 fl 2 = 0) := ⟨_, rfl⟩
 obtain ⟨nl, hnl⟩ : ∃ nl, nl = !decide (bits .and .i64 fl 4 = 0) := ⟨_, rfl⟩
 rw [← hic, ← hnl]
 obtain ⟨r, hr⟩ : ∃ r, r = readP p z ic nl := ⟨_, rfl⟩
 rw [← hr]
 obtain ⟨f, hf⟩ : ∃ f, f = z + 1 := ⟨_, rfl⟩
 obtain ⟨R, hR⟩ : ∃ R, R = loopP p z f (p.size + 1) f (fun _ => false) := ⟨_, rfl⟩
 have HR := hide (show r = outP false ic nl R by rw [hr, hR, hf]; unfold readP; rw [if_neg (by rw [pb_none ht]; omega), decide_eq_false (by rw [pb_none ht]; omega)])
 have HLP := hide hR
 clear hr hR
 have HIC := hide hic
 have HNL := hide hnl
 clear hic hnl
 have hfs : f ≤ p.size := by omega
 have hb := (Below.refl w.heap.size w).alloc (Nat.le_refl _) (.cells #[.int .u64 0, .int .u64 0, .int .u64 0, .int .u64 0] 24)
 have h1 := Blk.new w 24 #[.int .u64 0, .int .u64 0, .int .u64 0, .int .u64 0]
 have H0 := hide (And.intro h1 (And.intro hb (hB.below hb)))
 clear hb h1
 have HS := hide hs
 have HB0 := hide hB
 clear hB
 have z0 : ¬ (z : Int) < 0 := by omega
 have z1 : (0 : Int) ≤ (z : Int) ∧ (z : Int) < (p.size : Int) := by omega
 have z2 : ¬ (p.size : Int) ≤ (z : Int) := by omega
 have z3 : ((p[z]'hzs).toNat : Int) = 91 := by rw [← pb_at hzs, hz91]; rfl
 have hw1 : IntKind.i64.wrap ((z : Int) + 1) = (z : Int) + 1 := by simp [IntKind.wrap, IntKind.bits, IntKind.signed]; omega
 have hw2 : IntKind.i64.wrap ((z : Int) + 1 + 1) = (z : Int) + 2 := by simp [IntKind.wrap, IntKind.bits, IntKind.signed]; omega
 have hn1 : ((z : Int) + 1).toNat = z + 1 := by omega
 have z4 : ¬ (z : Int) + 1 < (p.size : Int) := by omega
 clear hz91 ht hs
 have HSZ := hide (show (w.alloc (.cells #[.int .u64 0, .int .u64 0, .int .u64 0, .int .u64 0] 24)).heap.size = w.heap.size + 1 by simp)
 go_enter Tryz.func130, Tryz.ntmps130
 go_upto_region 1 with fail
 generalize (w.alloc (.cells #[.int .u64 0, .int .u64 0, .int .u64 0, .int .u64 0] 24)) = W at *
 go_upto_region 7 with fail
 have hzW : W.heap.size = w.heap.size + 1 := HSZ.out
 have hbA := (Below.refl W.heap.size W).alloc (Nat.le_refl _) (.cells #[.int .u64 0, .int .u64 0, .int .u64 0, .int .u64 0] 24)
 have hzb := Blk.new W 24 #[.int .u64 0, .int .u64 0, .int .u64 0, .int .u64 0]
 rw [hzW] at hzb
 have HA := hide (And.intro (show Blk (W.alloc (.cells #[.int .u64 0, .int .u64 0, .int .u64 0, .int .u64 0] 24)) (w.heap.size + 1) 24 (setC fun _ => false).toArray by rw [zeroC]; exact hzb) (And.intro (H0.out.1.below hbA H0.out.1.lt) (H0.out.2.1.trans (hbA.mono H0.out.2.1.size))))
 clear hbA hzb H0
 go_upto_region 8 with fail
 generalize (W.alloc (.cells #[.int .u64 0, .int .u64 0, .int .u64 0, .int .u64 0] 24)) = W2 at *
 clear hzW HSZ
 clear W
 go_wp2_with fail
 go_loopw [9] (fun v wr => ∃ (i n : Nat) (S : Nat → Bool), v = .int .i64 (i : Int) ∧ f ≤ i ∧ i ≤ p.size ∧ p.size < i + n ∧ R = loopP p z f n i S ∧ Blk wr (w.heap.size + 1) 24 (setC S).toArray ∧ Blk wr w.heap.size 24 #[.int .u64 0, .int .u64 0, .int .u64 0, .int .u64 0] ∧ Below w.heap.size w wr) (fun v _ => p.size - (intOf v).toNat)
 case atStart => exact ⟨f, p.size + 1, fun _ => false, by rw [hf]; go_num, by omega, hfs, by omega, HLP.out, HA.out.1, HA.out.2.1, HA.out.2.2⟩
 case round =>
  obtain ⟨i, n, S, rfl, hfi, hip, hn, hl, h1, h2, h3⟩ := hrel
  have H1 := hide (And.intro h1 (And.intro h2 h3))
  clear HA HLP h1 h2 h3
  have HL := hide hl
  clear hl
  have HN0 := hide hn
  clear hn
  have HFI := hide (And.intro hf (And.intro hfi (And.intro hip hfs)))
  clear hf hfi hfs
  obtain ⟨k, hk⟩ : ∃ k, n = k + 1 := ⟨n - 1, by have := HN0.out; omega⟩
  subst hk
  by_cases hge : p.size ≤ i
  case pos =>
   have hR : R = .bad 0 (z : Int) := by rw [HL.out, loopP, if_pos hge]
   have HR2 := hide (show r = .bad 0 (z : Int) by rw [HR.out, hR]; rfl)
   clear HL HR hR
   have g1 : (p.size : Int) ≤ (i : Int) := by omega
   have g2 : (i : Int) ≥ (p.size : Int) := by omega
   have ce := ((HB0.out.below H1.out.2.2).errs.var 3 (by decide))
   have H2 := hide H1.out.2
   clear H1 hip hge
   go_wp2_with fail
   refine (fault_any (z : Int) (a 3) wr).mono ?_
   rintro e wf ⟨gf, rfl, hgf, hbf, hb2⟩
   have HB := hide (And.intro (H2.out.1.below hb2 (by have := H2.out.1.lt; omega)) (And.intro (H2.out.2.trans (hb2.mono H2.out.2.size)) hbf))
   have HG := hide (And.intro hgf hbf.lt)
   have hz2 := hb2.size
   have hz1 := H2.out.2.size
   have hne := H2.out.1.lt
   clear hgf hbf hb2
   unfold faultV
   go_wp2_with (refine wpList_store_row rfl _ _ _ rfl w.heap.size 0 _ _ _ rfl rfl HB.out.1 Tryz.sizeSetO (by simp) (by simp [Value.oneCell']) ?_)
   intro w9 hrow2 hg9 hz9
   have hrow := hrow2.out
   rw [splice_full (by rfl)] at hrow
   have hb9 := below_grew HB.out.2.1 hg9 (Nat.le_refl _) (fun q hq => by rw [← Option.some.inj hq]; exact Nat.le_refl _)
   have HF := hide (And.intro hrow (And.intro hb9 (HB.out.2.2.grown hg9 (fun e => by have := Option.some.inj e; have := HG.out.1; omega))))
   clear hrow hrow2 hg9 hz9 hb9
   go_wp2_with fail
   have c9 : ∀ i : Nat, _ = _ := HF.out.1.cell
   refine bodyPost_ret (v := .tuple #[setV (fun _ => false), .int .i64 0, faultV gf]) (by rw [setV_none]; unfold faultV; simp [results, Tryz.results130, go_sem, c9]) rfl ?_
   rw [HR2.out]
   exact ⟨gf, rfl, by have := HG.out.1; omega, HF.out.2.2, HF.out.2.1⟩
  case neg =>
   exfalso
   have := HFI.out.1
   have := HFI.out.2.1
   omega
set_option maxRecDepth 100000 in
set_option maxHeartbeats 4000000 in
theorem read5_plain1 (p : ByteArray) (z : Nat) (fl : Int) (hs : p.size < 4294967281) (hzs : z < p.size) (hz91 : pb p z = 91) (h1 : z + 1 < p.size) (ht : ¬ pb p (z + 1) = 94) (a : Nat → Addr) (m : Int) (w : World) (hB : B5 w a m) : Calls Tryz.prog 130 #[.string p, .int .i64 (z : Int), .int .i64 fl] w (R5.Is (readP p z (!decide (bits .and .i64 fl 2 = 0)) (!decide (bits .and .i64 fl 4 = 0))) a w) := by
 obtain ⟨ic, hic⟩ : ∃ ic, ic = !decide (bits .and .i64 fl 2 = 0) := ⟨_, rfl⟩
 obtain ⟨nl, hnl⟩ : ∃ nl, nl = !decide (bits .and .i64 fl 4 = 0) := ⟨_, rfl⟩
 rw [← hic, ← hnl]
 obtain ⟨r, hr⟩ : ∃ r, r = readP p z ic nl := ⟨_, rfl⟩
 rw [← hr]
 obtain ⟨f, hf⟩ : ∃ f, f = z + 1 := ⟨_, rfl⟩
 obtain ⟨R, hR⟩ : ∃ R, R = loopP p z f (p.size + 1) f (fun _ => false) := ⟨_, rfl⟩
 have HR := hide (show r = outP false ic nl R by rw [hr, hR, hf]; unfold readP; rw [if_neg ht, decide_eq_false ht])
 have HLP := hide hR
 clear hr hR
 have HIC := hide hic
 have HNL := hide hnl
 clear hic hnl
 have hfs : f ≤ p.size := by omega
 have hb := (Below.refl w.heap.size w).alloc (Nat.le_refl _) (.cells #[.int .u64 0, .int .u64 0, .int .u64 0, .int .u64 0] 24)
 have h1 := Blk.new w 24 #[.int .u64 0, .int .u64 0, .int .u64 0, .int .u64 0]
 have H0 := hide (And.intro h1 (And.intro hb (hB.below hb)))
 clear hb h1
 have HS := hide hs
 have HB0 := hide hB
 clear hB
 have z0 : ¬ (z : Int) < 0 := by omega
 have z1 : (0 : Int) ≤ (z : Int) ∧ (z : Int) < (p.size : Int) := by omega
 have z2 : ¬ (p.size : Int) ≤ (z : Int) := by omega
 have z3 : ((p[z]'hzs).toNat : Int) = 91 := by rw [← pb_at hzs, hz91]; rfl
 have hw1 : IntKind.i64.wrap ((z : Int) + 1) = (z : Int) + 1 := by simp [IntKind.wrap, IntKind.bits, IntKind.signed]; omega
 have hw2 : IntKind.i64.wrap ((z : Int) + 1 + 1) = (z : Int) + 2 := by simp [IntKind.wrap, IntKind.bits, IntKind.signed]; omega
 have hn1 : ((z : Int) + 1).toNat = z + 1 := by omega
 have z4 : (0 : Int) ≤ (z : Int) + 1 ∧ (z : Int) + 1 < (p.size : Int) := by omega
 have z5 : ¬ ((p[z + 1]'h1).toNat : Int) = 94 := by rw [← pb_at h1]; omega
 clear hz91 ht hs
 have HSZ := hide (show (w.alloc (.cells #[.int .u64 0, .int .u64 0, .int .u64 0, .int .u64 0] 24)).heap.size = w.heap.size + 1 by simp)
 go_enter Tryz.func130, Tryz.ntmps130
 go_upto_region 1 with fail
 generalize (w.alloc (.cells #[.int .u64 0, .int .u64 0, .int .u64 0, .int .u64 0] 24)) = W at *
 go_upto_region 7 with fail
 have hzW : W.heap.size = w.heap.size + 1 := HSZ.out
 have hbA := (Below.refl W.heap.size W).alloc (Nat.le_refl _) (.cells #[.int .u64 0, .int .u64 0, .int .u64 0, .int .u64 0] 24)
 have hzb := Blk.new W 24 #[.int .u64 0, .int .u64 0, .int .u64 0, .int .u64 0]
 rw [hzW] at hzb
 have HA := hide (And.intro (show Blk (W.alloc (.cells #[.int .u64 0, .int .u64 0, .int .u64 0, .int .u64 0] 24)) (w.heap.size + 1) 24 (setC fun _ => false).toArray by rw [zeroC]; exact hzb) (And.intro (H0.out.1.below hbA H0.out.1.lt) (H0.out.2.1.trans (hbA.mono H0.out.2.1.size))))
 clear hbA hzb H0
 go_upto_region 8 with fail
 generalize (W.alloc (.cells #[.int .u64 0, .int .u64 0, .int .u64 0, .int .u64 0] 24)) = W2 at *
 clear hzW HSZ
 clear W
 go_wp2_with fail
 go_loopw [9] (fun v wr => ∃ (i n : Nat) (S : Nat → Bool), v = .int .i64 (i : Int) ∧ f ≤ i ∧ i ≤ p.size ∧ p.size < i + n ∧ R = loopP p z f n i S ∧ Blk wr (w.heap.size + 1) 24 (setC S).toArray ∧ Blk wr w.heap.size 24 #[.int .u64 0, .int .u64 0, .int .u64 0, .int .u64 0] ∧ Below w.heap.size w wr) (fun v _ => p.size - (intOf v).toNat)
 case atStart => exact ⟨f, p.size + 1, fun _ => false, by rw [hf]; go_num, by omega, hfs, by omega, HLP.out, HA.out.1, HA.out.2.1, HA.out.2.2⟩
 case round =>
  obtain ⟨i, n, S, rfl, hfi, hip, hn, hl, h1, h2, h3⟩ := hrel
  have H1 := hide (And.intro h1 (And.intro h2 h3))
  clear HA HLP h1 h2 h3
  have HL := hide hl
  clear hl
  have HN0 := hide hn
  clear hn
  have HFI := hide (And.intro hf (And.intro hfi (And.intro hip hfs)))
  clear hf hfi hfs
  obtain ⟨k, hk⟩ : ∃ k, n = k + 1 := ⟨n - 1, by have := HN0.out; omega⟩
  subst hk
  by_cases hge : p.size ≤ i
  case pos =>
   have hR : R = .bad 0 (z : Int) := by rw [HL.out, loopP, if_pos hge]
   have HR2 := hide (show r = .bad 0 (z : Int) by rw [HR.out, hR]; rfl)
   clear HL HR hR
   have g1 : (p.size : Int) ≤ (i : Int) := by omega
   have g2 : (i : Int) ≥ (p.size : Int) := by omega
   have ce := ((HB0.out.below H1.out.2.2).errs.var 3 (by decide))
   have H2 := hide H1.out.2
   clear H1 hip hge
   go_wp2_with fail
   refine (fault_any (z : Int) (a 3) wr).mono ?_
   rintro e wf ⟨gf, rfl, hgf, hbf, hb2⟩
   have HB := hide (And.intro (H2.out.1.below hb2 (by have := H2.out.1.lt; omega)) (And.intro (H2.out.2.trans (hb2.mono H2.out.2.size)) hbf))
   have HG := hide (And.intro hgf hbf.lt)
   have hz2 := hb2.size
   have hz1 := H2.out.2.size
   have hne := H2.out.1.lt
   clear hgf hbf hb2
   unfold faultV
   go_wp2_with (refine wpList_store_row rfl _ _ _ rfl w.heap.size 0 _ _ _ rfl rfl HB.out.1 Tryz.sizeSetO (by simp) (by simp [Value.oneCell']) ?_)
   intro w9 hrow2 hg9 hz9
   have hrow := hrow2.out
   rw [splice_full (by rfl)] at hrow
   have hb9 := below_grew HB.out.2.1 hg9 (Nat.le_refl _) (fun q hq => by rw [← Option.some.inj hq]; exact Nat.le_refl _)
   have HF := hide (And.intro hrow (And.intro hb9 (HB.out.2.2.grown hg9 (fun e => by have := Option.some.inj e; have := HG.out.1; omega))))
   clear hrow hrow2 hg9 hz9 hb9
   go_wp2_with fail
   have c9 : ∀ i : Nat, _ = _ := HF.out.1.cell
   refine bodyPost_ret (v := .tuple #[setV (fun _ => false), .int .i64 0, faultV gf]) (by rw [setV_none]; unfold faultV; simp [results, Tryz.results130, go_sem, c9]) rfl ?_
   rw [HR2.out]
   exact ⟨gf, rfl, by have := HG.out.1; omega, HF.out.2.2, HF.out.2.1⟩
  case neg =>
   have hi : i < p.size := by omega
   have g1 : ¬ (p.size : Int) ≤ (i : Int) := by omega
   have g2 : (0 : Int) ≤ (i : Int) ∧ (i : Int) < (p.size : Int) := by omega
   have q0 := pb_at hi
   by_cases hbr : pb p i = 93 ∧ f < i
   case pos =>
    have hR : R = .good S i := by rw [HL.out, loopP, if_neg hge, if_pos hbr]
    have HR2 := hide (show r = .good (finP false ic nl S) (i + 1) by rw [HR.out, hR]; rfl)
    clear HL HR hR
    have e0 : ((p[i]'hi).toNat : Int) = 93 := by rw [← q0, hbr.1]; rfl
    have e1 : (z : Int) + 1 < (i : Int) := by have := hbr.2; have := HFI.out.1; omega
    have hw3 : IntKind.i64.wrap ((i : Int) + 1) = (i : Int) + 1 := by have := HS.out; simp [IntKind.wrap, IntKind.bits, IntKind.signed]; omega
    clear hbr q0 hge HN0
    cases ic with
   | false =>
    have hbit : bits .and .i64 fl 2 = 0 := Decidable.byContradiction fun e => by have h := HIC.out; rw [decide_eq_false e] at h; cases h
    clear HIC
    have cb : ∀ i : Nat, _ = _ := H1.out.1.cell
    simp only [setC] at cb
    go_wp2_with (refine wpList_store_row rfl _ _ _ rfl w.heap.size 0 _ _ _ rfl rfl H1.out.2.1 Tryz.sizeSetO (by simp) (by simp [Value.oneCell']) ?_)
    intro w9 hrow2 hg9 hz9
    have hrow := hrow2.out
    rw [splice_full (by rfl)] at hrow
    have hb9 := below_grew H1.out.2.2 hg9 (Nat.le_refl _) (fun q hq => by rw [← Option.some.inj hq]; exact Nat.le_refl _)
    have HF := hide (And.intro (show Blk w9 w.heap.size 24 (setC S).toArray from hrow) hb9)
    clear hrow hrow2 hg9 hz9 hb9 cb
    go_wp2_with fail
    have c9 : ∀ i : Nat, _ = _ := HF.out.1.cell
    simp only [setC] at c9
    refine bodyPost_ret (v := .tuple #[setV S, .int .i64 ((i + 1 : Nat) : Int), .nilIface]) (by unfold setV setC; simp [results, Tryz.results130, go_sem, c9]; try omega) rfl ?_
    rw [HR2.out]
    refine ⟨?_, HF.out.2⟩
    skip
    try rfl
   | true =>
    have hbit : ¬ bits .and .i64 fl 2 = 0 := fun h => by have := HIC.out; rw [decide_eq_true h] at this; cases this
    clear HIC
    have cb : ∀ i : Nat, _ = _ := H1.out.1.cell
    simp only [setC] at cb
    have hcf := foldc_any S wr
    unfold setV setC at hcf
    go_wp2_with fail
    refine hcf.mono ?_
    rintro e V1 ⟨rfl, hb1⟩
    have HA1 := hide (And.intro (H1.out.1.below hb1 H1.out.1.lt) (And.intro (H1.out.2.1.below hb1 H1.out.2.1.lt) (H1.out.2.2.trans (hb1.mono H1.out.2.2.size))))
    clear hb1
    generalize htA : fold5 S = TA
    have HTA := hide htA.symm
    clear htA cb hcf H1
    unfold setV setC
    go_wp2_with (refine wpList_store_row rfl _ _ _ rfl (w.heap.size + 1) 0 _ _ _ rfl rfl HA1.out.1 Tryz.sizeSetO (by simp [setC]) (by simp [Value.oneCell']) ?_)
    intro V2 hrow2 hg9 hz9
    have hrow := hrow2.out
    rw [splice_full (by rfl)] at hrow
    have H2 := hide (And.intro (show Blk V2 (w.heap.size + 1) 24 (setC TA).toArray from hrow) (And.intro (HA1.out.2.1.grown hg9 (fun e => by have := Option.some.inj e; omega)) (below_grew HA1.out.2.2 hg9 (Nat.le_refl _) (fun q hq => by rw [← Option.some.inj hq]; omega))))
    clear hrow hrow2 hg9 hz9
    clear HA1
    have cb : ∀ i : Nat, _ = _ := H2.out.1.cell
    simp only [setC] at cb
    go_wp2_with (refine wpList_store_row rfl _ _ _ rfl w.heap.size 0 _ _ _ rfl rfl H2.out.2.1 Tryz.sizeSetO (by simp) (by simp [Value.oneCell']) ?_)
    intro w9 hrow2 hg9 hz9
    have hrow := hrow2.out
    rw [splice_full (by rfl)] at hrow
    have hb9 := below_grew H2.out.2.2 hg9 (Nat.le_refl _) (fun q hq => by rw [← Option.some.inj hq]; exact Nat.le_refl _)
    have HF := hide (And.intro (show Blk w9 w.heap.size 24 (setC TA).toArray from hrow) hb9)
    clear hrow hrow2 hg9 hz9 hb9 cb
    go_wp2_with fail
    have c9 : ∀ i : Nat, _ = _ := HF.out.1.cell
    simp only [setC] at c9
    refine bodyPost_ret (v := .tuple #[setV TA, .int .i64 ((i + 1 : Nat) : Int), .nilIface]) (by unfold setV setC; simp [results, Tryz.results130, go_sem, c9]; try omega) rfl ?_
    rw [HR2.out]
    refine ⟨?_, HF.out.2⟩
    rw [HTA.out]
    try rfl
   case neg =>
    have hR : R = (match itemP p i (z : Int) with
     | .bad g y => R5.bad g y
     | .good T j => loopP p z f k j (fun x => S x || T x)) := by rw [HL.out, loopP, if_neg hge, if_neg hbr]
    have HRL := hide hR
    clear HL hR
    have hnx := fun (T : Nat → Bool) (j : Nat) (h : itemP p i (z : Int) = .good T j) => itemP_next hi h
    have hbr2 : (¬ (p[i]'hi).toNat = 93) ∨ ((p[i]'hi).toNat = 93 ∧ ¬ f < i) := by
     rw [← q0]
     by_cases h : pb p i = 93
     ·exact .inr ⟨h, fun h2 => hbr ⟨h, h2⟩⟩
     ·exact .inl h
    have HIT := hide (item_any p i (z : Int) hi HS.out a m (named5_ok a) wr (HB0.out.below H1.out.2.2))
    generalize itemP p i (z : Int) = q at *
    clear q0 hbr hge
    rcases hbr2 with e0 | ⟨e0, e1⟩
    ·have e2 : ¬ ((p[i]'hi).toNat : Int) = 93 := by omega
     clear e0
     go_wp2_with fail
     refine HIT.out.mono ?_
     intro e V1 hres
     cases q with
     | good T j =>
      obtain ⟨rfl, hb1⟩ := hres
      have hj := hnx T j rfl
      have hRR : R = loopP p z f k j (fun x => S x || T x) := HRL.out
      have HRR := hide hRR
      clear HRL hRR hnx HIT
      have H2 := hide (And.intro (H1.out.1.below hb1 H1.out.1.lt) (And.intro (H1.out.2.1.below hb1 H1.out.2.1.lt) (H1.out.2.2.trans (hb1.mono H1.out.2.2.size))))
      clear hb1
      clear H1
      have hal := (Below.refl V1.heap.size V1).alloc (Nat.le_refl _) (.cells #[.int .u64 0, .int .u64 0, .int .u64 0, .int .u64 0] 24)
      have hzb := Blk.new V1 24 #[.int .u64 0, .int .u64 0, .int .u64 0, .int .u64 0]
      have hzq := H2.out.2.2.size
      have hz1 := H2.out.1.lt
      unfold setV setC
      go_wp2_with (refine wpList_store_row rfl _ _ _ rfl V1.heap.size 0 _ _ _ rfl rfl hzb Tryz.sizeSetO (by simp) (by simp [Value.oneCell']) ?_)
      intro V2 hrow2 hg9 hz9
      have hrow := hrow2.out
      rw [splice_full (by rfl)] at hrow
      have hbE : Below V1.heap.size V1 V2 := below_grew hal hg9 (Nat.le_refl _) (fun q hq => by rw [← Option.some.inj hq]; exact Nat.le_refl _)
      have H13 := hide (show Blk V2 V1.heap.size 24 (setC T).toArray from hrow)
      have hzV2 := hbE.size
      have H3 := hide (And.intro (H2.out.1.below hbE H2.out.1.lt) (And.intro (H2.out.2.1.below hbE H2.out.2.1.lt) (H2.out.2.2.trans (hbE.mono H2.out.2.2.size))))
      clear hbE
      clear hrow hrow2 hg9 hz9 hal hzb H2
      have hz13 := H13.out.lt
      generalize hg13 : V1.heap.size = g13 at *
      clear hg13
      have cb : ∀ i : Nat, _ = _ := H3.out.1.cell
      have cd : ∀ i : Nat, _ = _ := H13.out.cell
      simp only [setC] at cb cd
      go_wp2_with fail
      have hu := Blk.new V2 24 #[.int .u64 ((wd S 0 : Nat) : Int), .int .u64 ((wd S 1 : Nat) : Int), .int .u64 ((wd S 2 : Nat) : Int), .int .u64 ((wd S 3 : Nat) : Int), .int .u64 ((wd T 0 : Nat) : Int), .int .u64 ((wd T 1 : Nat) : Int), .int .u64 ((wd T 2 : Nat) : Int), .int .u64 ((wd T 3 : Nat) : Int)]
      have hbu := (Below.refl V2.heap.size V2).alloc (Nat.le_refl _) (.cells #[.int .u64 ((wd S 0 : Nat) : Int), .int .u64 ((wd S 1 : Nat) : Int), .int .u64 ((wd S 2 : Nat) : Int), .int .u64 ((wd S 3 : Nat) : Int), .int .u64 ((wd T 0 : Nat) : Int), .int .u64 ((wd T 1 : Nat) : Int), .int .u64 ((wd T 2 : Nat) : Int), .int .u64 ((wd T 3 : Nat) : Int)] 24)
      generalize (V2.alloc (.cells #[.int .u64 ((wd S 0 : Nat) : Int), .int .u64 ((wd S 1 : Nat) : Int), .int .u64 ((wd S 2 : Nat) : Int), .int .u64 ((wd S 3 : Nat) : Int), .int .u64 ((wd T 0 : Nat) : Int), .int .u64 ((wd T 1 : Nat) : Int), .int .u64 ((wd T 2 : Nat) : Int), .int .u64 ((wd T 3 : Nat) : Int)] 24)) = V3 at *
      refine (join2_any S T V2.heap.size V3 hu).mono ?_
      rintro e V4 ⟨rfl, hb4⟩
      have hb5 := hbu.trans (hb4.mono hbu.size)
      clear hbu hb4 hu cb cd H13
      have H5 := hide (And.intro (H3.out.1.below hb5 H3.out.1.lt) (And.intro (H3.out.2.1.below hb5 H3.out.2.1.lt) (H3.out.2.2.trans (hb5.mono H3.out.2.2.size))))
      clear hb5
      clear H3
      generalize htJ : (fun x => S x || T x) = TJ at *
      clear htJ
      unfold setV setC
      go_wp2_with (refine wpList_store_row rfl _ _ _ rfl (w.heap.size + 1) 0 _ _ _ rfl rfl H5.out.1 Tryz.sizeSetO (by simp [setC]) (by simp [Value.oneCell']) ?_)
      intro V6 hrow2 hg9 hz9
      have hrow := hrow2.out
      rw [splice_full (by rfl)] at hrow
      have H6 := hide (And.intro (show Blk V6 (w.heap.size + 1) 24 (setC TJ).toArray from hrow) (And.intro (H5.out.2.1.grown hg9 (fun e => by have := Option.some.inj e; omega)) (below_grew H5.out.2.2 hg9 (Nat.le_refl _) (fun q hq => by rw [← Option.some.inj hq]; omega))))
      clear hrow hrow2 hg9 hz9
      clear H5
      go_wp2_with fail
      go_roundw
      case rel => exact ⟨j, k, TJ, rfl, by have := HFI.out.2.1; omega, hj.2, by have := HN0.out; omega, HRR.out, H6.out.1, H6.out.2.1, H6.out.2.2⟩
      case measure => simp [intOf]; have := hj.1; omega
     | bad kg y =>
      obtain ⟨gf, rfl, hgf, hbf, hb1⟩ := hres
      have HR2 := hide (show r = .bad kg y by rw [HR.out, HRL.out]; rfl)
      have H2 := hide (And.intro (H1.out.2.1.below hb1 H1.out.2.1.lt) (And.intro (H1.out.2.2.trans (hb1.mono H1.out.2.2.size)) hbf))
      have hgz := H1.out.2.1.lt
      have hgk := hbf.lt
      clear HRL HR hnx HIT hb1 hbf H1
      have hal := (Below.refl V1.heap.size V1).alloc (Nat.le_refl _) (.cells #[.int .u64 0, .int .u64 0, .int .u64 0, .int .u64 0] 24)
      have hzb := Blk.new V1 24 #[.int .u64 0, .int .u64 0, .int .u64 0, .int .u64 0]
      rw [setV_none]
      unfold faultV
      have hnn := fun w => run_eql_iface_nil (P := Tryz.prog) (w := w) 32 (by kernel_rfl) 83 (.pointer (some ⟨gf, 0, none⟩))
      go_wp2_with (refine wpList_store_row rfl _ _ _ rfl V1.heap.size 0 _ _ _ rfl rfl hzb Tryz.sizeSetO (by simp) (by simp [Value.oneCell']) ?_)
      intro V2 hrow2 hg9 hz9
      have hbE : Below V1.heap.size V1 V2 := below_grew hal hg9 (Nat.le_refl _) (fun q hq => by rw [← Option.some.inj hq]; exact Nat.le_refl _)
      have H3 := hide (And.intro (H2.out.1.below hbE H2.out.1.lt) (And.intro (H2.out.2.1.trans (hbE.mono H2.out.2.1.size)) (H2.out.2.2.below hbE hgk)))
      have hzw := H2.out.2.1.size
      clear hrow2 hg9 hz9 hal hzb H2 hbE
      go_wp2_with (refine wpList_store_row rfl _ _ _ rfl w.heap.size 0 _ _ _ rfl rfl H3.out.1 Tryz.sizeSetO (by simp) (by simp [Value.oneCell']) ?_)
      intro w9 hrow2 hg9 hz9
      have hrow := hrow2.out
      rw [splice_full (by rfl)] at hrow
      have hb9 := below_grew H3.out.2.1 hg9 (Nat.le_refl _) (fun q hq => by rw [← Option.some.inj hq]; exact Nat.le_refl _)
      have HF := hide (And.intro hrow (And.intro hb9 (H3.out.2.2.grown hg9 (fun e => by have := Option.some.inj e; omega))))
      clear hrow hrow2 hg9 hz9 hb9
      go_wp2_with fail
      have c9 : ∀ i : Nat, _ = _ := HF.out.1.cell
      refine bodyPost_ret (v := .tuple #[setV (fun _ => false), .int .i64 0, faultV gf]) (by rw [setV_none]; unfold faultV; simp [results, Tryz.results130, go_sem, c9]) rfl ?_
      rw [HR2.out]
      exact ⟨gf, rfl, by omega, HF.out.2.2, HF.out.2.1⟩
    ·have e2 : ((p[i]'hi).toNat : Int) = 93 := by omega
     have e3 : ¬ (z : Int) + 1 < (i : Int) := by have := HFI.out.1; omega
     clear e0 e1
     go_wp2_with fail
     refine HIT.out.mono ?_
     intro e V1 hres
     cases q with
     | good T j =>
      obtain ⟨rfl, hb1⟩ := hres
      have hj := hnx T j rfl
      have hRR : R = loopP p z f k j (fun x => S x || T x) := HRL.out
      have HRR := hide hRR
      clear HRL hRR hnx HIT
      have H2 := hide (And.intro (H1.out.1.below hb1 H1.out.1.lt) (And.intro (H1.out.2.1.below hb1 H1.out.2.1.lt) (H1.out.2.2.trans (hb1.mono H1.out.2.2.size))))
      clear hb1
      clear H1
      have hal := (Below.refl V1.heap.size V1).alloc (Nat.le_refl _) (.cells #[.int .u64 0, .int .u64 0, .int .u64 0, .int .u64 0] 24)
      have hzb := Blk.new V1 24 #[.int .u64 0, .int .u64 0, .int .u64 0, .int .u64 0]
      have hzq := H2.out.2.2.size
      have hz1 := H2.out.1.lt
      unfold setV setC
      go_wp2_with (refine wpList_store_row rfl _ _ _ rfl V1.heap.size 0 _ _ _ rfl rfl hzb Tryz.sizeSetO (by simp) (by simp [Value.oneCell']) ?_)
      intro V2 hrow2 hg9 hz9
      have hrow := hrow2.out
      rw [splice_full (by rfl)] at hrow
      have hbE : Below V1.heap.size V1 V2 := below_grew hal hg9 (Nat.le_refl _) (fun q hq => by rw [← Option.some.inj hq]; exact Nat.le_refl _)
      have H13 := hide (show Blk V2 V1.heap.size 24 (setC T).toArray from hrow)
      have hzV2 := hbE.size
      have H3 := hide (And.intro (H2.out.1.below hbE H2.out.1.lt) (And.intro (H2.out.2.1.below hbE H2.out.2.1.lt) (H2.out.2.2.trans (hbE.mono H2.out.2.2.size))))
      clear hbE
      clear hrow hrow2 hg9 hz9 hal hzb H2
      have hz13 := H13.out.lt
      generalize hg13 : V1.heap.size = g13 at *
      clear hg13
      have cb : ∀ i : Nat, _ = _ := H3.out.1.cell
      have cd : ∀ i : Nat, _ = _ := H13.out.cell
      simp only [setC] at cb cd
      go_wp2_with fail
      have hu := Blk.new V2 24 #[.int .u64 ((wd S 0 : Nat) : Int), .int .u64 ((wd S 1 : Nat) : Int), .int .u64 ((wd S 2 : Nat) : Int), .int .u64 ((wd S 3 : Nat) : Int), .int .u64 ((wd T 0 : Nat) : Int), .int .u64 ((wd T 1 : Nat) : Int), .int .u64 ((wd T 2 : Nat) : Int), .int .u64 ((wd T 3 : Nat) : Int)]
      have hbu := (Below.refl V2.heap.size V2).alloc (Nat.le_refl _) (.cells #[.int .u64 ((wd S 0 : Nat) : Int), .int .u64 ((wd S 1 : Nat) : Int), .int .u64 ((wd S 2 : Nat) : Int), .int .u64 ((wd S 3 : Nat) : Int), .int .u64 ((wd T 0 : Nat) : Int), .int .u64 ((wd T 1 : Nat) : Int), .int .u64 ((wd T 2 : Nat) : Int), .int .u64 ((wd T 3 : Nat) : Int)] 24)
      generalize (V2.alloc (.cells #[.int .u64 ((wd S 0 : Nat) : Int), .int .u64 ((wd S 1 : Nat) : Int), .int .u64 ((wd S 2 : Nat) : Int), .int .u64 ((wd S 3 : Nat) : Int), .int .u64 ((wd T 0 : Nat) : Int), .int .u64 ((wd T 1 : Nat) : Int), .int .u64 ((wd T 2 : Nat) : Int), .int .u64 ((wd T 3 : Nat) : Int)] 24)) = V3 at *
      refine (join2_any S T V2.heap.size V3 hu).mono ?_
      rintro e V4 ⟨rfl, hb4⟩
      have hb5 := hbu.trans (hb4.mono hbu.size)
      clear hbu hb4 hu cb cd H13
      have H5 := hide (And.intro (H3.out.1.below hb5 H3.out.1.lt) (And.intro (H3.out.2.1.below hb5 H3.out.2.1.lt) (H3.out.2.2.trans (hb5.mono H3.out.2.2.size))))
      clear hb5
      clear H3
      generalize htJ : (fun x => S x || T x) = TJ at *
      clear htJ
      unfold setV setC
      go_wp2_with (refine wpList_store_row rfl _ _ _ rfl (w.heap.size + 1) 0 _ _ _ rfl rfl H5.out.1 Tryz.sizeSetO (by simp [setC]) (by simp [Value.oneCell']) ?_)
      intro V6 hrow2 hg9 hz9
      have hrow := hrow2.out
      rw [splice_full (by rfl)] at hrow
      have H6 := hide (And.intro (show Blk V6 (w.heap.size + 1) 24 (setC TJ).toArray from hrow) (And.intro (H5.out.2.1.grown hg9 (fun e => by have := Option.some.inj e; omega)) (below_grew H5.out.2.2 hg9 (Nat.le_refl _) (fun q hq => by rw [← Option.some.inj hq]; omega))))
      clear hrow hrow2 hg9 hz9
      clear H5
      go_wp2_with fail
      go_roundw
      case rel => exact ⟨j, k, TJ, rfl, by have := HFI.out.2.1; omega, hj.2, by have := HN0.out; omega, HRR.out, H6.out.1, H6.out.2.1, H6.out.2.2⟩
      case measure => simp [intOf]; have := hj.1; omega
     | bad kg y =>
      obtain ⟨gf, rfl, hgf, hbf, hb1⟩ := hres
      have HR2 := hide (show r = .bad kg y by rw [HR.out, HRL.out]; rfl)
      have H2 := hide (And.intro (H1.out.2.1.below hb1 H1.out.2.1.lt) (And.intro (H1.out.2.2.trans (hb1.mono H1.out.2.2.size)) hbf))
      have hgz := H1.out.2.1.lt
      have hgk := hbf.lt
      clear HRL HR hnx HIT hb1 hbf H1
      have hal := (Below.refl V1.heap.size V1).alloc (Nat.le_refl _) (.cells #[.int .u64 0, .int .u64 0, .int .u64 0, .int .u64 0] 24)
      have hzb := Blk.new V1 24 #[.int .u64 0, .int .u64 0, .int .u64 0, .int .u64 0]
      rw [setV_none]
      unfold faultV
      have hnn := fun w => run_eql_iface_nil (P := Tryz.prog) (w := w) 32 (by kernel_rfl) 83 (.pointer (some ⟨gf, 0, none⟩))
      go_wp2_with (refine wpList_store_row rfl _ _ _ rfl V1.heap.size 0 _ _ _ rfl rfl hzb Tryz.sizeSetO (by simp) (by simp [Value.oneCell']) ?_)
      intro V2 hrow2 hg9 hz9
      have hbE : Below V1.heap.size V1 V2 := below_grew hal hg9 (Nat.le_refl _) (fun q hq => by rw [← Option.some.inj hq]; exact Nat.le_refl _)
      have H3 := hide (And.intro (H2.out.1.below hbE H2.out.1.lt) (And.intro (H2.out.2.1.trans (hbE.mono H2.out.2.1.size)) (H2.out.2.2.below hbE hgk)))
      have hzw := H2.out.2.1.size
      clear hrow2 hg9 hz9 hal hzb H2 hbE
      go_wp2_with (refine wpList_store_row rfl _ _ _ rfl w.heap.size 0 _ _ _ rfl rfl H3.out.1 Tryz.sizeSetO (by simp) (by simp [Value.oneCell']) ?_)
      intro w9 hrow2 hg9 hz9
      have hrow := hrow2.out
      rw [splice_full (by rfl)] at hrow
      have hb9 := below_grew H3.out.2.1 hg9 (Nat.le_refl _) (fun q hq => by rw [← Option.some.inj hq]; exact Nat.le_refl _)
      have HF := hide (And.intro hrow (And.intro hb9 (H3.out.2.2.grown hg9 (fun e => by have := Option.some.inj e; omega))))
      clear hrow hrow2 hg9 hz9 hb9
      go_wp2_with fail
      have c9 : ∀ i : Nat, _ = _ := HF.out.1.cell
      refine bodyPost_ret (v := .tuple #[setV (fun _ => false), .int .i64 0, faultV gf]) (by rw [setV_none]; unfold faultV; simp [results, Tryz.results130, go_sem, c9]) rfl ?_
      rw [HR2.out]
      exact ⟨gf, rfl, by omega, HF.out.2.2, HF.out.2.1⟩
theorem read5_any (p : ByteArray) (z fl : Int) (hs : p.size < 4294967281) (a : Nat → Addr) (m : Int) (w : World) (hB : B5 w a m) : Calls Tryz.prog 130 #[.string p, .int .i64 z, .int .i64 fl] w (ReadIs p z fl a w) := by
 by_cases hz : 0 ≤ z ∧ pb p z.toNat = 91
 ·obtain ⟨k, rfl⟩ : ∃ k : Nat, z = k := ⟨z.toNat, by omega⟩
  have hk := hz.2
  rw [Int.toNat_natCast] at hk
  have hkz : k < p.size := pb_in (by omega)
  have key : ∀ e w', R5.Is (readP p k (!decide (bits .and .i64 fl 2 = 0)) (!decide (bits .and .i64 fl 4 = 0))) a w e w' → ReadIs p (k : Int) fl a w e w' := fun e w' h => by
   unfold ReadIs
   rw [if_pos hz, Int.toNat_natCast]
   exact h
  by_cases h1 : k + 1 < p.size
  ·by_cases ht : pb p (k + 1) = 94
   ·exact (read5_turned p k fl hs hkz hk ht a m w hB).mono key
   ·exact (read5_plain1 p k fl hs hkz hk h1 ht a m w hB).mono key
  ·exact (read5_plain0 p k fl hs hkz hk h1 a m w hB).mono key
 ·refine (read5_none p z fl hs hz a m w hB).mono ?_
  intro e w' h
  unfold ReadIs
  rw [if_neg hz]
  exact h
end Go.Proofs.YtpkcklpjbeginaaGreatDoor
