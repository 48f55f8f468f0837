/- octet: sets joined, met, turned, lessened; of bytes, of a range. (Printed by gen_octfns.py.) -/
import Derived.Test.YtpkcklpjbeginaaGreatDoorOct
import Derived.Test.YtpkcklpjbeginaaGreatDoorPick
import Derived.Test.YtpkcklpjbeginaaGreatDoorHas
import Derived.Deep.DeepCutAuto
set_option linter.unusedSimpArgs false
set_option linter.unusedVariables false
namespace Go.Proofs.YtpkcklpjbeginaaGreatDoor
open Go.RowKit

theorem Tryz.sizeSetO : (Tryz.prog.info? 24).map (·.size) = some 4 := by kernel_rfl
theorem zeroS_eq : (#[.int .u64 0, .int .u64 0, .int .u64 0, .int .u64 0] : Array Value) = (setC fun _ => false).toArray := by
 unfold setC
 rw [wd_none, wd_none, wd_none, wd_none]
 rfl
theorem Blk.word {w : World} {g : Nat} {S : Nat → Bool} (h : Blk w g 24 (setC S).toArray) (k : Nat) (hk : k < 4) : w.cell? ⟨g, k, none⟩ = some (.int .u64 ((wd S k : Nat) : Int)) := by
 rw [h.cell]
 simpa using setC_at S k hk
theorem Blk.setWord {w : World} {g k v : Nat} {S T : Nat → Bool} (h : Blk w g 24 (setC S).toArray) (hk : k < 4) (hv : v = wd T k) (ho : ∀ j, j < 4 → j ≠ k → wd S j = wd T j) : Blk (w.setCell ⟨g, k, none⟩ (.int .u64 ((v : Nat) : Int))) g 24 (setC T).toArray := by
 have := heap_setCell_same w g k _ _ (.int .u64 ((v : Nat) : Int)) h
 rw [setC_set hk hv ho] at this
 exact this
/-- The set was answered. -/
def SetIs (S : Nat → Bool) (w : World) (e : Ending) (w' : World) : Prop := e = .returned (setV S) ∧ Below w.heap.size w w'

theorem xor_ones {u : Nat} (hu : u < 18446744073709551616) : bits .xor .u64 (if IntKind.u64.signed = true then -1 else IntKind.u64.max) (u : Int) = ((18446744073709551615 - u : Nat) : Int) := by
 have h1 : (if IntKind.u64.signed = true then (-1 : Int) else IntKind.u64.max) = ((18446744073709551615 : Nat) : Int) := by decide
 rw [h1, u64_xor_nat _ _ (by decide) hu]
 congr 1
 apply Nat.eq_of_testBit_eq
 intro j
 have h2 := Nat.testBit_two_pow_sub_succ (n := 64) (x := u) (by simpa using hu) j
 rw [show (2 : Nat) ^ 64 - (u + 1) = 18446744073709551615 - u by omega] at h2
 rw [Nat.testBit_xor, h2, show (18446744073709551615 : Nat) = 2 ^ 64 - 1 from rfl, Nat.testBit_two_pow_sub_one]
 by_cases hj : j < 64
 ·simp [hj]
 ·have : u.testBit j = false := Nat.testBit_lt_two_pow (Nat.lt_of_lt_of_le hu (by rw [show (18446744073709551616 : Nat) = 2 ^ 64 from rfl]; exact Nat.pow_le_pow_right (by decide) (by omega)))
  simp [hj, this]

set_option maxRecDepth 100000 in
set_option maxHeartbeats 4000000 in
theorem less_any (S T : Nat → Bool) (w : World) : Calls Tryz.prog 124 #[setV S, setV T] w (SetIs (fun x => S x && !T x) w) := by
 obtain ⟨R, hR⟩ : ∃ R : Nat → Bool, R = (fun x => S x && !T x) := ⟨_, rfl⟩
 rw [← hR]
 have HR := hide hR
 clear hR
 unfold setV
 have hb := (((Below.refl w.heap.size w).alloc (Nat.le_refl _) (.cells (setC S).toArray 24)).alloc (by simp) (.cells (setC T).toArray 24)).alloc (by simp; omega) (.cells #[.int .u64 0, .int .u64 0, .int .u64 0, .int .u64 0] 24)
 have h1 := ((Blk.new w 24 (setC S).toArray).alloc (.cells (setC T).toArray 24)).alloc (.cells #[.int .u64 0, .int .u64 0, .int .u64 0, .int .u64 0] 24)
 have h2 := (Blk.new (w.alloc (.cells (setC S).toArray 24)) 24 (setC T).toArray).alloc (.cells #[.int .u64 0, .int .u64 0, .int .u64 0, .int .u64 0] 24)
 have h3 := Blk.new ((w.alloc (.cells (setC S).toArray 24)).alloc (.cells (setC T).toArray 24)) 24 #[.int .u64 0, .int .u64 0, .int .u64 0, .int .u64 0]
 rw [World.size_alloc, World.size_alloc] at h3
 rw [World.size_alloc] at h2
 have hsz : w.heap.size + 2 < (((w.alloc (.cells (setC S).toArray 24)).alloc (.cells (setC T).toArray 24)).alloc (.cells #[.int .u64 0, .int .u64 0, .int .u64 0, .int .u64 0] 24)).heap.size := by simp
 have H0 := hide (And.intro h1 (And.intro h2 (And.intro h3 hb)))
 clear hb h1 h2 h3
 go_enter Tryz.func124, Tryz.ntmps124
 go_wp2_with fail
 generalize (((w.alloc (.cells (setC S).toArray 24)).alloc (.cells (setC T).toArray 24)).alloc (.cells #[.int .u64 0, .int .u64 0, .int .u64 0, .int .u64 0] 24)) = W at *
 go_loopw [6] (fun kv wr => ∃ k : Nat, kv = .int .i64 (k : Int) ∧ k ≤ 4 ∧ Blk wr w.heap.size 24 (setC (mix5 k R S)).toArray ∧ Blk wr (w.heap.size + 1) 24 (setC T).toArray ∧ Blk wr (w.heap.size + 2) 24 #[.int .u64 0, .int .u64 0, .int .u64 0, .int .u64 0] ∧ Below w.heap.size w wr) (fun kv _ => 4 - (intOf kv).toNat)
 case atStart => exact ⟨0, rfl, by omega, H0.out.1, H0.out.2.1, H0.out.2.2.1, H0.out.2.2.2⟩
 case round =>
  clear H0
  obtain ⟨k, rfl, hk, h1, h2, h3, hb⟩ := hrel
  have HH := hide (And.intro h1 (And.intro h2 (And.intro h3 hb)))
  have hz1 := h1.lt
  have hz2 := h2.lt
  clear h1 h2 h3 hb
  by_cases hlt : k < 4
  ·have g1 : decide ((k : Int) < 4) = true := decide_eq_true (by omega)
   have hk4 : (k : Int) < 4 := by omega
   have hop : bits .andNot .u64 ((wd (mix5 k R S) k : Nat) : Int) ((wd T k : Nat) : Int) = ((wd R k : Nat) : Int) := by
    rw [word_less (wd_lt _ _) (wd_lt _ _), wd_mix, if_neg (by omega), wd_less, ← HR.out]
   have c1 := HH.out.1.word k hlt
   have c2 := HH.out.2.1.word k hlt
   have f1 := HH.out.1.frozen k
   have HM := hide (show wd (mix5 k R S) k = wd S k by rw [wd_mix, if_neg (by omega)])
   generalize hu : wd (mix5 k R S) k = u at *
   clear hu
   generalize hv : wd T k = v at *
   clear hv
   obtain ⟨r, hr⟩ : ∃ r, r = wd R k := ⟨_, rfl⟩
   rw [← hr] at hop
   have HRK := hide hr
   clear hr
   go_upto_region 4 with fail
   refine wp_region_mix (fun z => Below wr.heap.size wr z) [8] (by kernel_rfl) (fun hcl => ?_)
   have hS : Below wr.heap.size wr wr.drew := (Below.refl _ _).drew
   refine wpAnyT_free (i := 0) hcl rfl (by kernel_rfl) (v := ?_) (fun _ _ _ h => h) hS (Or.inl ⟨rfl, fun w' _ => ?_⟩) (fun hcl => ?_)
   rotate_left
   ·go_simp
    with_reducible rfl
   simp only [List.getElem_toArray, List.getElem_cons_zero, List.getElem_cons_succ, Act.put, List.setIfInBounds_toArray, List.set_cons_zero, List.set_cons_succ]
   refine wpAnyT_free (i := 1) hcl rfl (by kernel_rfl) (v := ?_) (fun _ _ _ h => h) hS (Or.inl ⟨rfl, fun w' _ => ?_⟩) (fun hcl => ?_)
   rotate_left
   ·go_simp
    with_reducible rfl
   simp only [List.getElem_toArray, List.getElem_cons_zero, List.getElem_cons_succ, Act.put, List.setIfInBounds_toArray, List.set_cons_zero, List.set_cons_succ]
   refine wpAnyT_take (i := 2) hcl rfl (by kernel_rfl) (v := ?_) (fun _ _ _ h => h) hS (Or.inl ⟨rfl, fun w' hS => ?_⟩) (fun hcl => ?_)
   rotate_left
   ·skip
    have c1' := (hS.cell (p := ⟨w.heap.size, k, none⟩) hz1).trans c1
    go_simp
    with_reducible rfl
   simp only [List.getElem_toArray, List.getElem_cons_zero, List.getElem_cons_succ, Act.put, List.setIfInBounds_toArray, List.set_cons_zero, List.set_cons_succ]
   refine wpAnyT_free (i := 3) hcl rfl (by kernel_rfl) (v := ?_) (fun _ _ _ h => h) hS (Or.inl ⟨rfl, fun w' _ => ?_⟩) (fun hcl => ?_)
   rotate_left
   ·go_simp
    with_reducible rfl
   simp only [List.getElem_toArray, List.getElem_cons_zero, List.getElem_cons_succ, Act.put, List.setIfInBounds_toArray, List.set_cons_zero, List.set_cons_succ]
   refine wpAnyT_free (i := 4) hcl rfl (by kernel_rfl) (v := ?_) (fun _ _ _ h => h) hS (Or.inl ⟨rfl, fun w' _ => ?_⟩) (fun hcl => ?_)
   rotate_left
   ·go_simp
    with_reducible rfl
   simp only [List.getElem_toArray, List.getElem_cons_zero, List.getElem_cons_succ, Act.put, List.setIfInBounds_toArray, List.set_cons_zero, List.set_cons_succ]
   refine wpAnyT_take (i := 5) hcl rfl (by kernel_rfl) (v := ?_) (fun _ _ _ h => h) hS (Or.inl ⟨rfl, fun w' hS => ?_⟩) (fun hcl => ?_)
   rotate_left
   ·skip
    have c2' := (hS.cell (p := ⟨w.heap.size + 1, k, none⟩) hz2).trans c2
    go_simp
    with_reducible rfl
   simp only [List.getElem_toArray, List.getElem_cons_zero, List.getElem_cons_succ, Act.put, List.setIfInBounds_toArray, List.set_cons_zero, List.set_cons_succ]
   refine wpAnyT_free (i := 6) hcl rfl (by kernel_rfl) (v := ?_) (fun _ _ _ h => h) hS (Or.inl ⟨rfl, fun w' _ => ?_⟩) (fun hcl => ?_)
   rotate_left
   ·go_simp
    with_reducible rfl
   simp only [List.getElem_toArray, List.getElem_cons_zero, List.getElem_cons_succ, Act.put, List.setIfInBounds_toArray, List.set_cons_zero, List.set_cons_succ]
   refine wpAnyT_free (i := 7) hcl rfl (by kernel_rfl) (v := ?_) (fun _ _ _ h => h) hS (Or.inl ⟨rfl, fun w' _ => ?_⟩) (fun hcl => ?_)
   rotate_left
   ·go_simp
    with_reducible rfl
   simp only [List.getElem_toArray, List.getElem_cons_zero, List.getElem_cons_succ, Act.put, List.setIfInBounds_toArray, List.set_cons_zero, List.set_cons_succ]
   have HB := hide hS
   have f1' : wr.drew.frozen? ⟨w.heap.size, k, none⟩ = false := f1
   have c1' := (hS.cell (p := ⟨w.heap.size, k, none⟩) hz1).trans c1
   clear hS
   refine wpAnyT_last (i := 8) hcl rfl (by kernel_rfl) (by kernel_rfl) (fun hcl => ?_)
   simp only [List.getElem_toArray, List.getElem_cons_zero, List.getElem_cons_succ, Act.put, List.setIfInBounds_toArray, List.set_cons_zero, List.set_cons_succ]
   go_wp2_with fail
   refine wpAnyT_done (by kernel_rfl) ?_ _
   go_wp2_with fail
   go_roundw
   case rel =>
    have hb := HB.out
    refine ⟨k + 1, by go_num, by omega, (HH.out.1.nxt hb).setWord hlt (by rw [wd_mix, if_pos (by omega), HRK.out]) (fun j hj hne => by rw [wd_mix, wd_mix]; split <;> split <;> first | rfl | omega), (HH.out.2.1.nxt hb).far (by show w.heap.size + 1 ≠ w.heap.size; omega) _, (HH.out.2.2.1.nxt hb).far (by show w.heap.size + 2 ≠ w.heap.size; omega) _, (HH.out.2.2.2.trans (hb.mono HH.out.2.2.2.size)).setCell (Nat.le_refl _) _⟩
   case measure => simp [intOf]; omega
  ·have g1 : decide ((k : Int) < 4) = false := decide_eq_false (by omega)
   obtain rfl : k = 4 := by omega
   have H4 := hide (And.intro (show Blk wr w.heap.size 24 (setC R).toArray from (setC_congr (S := mix5 4 R S) (T := R) fun x hx => by unfold mix5; rw [if_pos (by omega)]) ▸ HH.out.1) HH.out.2.2)
   clear HH hz1 hz2
   have cb : ∀ i : Nat, _ = _ := H4.out.1.cell
   simp only [setC] at cb
   go_wp2_with (refine wpList_store_row rfl _ _ _ rfl (w.heap.size + 2) 0 _ _ _ rfl rfl H4.out.2.1 Tryz.sizeSetO (by simp) (by simp [Value.oneCell']) ?_)
   intro w9 hrow2 hg9 hz9
   have hrow := hrow2.out
   rw [splice_full (by rfl)] at hrow
   have hb9 := below_grew H4.out.2.2 hg9 (Nat.le_refl _) (fun q hq => by rw [← Option.some.inj hq]; omega)
   have HF := hide (And.intro hrow hb9)
   clear hrow hrow2 hg9 hz9 cb
   go_wp2_with fail
   refine bodyPost_ret (results_cell_row rfl _ _ (w.heap.size + 2) _ _ (0, 0) _ rfl HF.out.1 Tryz.underlying24 rfl Tryz.sizeSetO) rfl ?_
   exact ⟨rfl, HF.out.2⟩

set_option maxRecDepth 100000 in
set_option maxHeartbeats 4000000 in
theorem not_any (S : Nat → Bool) (w : World) : Calls Tryz.prog 94 #[setV S] w (SetIs (fun x => !S x) w) := by
 obtain ⟨R, hR⟩ : ∃ R : Nat → Bool, R = (fun x => !S x) := ⟨_, rfl⟩
 rw [← hR]
 have HR := hide hR
 clear hR
 unfold setV
 have hb := ((Below.refl w.heap.size w).alloc (Nat.le_refl _) (.cells (setC S).toArray 24)).alloc (by simp) (.cells #[.int .u64 0, .int .u64 0, .int .u64 0, .int .u64 0] 24)
 have h1 := (Blk.new w 24 (setC S).toArray).alloc (.cells #[.int .u64 0, .int .u64 0, .int .u64 0, .int .u64 0] 24)
 have h3 := Blk.new (w.alloc (.cells (setC S).toArray 24)) 24 #[.int .u64 0, .int .u64 0, .int .u64 0, .int .u64 0]
 rw [World.size_alloc] at h3
 have hsz : w.heap.size + 1 < ((w.alloc (.cells (setC S).toArray 24)).alloc (.cells #[.int .u64 0, .int .u64 0, .int .u64 0, .int .u64 0] 24)).heap.size := by simp
 have H0 := hide (And.intro h1 (And.intro h3 hb))
 clear hb h1 h3
 go_enter Tryz.func94, Tryz.ntmps94
 go_wp2_with fail
 generalize ((w.alloc (.cells (setC S).toArray 24)).alloc (.cells #[.int .u64 0, .int .u64 0, .int .u64 0, .int .u64 0] 24)) = W at *
 go_loopw [4] (fun kv wr => ∃ k : Nat, kv = .int .i64 (k : Int) ∧ k ≤ 4 ∧ Blk wr w.heap.size 24 (setC (mix5 k R S)).toArray ∧ Blk wr (w.heap.size + 1) 24 #[.int .u64 0, .int .u64 0, .int .u64 0, .int .u64 0] ∧ Below w.heap.size w wr) (fun kv _ => 4 - (intOf kv).toNat)
 case atStart => exact ⟨0, rfl, by omega, H0.out.1, H0.out.2.1, H0.out.2.2⟩
 case round =>
  clear H0
  obtain ⟨k, rfl, hk, h1, h3, hb⟩ := hrel
  have HH := hide (And.intro h1 (And.intro h3 hb))
  clear h1 h3 hb
  by_cases hlt : k < 4
  ·have g1 : decide ((k : Int) < 4) = true := decide_eq_true (by omega)
   have hk4 : (k : Int) < 4 := by omega
   have hop : bits .xor .u64 (if IntKind.u64.signed = true then -1 else IntKind.u64.max) ((wd (mix5 k R S) k : Nat) : Int) = ((wd R k : Nat) : Int) := by
    rw [xor_ones (wd_lt _ _), wd_mix, if_neg (by omega), HR.out, ← wd_not]
   have c1 := HH.out.1.word k hlt
   have f1 := HH.out.1.frozen k
   generalize hu : wd (mix5 k R S) k = u at *
   clear hu
   obtain ⟨r, hr⟩ : ∃ r, r = wd R k := ⟨_, rfl⟩
   rw [← hr] at hop
   have HRK := hide hr
   clear hr
   go_wp2_with fail
   go_roundw
   case rel =>
    refine ⟨k + 1, by go_num, by omega, HH.out.1.setWord hlt (by rw [wd_mix, if_pos (by omega), HRK.out]) (fun j hj hne => by rw [wd_mix, wd_mix]; split <;> split <;> first | rfl | omega), HH.out.2.1.far (by show w.heap.size + 1 ≠ w.heap.size; omega) _, HH.out.2.2.setCell (Nat.le_refl _) _⟩
   case measure => simp [intOf]; omega
  ·have g1 : decide ((k : Int) < 4) = false := decide_eq_false (by omega)
   obtain rfl : k = 4 := by omega
   have H4 := hide (And.intro (show Blk wr w.heap.size 24 (setC R).toArray from (setC_congr (S := mix5 4 R S) (T := R) fun x hx => by unfold mix5; rw [if_pos (by omega)]) ▸ HH.out.1) HH.out.2)
   clear HH
   have cb : ∀ i : Nat, _ = _ := H4.out.1.cell
   simp only [setC] at cb
   go_wp2_with (refine wpList_store_row rfl _ _ _ rfl (w.heap.size + 1) 0 _ _ _ rfl rfl H4.out.2.1 Tryz.sizeSetO (by simp) (by simp [Value.oneCell']) ?_)
   intro w9 hrow2 hg9 hz9
   have hrow := hrow2.out
   rw [splice_full (by rfl)] at hrow
   have hb9 := below_grew H4.out.2.2 hg9 (Nat.le_refl _) (fun q hq => by rw [← Option.some.inj hq]; omega)
   have HF := hide (And.intro hrow hb9)
   clear hrow hrow2 hg9 hz9 cb
   go_wp2_with fail
   refine bodyPost_ret (results_cell_row rfl _ _ (w.heap.size + 1) _ _ (0, 0) _ rfl HF.out.1 Tryz.underlying24 rfl Tryz.sizeSetO) rfl ?_
   exact ⟨rfl, HF.out.2⟩

set_option maxRecDepth 100000 in
set_option maxHeartbeats 4000000 in
theorem join_any (Ss : List (Nat → Bool)) (A : Option Addr) (c : Nat) (w : World) (hl : Ss.length ≤ 1000000) (hin : SeIn (· < w.heap.size) w (Ss.map seOf) A) : Calls Tryz.prog 147 #[.slice A Ss.length c] w (SetIs (fun x => Ss.any fun T => T x) w) := by
 obtain ⟨R, hR⟩ : ∃ R : Nat → Bool, R = (fun x => Ss.any fun T => T x) := ⟨_, rfl⟩
 rw [← hR]
 have HR := hide hR
 have HIN := hide hin
 clear hR hin
 have hb := ((Below.refl w.heap.size w).alloc (Nat.le_refl _) (.cells #[.int .u64 0, .int .u64 0, .int .u64 0, .int .u64 0] 24)).alloc (by simp) (.cells #[.int .u64 0, .int .u64 0, .int .u64 0, .int .u64 0] 24)
 have h1 := (Blk.new w 24 #[.int .u64 0, .int .u64 0, .int .u64 0, .int .u64 0]).alloc (.cells #[.int .u64 0, .int .u64 0, .int .u64 0, .int .u64 0] 24)
 have h3 := Blk.new (w.alloc (.cells #[.int .u64 0, .int .u64 0, .int .u64 0, .int .u64 0] 24)) 24 #[.int .u64 0, .int .u64 0, .int .u64 0, .int .u64 0]
 rw [World.size_alloc] at h3
 have e0 : (setC (fun x => (Ss.take 0).any fun T => T x)).toArray = #[.int .u64 0, .int .u64 0, .int .u64 0, .int .u64 0] := zeroS_eq.symm
 have hsz : w.heap.size + 1 < ((w.alloc (.cells #[.int .u64 0, .int .u64 0, .int .u64 0, .int .u64 0] 24)).alloc (.cells #[.int .u64 0, .int .u64 0, .int .u64 0, .int .u64 0] 24)).heap.size := by simp
 have H0 := hide (And.intro h1 (And.intro (show Blk _ _ 24 (setC (fun x => (Ss.take 0).any fun T => T x)).toArray from (by rw [e0]; exact h3)) hb))
 clear hb h1 h3 e0
 go_enter Tryz.func147, Tryz.ntmps147
 go_wp2_with fail
 generalize ((w.alloc (.cells #[.int .u64 0, .int .u64 0, .int .u64 0, .int .u64 0] 24)).alloc (.cells #[.int .u64 0, .int .u64 0, .int .u64 0, .int .u64 0] 24)) = W at *
 go_loopw [9] (fun kv wr => ∃ k : Nat, kv = .int .i64 (k : Int) ∧ k ≤ Ss.length ∧ Blk wr w.heap.size 24 #[.int .u64 0, .int .u64 0, .int .u64 0, .int .u64 0] ∧ Blk wr (w.heap.size + 1) 24 (setC (fun x => (Ss.take k).any fun T => T x)).toArray ∧ Below w.heap.size w wr) (fun kv _ => Ss.length - (intOf kv).toNat)
 case atStart => exact ⟨0, rfl, by omega, H0.out.1, H0.out.2.1, H0.out.2.2⟩
 case round =>
  clear H0
  obtain ⟨k, rfl, hk, h1, h3, hb⟩ := hrel
  have HH := hide (And.intro h1 (And.intro h3 hb))
  have hz1 := h1.lt
  have hz3 := h3.lt
  clear h1 h3 hb
  by_cases hlt : k < Ss.length
  case neg =>
   have g1 : decide ((k : Int) < (Ss.length : Int)) = false := decide_eq_false (by omega)
   obtain rfl : k = Ss.length := by omega
   have H4 := hide (And.intro (show Blk wr (w.heap.size + 1) 24 (setC R).toArray from (by have h := HH.out.2.1; rw [List.take_length] at h; rw [HR.out]; exact h)) (And.intro HH.out.1 HH.out.2.2))
   clear HH
   have cb : ∀ i : Nat, _ = _ := H4.out.1.cell
   simp only [setC] at cb
   go_wp2_with (refine wpList_store_row rfl _ _ _ rfl w.heap.size 0 _ _ _ rfl rfl H4.out.2.1 Tryz.sizeSetO (by simp) (by simp [Value.oneCell']) ?_)
   intro w9 hrow2 hg9 hz9
   have hrow := hrow2.out
   rw [splice_full (by rfl)] at hrow
   have hb9 := below_grew H4.out.2.2 hg9 (Nat.le_refl _) (fun q hq => by rw [← Option.some.inj hq]; omega)
   have HF := hide (And.intro hrow hb9)
   clear hrow hrow2 hg9 hz9 cb
   go_wp2_with fail
   refine bodyPost_ret (results_cell_row rfl _ _ w.heap.size _ _ (0, 0) _ rfl HF.out.1 Tryz.underlying24 rfl Tryz.sizeSetO) rfl ?_
   exact ⟨rfl, HF.out.2⟩
  have g1 : decide ((k : Int) < (Ss.length : Int)) = true := decide_eq_true (by omega)
  have hs := List.getElem?_eq_getElem hlt
  have htk : Ss.take (k + 1) = Ss.take k ++ [Ss[k]] := by rw [List.take_add_one, hs]; rfl
  generalize Ss[k] = T at *
  obtain ⟨bs, os, hAe, hbs, z0, z1, z2, z3⟩ := HIN.out.cellO (show (Ss.map seOf)[k]? = some (seOf T) by rw [List.getElem?_map, hs]; rfl)
  have HTK := hide (And.intro htk hAe)
  rw [hAe]
  clear hs htk hAe
  simp only [seOf] at z0 z1 z2 z3
  have q0 := (HH.out.2.2.cell (p := ⟨bs, os + k * 4, none⟩) hbs).trans z0
  have q1 := (HH.out.2.2.cell (p := ⟨bs, os + k * 4 + 1, none⟩) hbs).trans z1
  have q2 := (HH.out.2.2.cell (p := ⟨bs, os + k * 4 + 2, none⟩) hbs).trans z2
  have q3 := (HH.out.2.2.cell (p := ⟨bs, os + k * 4 + 3, none⟩) hbs).trans z3
  clear z0 z1 z2 z3
  obtain ⟨S0, hS0⟩ : ∃ S0 : Nat → Bool, S0 = (fun x => (Ss.take k).any fun T => T x) := ⟨_, rfl⟩
  rw [← hS0] at HH
  obtain ⟨R1, hR1⟩ : ∃ R1 : Nat → Bool, R1 = (fun x => S0 x || T x) := ⟨_, rfl⟩
  have HS0 := hide (And.intro hS0 hR1)
  clear hS0 hR1
  have hal := (Below.refl wr.heap.size wr).alloc (Nat.le_refl _) (.cells #[.int .u64 0, .int .u64 0, .int .u64 0, .int .u64 0] 24)
  have hzb := Blk.new wr 24 #[.int .u64 0, .int .u64 0, .int .u64 0, .int .u64 0]
  go_wp2_with (refine wpList_store_row rfl _ _ _ rfl wr.heap.size 0 _ _ _ rfl rfl hzb Tryz.sizeSetO (by simp) (by simp [Value.oneCell']) ?_)
  intro w2 hrow2 hg9 hz9
  have hrow := hrow2.out
  rw [splice_full (by rfl)] at hrow
  have hbE : Below wr.heap.size wr w2 := below_grew hal hg9 (Nat.le_refl _) (fun q hq => by rw [← Option.some.inj hq]; exact Nat.le_refl _)
  have hm0 : mix5 0 R1 S0 = S0 := by funext x; unfold mix5; rw [if_neg (by omega)]
  have H2 := hide (And.intro (HH.out.1.nxt hbE) (And.intro (show Blk w2 (w.heap.size + 1) 24 (setC (mix5 0 R1 S0)).toArray from (by rw [hm0]; exact HH.out.2.1.nxt hbE)) (And.intro (HH.out.2.2.trans (hbE.mono HH.out.2.2.size)) (show Blk w2 wr.heap.size 24 (setC T).toArray from hrow))))
  have hlt2 : wr.heap.size < w2.heap.size := hrow.lt
  clear hrow hrow2 hg9 hz9 hbE hal hzb hm0 HH q0 q1 q2 q3
  generalize hgt : wr.heap.size = gt at *
  clear hgt wr
  go_wp2_with fail
  go_loopw [13] (fun kv wr => ∃ i : Nat, kv = .int .i64 (i : Int) ∧ i ≤ 4 ∧ Blk wr w.heap.size 24 #[.int .u64 0, .int .u64 0, .int .u64 0, .int .u64 0] ∧ Blk wr (w.heap.size + 1) 24 (setC (mix5 i R1 S0)).toArray ∧ Below w.heap.size w wr ∧ Blk wr gt 24 (setC T).toArray) (fun kv _ => 4 - (intOf kv).toNat)
  case atStart => exact ⟨0, rfl, by omega, H2.out.1, H2.out.2.1, H2.out.2.2.1, H2.out.2.2.2⟩
  case round =>
   clear H2
   obtain ⟨i, rfl, hi, h1, h3, hb, h4⟩ := hrel
   have HH := hide (And.intro h1 (And.intro h3 (And.intro hb h4)))
   have hy1 := h1.lt
   have hy3 := h3.lt
   have hy4 := h4.lt
   clear h1 h3 hb h4
   by_cases hlt4 : i < 4
   ·have g2 : decide ((i : Int) < 4) = true := decide_eq_true (by omega)
    have hk4 : (i : Int) < 4 := by omega
    have hop : bits .or .u64 ((wd (mix5 i R1 S0) i : Nat) : Int) ((wd T i : Nat) : Int) = ((wd R1 i : Nat) : Int) := by
     rw [word_or (wd_lt _ _) (wd_lt _ _), wd_mix, if_neg (by omega), wd_or, ← HS0.out.2]
    have c1 := HH.out.2.1.word i hlt4
    have c2 := HH.out.2.2.2.word i hlt4
    have f1 := HH.out.2.1.frozen i
    generalize hu : wd (mix5 i R1 S0) i = u at *
    clear hu
    generalize hv : wd T i = v at *
    clear hv
    obtain ⟨r, hr⟩ : ∃ r, r = wd R1 i := ⟨_, rfl⟩
    rw [← hr] at hop
    have HRK := hide hr
    clear hr
    go_upto_region 8 with fail
    refine wp_region_mix (fun z => Below wr.heap.size wr z) [8] (by kernel_rfl) (fun hcl => ?_)
    have hS : Below wr.heap.size wr wr.drew := (Below.refl _ _).drew
    refine wpAnyT_free (i := 0) hcl rfl (by kernel_rfl) (v := ?_) (fun _ _ _ h => h) hS (Or.inl ⟨rfl, fun w' _ => ?_⟩) (fun hcl => ?_)
    rotate_left
    ·go_simp
     with_reducible rfl
    simp only [List.getElem_toArray, List.getElem_cons_zero, List.getElem_cons_succ, Act.put, List.setIfInBounds_toArray, List.set_cons_zero, List.set_cons_succ]
    refine wpAnyT_free (i := 1) hcl rfl (by kernel_rfl) (v := ?_) (fun _ _ _ h => h) hS (Or.inl ⟨rfl, fun w' _ => ?_⟩) (fun hcl => ?_)
    rotate_left
    ·go_simp
     with_reducible rfl
    simp only [List.getElem_toArray, List.getElem_cons_zero, List.getElem_cons_succ, Act.put, List.setIfInBounds_toArray, List.set_cons_zero, List.set_cons_succ]
    refine wpAnyT_take (i := 2) hcl rfl (by kernel_rfl) (v := ?_) (fun _ _ _ h => h) hS (Or.inl ⟨rfl, fun w' hS => ?_⟩) (fun hcl => ?_)
    rotate_left
    ·skip
     have c1' := (hS.cell (p := ⟨(w.heap.size + 1), i, none⟩) hy3).trans c1
     go_simp
     with_reducible rfl
    simp only [List.getElem_toArray, List.getElem_cons_zero, List.getElem_cons_succ, Act.put, List.setIfInBounds_toArray, List.set_cons_zero, List.set_cons_succ]
    refine wpAnyT_free (i := 3) hcl rfl (by kernel_rfl) (v := ?_) (fun _ _ _ h => h) hS (Or.inl ⟨rfl, fun w' _ => ?_⟩) (fun hcl => ?_)
    rotate_left
    ·go_simp
     with_reducible rfl
    simp only [List.getElem_toArray, List.getElem_cons_zero, List.getElem_cons_succ, Act.put, List.setIfInBounds_toArray, List.set_cons_zero, List.set_cons_succ]
    refine wpAnyT_free (i := 4) hcl rfl (by kernel_rfl) (v := ?_) (fun _ _ _ h => h) hS (Or.inl ⟨rfl, fun w' _ => ?_⟩) (fun hcl => ?_)
    rotate_left
    ·go_simp
     with_reducible rfl
    simp only [List.getElem_toArray, List.getElem_cons_zero, List.getElem_cons_succ, Act.put, List.setIfInBounds_toArray, List.set_cons_zero, List.set_cons_succ]
    refine wpAnyT_take (i := 5) hcl rfl (by kernel_rfl) (v := ?_) (fun _ _ _ h => h) hS (Or.inl ⟨rfl, fun w' hS => ?_⟩) (fun hcl => ?_)
    rotate_left
    ·skip
     have c2' := (hS.cell (p := ⟨gt, i, none⟩) hy4).trans c2
     go_simp
     with_reducible rfl
    simp only [List.getElem_toArray, List.getElem_cons_zero, List.getElem_cons_succ, Act.put, List.setIfInBounds_toArray, List.set_cons_zero, List.set_cons_succ]
    refine wpAnyT_free (i := 6) hcl rfl (by kernel_rfl) (v := ?_) (fun _ _ _ h => h) hS (Or.inl ⟨rfl, fun w' _ => ?_⟩) (fun hcl => ?_)
    rotate_left
    ·go_simp
     with_reducible rfl
    simp only [List.getElem_toArray, List.getElem_cons_zero, List.getElem_cons_succ, Act.put, List.setIfInBounds_toArray, List.set_cons_zero, List.set_cons_succ]
    refine wpAnyT_free (i := 7) hcl rfl (by kernel_rfl) (v := ?_) (fun _ _ _ h => h) hS (Or.inl ⟨rfl, fun w' _ => ?_⟩) (fun hcl => ?_)
    rotate_left
    ·go_simp
     with_reducible rfl
    simp only [List.getElem_toArray, List.getElem_cons_zero, List.getElem_cons_succ, Act.put, List.setIfInBounds_toArray, List.set_cons_zero, List.set_cons_succ]
    have HB := hide hS
    have f1' : wr.drew.frozen? ⟨(w.heap.size + 1), i, none⟩ = false := f1
    have c1' := (hS.cell (p := ⟨(w.heap.size + 1), i, none⟩) hy3).trans c1
    clear hS
    refine wpAnyT_last (i := 8) hcl rfl (by kernel_rfl) (by kernel_rfl) (fun hcl => ?_)
    simp only [List.getElem_toArray, List.getElem_cons_zero, List.getElem_cons_succ, Act.put, List.setIfInBounds_toArray, List.set_cons_zero, List.set_cons_succ]
    go_wp2_with fail
    refine wpAnyT_done (by kernel_rfl) ?_ _
    go_wp2_with fail
    go_roundw
    case rel =>
     have hb := HB.out
     refine ⟨i + 1, by go_num, by omega, (HH.out.1.nxt hb).far (by show w.heap.size ≠ (w.heap.size + 1); omega) _, (HH.out.2.1.nxt hb).setWord hlt4 (by rw [wd_mix, if_pos (by omega), HRK.out]) (fun j hj hne => by rw [wd_mix, wd_mix]; split <;> split <;> first | rfl | omega), (HH.out.2.2.1.trans (hb.mono HH.out.2.2.1.size)).setCell (by show w.heap.size ≤ (w.heap.size + 1); omega) _, (HH.out.2.2.2.nxt hb).far (by show gt ≠ (w.heap.size + 1); omega) _⟩
    case measure => simp [intOf]; omega
   ·have g2 : decide ((i : Int) < 4) = false := decide_eq_false (by omega)
    obtain rfl : i = 4 := by omega
    have hS1 : setC (mix5 4 R1 S0) = setC (fun x => (Ss.take (k + 1)).any fun T => T x) := setC_congr fun x hx => by
     unfold mix5
     rw [if_pos (by omega), HS0.out.2, HS0.out.1, HTK.out.1]
     simp
    have H4 := hide (And.intro HH.out.1 (And.intro (show Blk wr (w.heap.size + 1) 24 (setC (fun x => (Ss.take (k + 1)).any fun T => T x)).toArray from hS1 ▸ HH.out.2.1) HH.out.2.2.1))
    clear HH hS1
    go_wp2_with fail
    go_roundw
    case rel => exact ⟨k + 1, by go_num, hlt, H4.out.1, H4.out.2.1, H4.out.2.2⟩
    case measure => simp [intOf]; omega

/-- A list of bytes in memory. -/
def BytesIn (w : World) (bs : List Nat) (A : Option Addr) : Prop := ∀ (i x : Nat), bs[i]? = some x → x < 256 ∧ ∃ b o, A = some ⟨b, o, none⟩ ∧ b < w.heap.size ∧ w.cell? ⟨b, o + i, none⟩ = some (.int .u8 (x : Int))
theorem shl_one (b : Nat) : IntKind.u64.wrap (2 ^ (b % 64)) = ((2 ^ (b % 64) : Nat) : Int) := by
 have h2 := two_pow_lt (Nat.mod_lt b (show 0 < 64 by decide))
 have : IntKind.u64.wrap (2 ^ (b % 64)) = (2 ^ (b % 64) : Int) % 18446744073709551616 := by simp [IntKind.wrap, IntKind.bits, IntKind.signed]
 rw [this]
 have e : ((2 : Int) ^ (b % 64)) = ((2 ^ (b % 64) : Nat) : Int) := by simp
 rw [e]
 generalize 2 ^ (b % 64) = p at *
 omega
theorem and63i : ∀ b : Fin 256, bits .and .i64 ((b.val : Nat) : Int) 63 = ((b.val % 64 : Nat) : Int) := by decide +kernel
set_option maxRecDepth 100000 in
set_option maxHeartbeats 4000000 in
theorem of_any (bs : List Nat) (A : Option Addr) (c : Nat) (w : World) (hl : bs.length ≤ 1000000) (hin : BytesIn w bs A) : Calls Tryz.prog 95 #[.slice A bs.length c] w (SetIs (fun x => bs.any fun b => decide (x = b)) w) := by
 obtain ⟨R, hR⟩ : ∃ R : Nat → Bool, R = (fun x => bs.any fun b => decide (x = b)) := ⟨_, rfl⟩
 rw [← hR]
 have HR := hide hR
 have HIN := hide hin
 clear hR hin
 have hb := ((Below.refl w.heap.size w).alloc (Nat.le_refl _) (.cells #[.int .u64 0, .int .u64 0, .int .u64 0, .int .u64 0] 24)).alloc (by simp) (.cells #[.int .u64 0, .int .u64 0, .int .u64 0, .int .u64 0] 24)
 have h1 := (Blk.new w 24 #[.int .u64 0, .int .u64 0, .int .u64 0, .int .u64 0]).alloc (.cells #[.int .u64 0, .int .u64 0, .int .u64 0, .int .u64 0] 24)
 have h3 := Blk.new (w.alloc (.cells #[.int .u64 0, .int .u64 0, .int .u64 0, .int .u64 0] 24)) 24 #[.int .u64 0, .int .u64 0, .int .u64 0, .int .u64 0]
 rw [World.size_alloc] at h3
 have e0 : (setC (fun x => (bs.take 0).any fun b => decide (x = b))).toArray = #[.int .u64 0, .int .u64 0, .int .u64 0, .int .u64 0] := zeroS_eq.symm
 have hsz : w.heap.size + 1 < ((w.alloc (.cells #[.int .u64 0, .int .u64 0, .int .u64 0, .int .u64 0] 24)).alloc (.cells #[.int .u64 0, .int .u64 0, .int .u64 0, .int .u64 0] 24)).heap.size := by simp
 have H0 := hide (And.intro h1 (And.intro (show Blk _ _ 24 (setC (fun x => (bs.take 0).any fun b => decide (x = b))).toArray from (by rw [e0]; exact h3)) hb))
 clear hb h1 h3 e0
 go_enter Tryz.func95, Tryz.ntmps95
 go_wp2_with fail
 generalize ((w.alloc (.cells #[.int .u64 0, .int .u64 0, .int .u64 0, .int .u64 0] 24)).alloc (.cells #[.int .u64 0, .int .u64 0, .int .u64 0, .int .u64 0] 24)) = W at *
 go_loopw [8] (fun kv wr => ∃ k : Nat, kv = .int .i64 (k : Int) ∧ k ≤ bs.length ∧ Blk wr w.heap.size 24 #[.int .u64 0, .int .u64 0, .int .u64 0, .int .u64 0] ∧ Blk wr (w.heap.size + 1) 24 (setC (fun x => (bs.take k).any fun b => decide (x = b))).toArray ∧ Below w.heap.size w wr) (fun kv _ => bs.length - (intOf kv).toNat)
 case atStart => exact ⟨0, rfl, by omega, H0.out.1, H0.out.2.1, H0.out.2.2⟩
 case round =>
  clear H0
  obtain ⟨k, rfl, hk, h1, h3, hb⟩ := hrel
  have HH := hide (And.intro h1 (And.intro h3 hb))
  have hz1 := h1.lt
  have hz3 := h3.lt
  clear h1 h3 hb
  by_cases hlt : k < bs.length
  case neg =>
   have g1 : decide ((k : Int) < (bs.length : Int)) = false := decide_eq_false (by omega)
   obtain rfl : k = bs.length := by omega
   have H4 := hide (And.intro (show Blk wr (w.heap.size + 1) 24 (setC R).toArray from (by have h := HH.out.2.1; rw [List.take_length] at h; rw [HR.out]; exact h)) (And.intro HH.out.1 HH.out.2.2))
   clear HH
   have cb : ∀ i : Nat, _ = _ := H4.out.1.cell
   simp only [setC] at cb
   go_wp2_with (refine wpList_store_row rfl _ _ _ rfl w.heap.size 0 _ _ _ rfl rfl H4.out.2.1 Tryz.sizeSetO (by simp) (by simp [Value.oneCell']) ?_)
   intro w9 hrow2 hg9 hz9
   have hrow := hrow2.out
   rw [splice_full (by rfl)] at hrow
   have hb9 := below_grew H4.out.2.2 hg9 (Nat.le_refl _) (fun q hq => by rw [← Option.some.inj hq]; omega)
   have HF := hide (And.intro hrow hb9)
   clear hrow hrow2 hg9 hz9 cb
   go_wp2_with fail
   refine bodyPost_ret (results_cell_row rfl _ _ w.heap.size _ _ (0, 0) _ rfl HF.out.1 Tryz.underlying24 rfl Tryz.sizeSetO) rfl ?_
   exact ⟨rfl, HF.out.2⟩
  have g1 : decide ((k : Int) < (bs.length : Int)) = true := decide_eq_true (by omega)
  have hs := List.getElem?_eq_getElem hlt
  have htk : bs.take (k + 1) = bs.take k ++ [bs[k]] := by rw [List.take_add_one, hs]; rfl
  generalize bs[k] = b at *
  obtain ⟨hb256, gb, ob, hAe, hgb, hcb⟩ := HIN.out k b hs
  have HTK := hide (And.intro htk hAe)
  rw [hAe]
  clear hs htk hAe
  have cb := (HH.out.2.2.cell (p := ⟨gb, ob + k, none⟩) hgb).trans hcb
  clear hcb
  obtain ⟨S0, hS0⟩ : ∃ S0 : Nat → Bool, S0 = (fun x => (bs.take k).any fun b => decide (x = b)) := ⟨_, rfl⟩
  rw [← hS0] at HH
  have HS0 := hide hS0
  clear hS0
  have hq : b / 64 < 4 := by omega
  have hand := and63n b hb256
  have hsh := shl_one b
  have hop := word_or (wd_lt S0 (b / 64)) (two_pow_lt (Nat.mod_lt b (by decide)))
  rw [wd_put] at hop
  have c1 := HH.out.2.1.word (b / 64) hq
  have f1 := HH.out.2.1.frozen (b / 64)
  generalize hu : wd S0 (b / 64) = u at *
  have HU := hide hu
  clear hu
  generalize hp : 2 ^ (b % 64) = pw at *
  clear hp
  obtain ⟨r, hr⟩ : ∃ r, r = wd (put5 S0 b) (b / 64) := ⟨_, rfl⟩
  rw [← hr] at hop
  have HRK := hide hr
  clear hr
  go_wp2_with fail
  go_roundw
  case rel =>
   have hS1 : put5 S0 b = fun x => (bs.take (k + 1)).any fun b => decide (x = b) := by
    funext x
    rw [HTK.out.1, List.any_append, HS0.out]
    simp [put5]
   refine ⟨k + 1, by go_num, hlt, HH.out.1.far (by show w.heap.size ≠ w.heap.size + 1; omega) _, ?_, HH.out.2.2.setCell (by show w.heap.size ≤ w.heap.size + 1; omega) _⟩
   rw [← hS1]
   exact HH.out.2.1.setWord hq HRK.out (fun j hj hne => (wd_put_other S0 b j hne).symm)
  case measure => simp [intOf]; omega

set_option maxRecDepth 100000 in
set_option maxHeartbeats 4000000 in
theorem range_any (lo hi : Nat) (w : World) (h1 : lo < 256) (h2 : hi < 256) : Calls Tryz.prog 158 #[.int .u8 (lo : Int), .int .u8 (hi : Int)] w (SetIs (fun x => decide (lo ≤ x ∧ x ≤ hi)) w) := by
 obtain ⟨R, hR⟩ : ∃ R : Nat → Bool, R = (fun x => decide (lo ≤ x ∧ x ≤ hi)) := ⟨_, rfl⟩
 rw [← hR]
 have HR := hide hR
 clear hR
 have hb := ((Below.refl w.heap.size w).alloc (Nat.le_refl _) (.cells #[.int .u64 0, .int .u64 0, .int .u64 0, .int .u64 0] 24)).alloc (by simp) (.cells #[.int .u64 0, .int .u64 0, .int .u64 0, .int .u64 0] 24)
 have h1' := (Blk.new w 24 #[.int .u64 0, .int .u64 0, .int .u64 0, .int .u64 0]).alloc (.cells #[.int .u64 0, .int .u64 0, .int .u64 0, .int .u64 0] 24)
 have h3 := Blk.new (w.alloc (.cells #[.int .u64 0, .int .u64 0, .int .u64 0, .int .u64 0] 24)) 24 #[.int .u64 0, .int .u64 0, .int .u64 0, .int .u64 0]
 rw [World.size_alloc] at h3
 have e0 : (setC (fun x => decide (lo ≤ x ∧ x < lo))).toArray = #[.int .u64 0, .int .u64 0, .int .u64 0, .int .u64 0] := by
  rw [setC_congr (T := fun _ => false) (fun x _ => decide_eq_false (by omega))]
  exact zeroS_eq.symm
 have hsz : w.heap.size + 1 < ((w.alloc (.cells #[.int .u64 0, .int .u64 0, .int .u64 0, .int .u64 0] 24)).alloc (.cells #[.int .u64 0, .int .u64 0, .int .u64 0, .int .u64 0] 24)).heap.size := by simp
 have H0 := hide (And.intro h1' (And.intro (show Blk _ _ 24 (setC (fun x => decide (lo ≤ x ∧ x < lo))).toArray from (by rw [e0]; exact h3)) hb))
 clear hb h1' h3 e0
 go_enter Tryz.func158, Tryz.ntmps158
 go_wp2_with fail
 generalize ((w.alloc (.cells #[.int .u64 0, .int .u64 0, .int .u64 0, .int .u64 0] 24)).alloc (.cells #[.int .u64 0, .int .u64 0, .int .u64 0, .int .u64 0] 24)) = W at *
 go_loopw [6] (fun kv wr => ∃ k : Nat, kv = .int .i64 (k : Int) ∧ lo ≤ k ∧ k ≤ 256 ∧ (k ≤ hi + 1 ∨ k = lo) ∧ Blk wr w.heap.size 24 #[.int .u64 0, .int .u64 0, .int .u64 0, .int .u64 0] ∧ Blk wr (w.heap.size + 1) 24 (setC (fun x => decide (lo ≤ x ∧ x < k))).toArray ∧ Below w.heap.size w wr) (fun kv _ => 256 - (intOf kv).toNat)
 case atStart => exact ⟨lo, rfl, by omega, by omega, .inr rfl, H0.out.1, H0.out.2.1, H0.out.2.2⟩
 case round =>
  clear H0
  obtain ⟨k, rfl, hk0, hk6, hk, h1', h3, hb⟩ := hrel
  have HH := hide (And.intro h1' (And.intro h3 hb))
  have hz1 := h1'.lt
  have hz3 := h3.lt
  clear h1' h3 hb
  by_cases hlt : k ≤ hi
  case neg =>
   have g1 : decide ((k : Int) ≤ (hi : Int)) = false := decide_eq_false (by omega)
   have H4 := hide (And.intro (show Blk wr (w.heap.size + 1) 24 (setC R).toArray from (by
    rw [HR.out, setC_congr (S := fun x => decide (lo ≤ x ∧ x ≤ hi)) (T := fun x => decide (lo ≤ x ∧ x < k)) (fun x _ => decide_eq_decide.2 (by omega))]
    exact HH.out.2.1)) (And.intro HH.out.1 HH.out.2.2))
   clear HH
   have cb : ∀ i : Nat, _ = _ := H4.out.1.cell
   simp only [setC] at cb
   go_wp2_with (refine wpList_store_row rfl _ _ _ rfl w.heap.size 0 _ _ _ rfl rfl H4.out.2.1 Tryz.sizeSetO (by simp) (by simp [Value.oneCell']) ?_)
   intro w9 hrow2 hg9 hz9
   have hrow := hrow2.out
   rw [splice_full (by rfl)] at hrow
   have hb9 := below_grew H4.out.2.2 hg9 (Nat.le_refl _) (fun q hq => by rw [← Option.some.inj hq]; omega)
   have HF := hide (And.intro hrow hb9)
   clear hrow hrow2 hg9 hz9 cb
   go_wp2_with fail
   refine bodyPost_ret (results_cell_row rfl _ _ w.heap.size _ _ (0, 0) _ rfl HF.out.1 Tryz.underlying24 rfl Tryz.sizeSetO) rfl ?_
   exact ⟨rfl, HF.out.2⟩
  have g1 : decide ((k : Int) ≤ (hi : Int)) = true := decide_eq_true (by omega)
  have hb256 : k < 256 := by omega
  obtain ⟨S0, hS0⟩ : ∃ S0 : Nat → Bool, S0 = (fun x => decide (lo ≤ x ∧ x < k)) := ⟨_, rfl⟩
  rw [← hS0] at HH
  have HS0 := hide hS0
  clear hS0
  have hq : k / 64 < 4 := by omega
  have hq0 : 0 ≤ (k : Int) / 64 := by omega
  have hq4 : (k : Int) / 64 < 4 := by omega
  have hqn : ((k : Int) / 64).toNat = k / 64 := by omega
  have hand := and63i ⟨k, hb256⟩
  simp only at hand
  have hsh : IntKind.u64.wrap (2 ^ ((k : Int) % 64).toNat) = ((2 ^ (k % 64) : Nat) : Int) := by rw [show ((k : Int) % 64).toNat = k % 64 by omega]; exact shl_one k
  have hop := word_or (wd_lt S0 (k / 64)) (two_pow_lt (Nat.mod_lt k (by decide)))
  rw [wd_put] at hop
  have c1 := HH.out.2.1.word (k / 64) hq
  have f1 := HH.out.2.1.frozen (k / 64)
  generalize hu : wd S0 (k / 64) = u at *
  clear hu
  generalize hp : 2 ^ (k % 64) = pw at *
  clear hp
  obtain ⟨r, hr⟩ : ∃ r, r = wd (put5 S0 k) (k / 64) := ⟨_, rfl⟩
  rw [← hr] at hop
  have HRK := hide hr
  clear hr
  go_upto_region 5 with fail
  refine wp_region_mix (fun z => Below wr.heap.size wr z) [9] (by kernel_rfl) (fun hcl => ?_)
  have hS : Below wr.heap.size wr wr.drew := (Below.refl _ _).drew
  refine wpAnyT_free (i := 0) hcl rfl (by kernel_rfl) (v := ?_) (fun _ _ _ h => h) hS (Or.inl ⟨rfl, fun w' _ => ?_⟩) (fun hcl => ?_)
  rotate_left
  ·go_simp
   with_reducible rfl
  simp only [List.getElem_toArray, List.getElem_cons_zero, List.getElem_cons_succ, Act.put, List.setIfInBounds_toArray, List.set_cons_zero, List.set_cons_succ]
  refine wpAnyT_free (i := 1) hcl rfl (by kernel_rfl) (v := ?_) (fun _ _ _ h => h) hS (Or.inl ⟨rfl, fun w' _ => ?_⟩) (fun hcl => ?_)
  rotate_left
  ·go_simp
   with_reducible rfl
  simp only [List.getElem_toArray, List.getElem_cons_zero, List.getElem_cons_succ, Act.put, List.setIfInBounds_toArray, List.set_cons_zero, List.set_cons_succ]
  refine wpAnyT_free (i := 2) hcl rfl (by kernel_rfl) (v := ?_) (fun _ _ _ h => h) hS (Or.inl ⟨rfl, fun w' _ => ?_⟩) (fun hcl => ?_)
  rotate_left
  ·go_simp
   with_reducible rfl
  simp only [List.getElem_toArray, List.getElem_cons_zero, List.getElem_cons_succ, Act.put, List.setIfInBounds_toArray, List.set_cons_zero, List.set_cons_succ]
  refine wpAnyT_take (i := 3) hcl rfl (by kernel_rfl) (v := ?_) (fun _ _ _ h => h) hS (Or.inl ⟨rfl, fun w' hS => ?_⟩) (fun hcl => ?_)
  rotate_left
  ·skip
   have c1' := (hS.cell (p := ⟨w.heap.size + 1, k / 64, none⟩) hz3).trans c1
   go_simp
   with_reducible rfl
  simp only [List.getElem_toArray, List.getElem_cons_zero, List.getElem_cons_succ, Act.put, List.setIfInBounds_toArray, List.set_cons_zero, List.set_cons_succ]
  refine wpAnyT_free (i := 4) hcl rfl (by kernel_rfl) (v := ?_) (fun _ _ _ h => h) hS (Or.inl ⟨rfl, fun w' _ => ?_⟩) (fun hcl => ?_)
  rotate_left
  ·go_simp
   with_reducible rfl
  simp only [List.getElem_toArray, List.getElem_cons_zero, List.getElem_cons_succ, Act.put, List.setIfInBounds_toArray, List.set_cons_zero, List.set_cons_succ]
  refine wpAnyT_free (i := 5) hcl rfl (by kernel_rfl) (v := ?_) (fun _ _ _ h => h) hS (Or.inl ⟨rfl, fun w' _ => ?_⟩) (fun hcl => ?_)
  rotate_left
  ·go_simp
   with_reducible rfl
  simp only [List.getElem_toArray, List.getElem_cons_zero, List.getElem_cons_succ, Act.put, List.setIfInBounds_toArray, List.set_cons_zero, List.set_cons_succ]
  refine wpAnyT_free (i := 6) hcl rfl (by kernel_rfl) (v := ?_) (fun _ _ _ h => h) hS (Or.inl ⟨rfl, fun w' _ => ?_⟩) (fun hcl => ?_)
  rotate_left
  ·go_simp
   with_reducible rfl
  simp only [List.getElem_toArray, List.getElem_cons_zero, List.getElem_cons_succ, Act.put, List.setIfInBounds_toArray, List.set_cons_zero, List.set_cons_succ]
  refine wpAnyT_free (i := 7) hcl rfl (by kernel_rfl) (v := ?_) (fun _ _ _ h => h) hS (Or.inl ⟨rfl, fun w' _ => ?_⟩) (fun hcl => ?_)
  rotate_left
  ·go_simp
   with_reducible rfl
  simp only [List.getElem_toArray, List.getElem_cons_zero, List.getElem_cons_succ, Act.put, List.setIfInBounds_toArray, List.set_cons_zero, List.set_cons_succ]
  refine wpAnyT_free (i := 8) hcl rfl (by kernel_rfl) (v := ?_) (fun _ _ _ h => h) hS (Or.inl ⟨rfl, fun w' _ => ?_⟩) (fun hcl => ?_)
  rotate_left
  ·go_simp
   with_reducible rfl
  simp only [List.getElem_toArray, List.getElem_cons_zero, List.getElem_cons_succ, Act.put, List.setIfInBounds_toArray, List.set_cons_zero, List.set_cons_succ]
  have HB := hide hS
  have f1' : wr.drew.frozen? ⟨w.heap.size + 1, k / 64, none⟩ = false := f1
  have c1' := (hS.cell (p := ⟨w.heap.size + 1, k / 64, none⟩) hz3).trans c1
  clear hS
  refine wpAnyT_last (i := 9) hcl rfl (by kernel_rfl) (by kernel_rfl) (fun hcl => ?_)
  simp only [List.getElem_toArray, List.getElem_cons_zero, List.getElem_cons_succ, Act.put, List.setIfInBounds_toArray, List.set_cons_zero, List.set_cons_succ]
  go_wp2_with fail
  refine wpAnyT_done (by kernel_rfl) ?_ _
  go_wp2_with fail
  go_roundw
  case rel =>
   have hb := HB.out
   have hS1 : put5 S0 k = fun x => decide (lo ≤ x ∧ x < k + 1) := by
    funext x
    rw [HS0.out]
    unfold put5
    rw [← Bool.decide_or]
    exact decide_eq_decide.2 (by omega)
   refine ⟨k + 1, by go_num, by omega, by omega, .inl (by omega), (HH.out.1.nxt hb).far (by show w.heap.size ≠ w.heap.size + 1; omega) _, ?_, (HH.out.2.2.trans (hb.mono HH.out.2.2.size)).setCell (by show w.heap.size ≤ w.heap.size + 1; omega) _⟩
   rw [← hS1]
   exact (HH.out.2.1.nxt hb).setWord hq HRK.out (fun j hj hne => (wd_put_other S0 k j hne).symm)
  case measure => simp [intOf]; omega
end Go.Proofs.YtpkcklpjbeginaaGreatDoor
