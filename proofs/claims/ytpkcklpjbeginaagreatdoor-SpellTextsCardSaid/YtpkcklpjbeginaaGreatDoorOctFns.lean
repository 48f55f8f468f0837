/- octet: sets joined, met, turned, lessened; of bytes, of a range. (Printed by gen_octfns.py.) -/
import Derived.Test.YtpkcklpjbeginaaGreatDoorOct
import Derived.Test.YtpkcklpjbeginaaGreatDoorPick
import Derived.Test.YtpkcklpjbeginaaGreatDoorHas
import Derived.Deep.DeepCutAuto
set_option linter.unusedSimpArgs false
set_option linter.unusedVariables false
namespace Go.Proofs.YtpkcklpjbeginaaGreatDoor
open Go.RowKit

theorem Tryz.sizeSetO : (Tryz.prog.info? 24).map (·.size) = some 4 := by kernel_rfl
theorem zeroS_eq : (#[.int .u64 0, .int .u64 0, .int .u64 0, .int .u64 0] : Array Value) = (setC fun _ => false).toArray := by
 unfold setC
 rw [wd_none, wd_none, wd_none, wd_none]
 rfl
theorem Blk.word {w : World} {g : Nat} {S : Nat → Bool} (h : Blk w g 24 (setC S).toArray) (k : Nat) (hk : k < 4) : w.cell? ⟨g, k, none⟩ = some (.int .u64 ((wd S k : Nat) : Int)) := by
 rw [h.cell]
 simpa using setC_at S k hk
theorem Blk.setWord {w : World} {g k v : Nat} {S T : Nat → Bool} (h : Blk w g 24 (setC S).toArray) (hk : k < 4) (hv : v = wd T k) (ho : ∀ j, j < 4 → j ≠ k → wd S j = wd T j) : Blk (w.setCell ⟨g, k, none⟩ (.int .u64 ((v : Nat) : Int))) g 24 (setC T).toArray := by
 have := heap_setCell_same w g k _ _ (.int .u64 ((v : Nat) : Int)) h
 rw [setC_set hk hv ho] at this
 exact this
/-- The set was answered. -/
def SetIs (S : Nat → Bool) (w : World) (e : Ending) (w' : World) : Prop := e = .returned (setV S) ∧ Below w.heap.size w w'

theorem xor_ones {u : Nat} (hu : u < 18446744073709551616) : bits .xor .u64 (if IntKind.u64.signed = true then -1 else IntKind.u64.max) (u : Int) = ((18446744073709551615 - u : Nat) : Int) := by
 have h1 : (if IntKind.u64.signed = true then (-1 : Int) else IntKind.u64.max) = ((18446744073709551615 : Nat) : Int) := by decide
 rw [h1, u64_xor_nat _ _ (by decide) hu]
 congr 1
 apply Nat.eq_of_testBit_eq
 intro j
 have h2 := Nat.testBit_two_pow_sub_succ (n := 64) (x := u) (by simpa using hu) j
 rw [show (2 : Nat) ^ 64 - (u + 1) = 18446744073709551615 - u by omega] at h2
 rw [Nat.testBit_xor, h2, show (18446744073709551615 : Nat) = 2 ^ 64 - 1 from rfl, Nat.testBit_two_pow_sub_one]
 by_cases hj : j < 64
 ·simp [hj]
 ·have : u.testBit j = false := Nat.testBit_lt_two_pow (Nat.lt_of_lt_of_le hu (by rw [show (18446744073709551616 : Nat) = 2 ^ 64 from rfl]; exact Nat.pow_le_pow_right (by decide) (by omega)))
  simp [hj, this]

set_option maxRecDepth 100000 in
set_option maxHeartbeats 4000000 in
theorem less_any (S T : Nat → Bool) (w : World) : Calls Tryz.prog 124 #[setV S, setV T] w (SetIs (fun x => S x && !T x) w) := by
 obtain ⟨R, hR⟩ : ∃ R : Nat → Bool, R = (fun x => S x && !T x) := ⟨_, rfl⟩
 rw [← hR]
 have HR := hide hR
 clear hR
 unfold setV
 have hb := (((Below.refl w.heap.size w).alloc (Nat.le_refl _) (.cells (setC S).toArray 24)).alloc (by simp) (.cells (setC T).toArray 24)).alloc (by simp; omega) (.cells #[.int .u64 0, .int .u64 0, .int .u64 0, .int .u64 0] 24)
 have h1 := ((Blk.new w 24 (setC S).toArray).alloc (.cells (setC T).toArray 24)).alloc (.cells #[.int .u64 0, .int .u64 0, .int .u64 0, .int .u64 0] 24)
 have h2 := (Blk.new (w.alloc (.cells (setC S).toArray 24)) 24 (setC T).toArray).alloc (.cells #[.int .u64 0, .int .u64 0, .int .u64 0, .int .u64 0] 24)
 have h3 := Blk.new ((w.alloc (.cells (setC S).toArray 24)).alloc (.cells (setC T).toArray 24)) 24 #[.int .u64 0, .int .u64 0, .int .u64 0, .int .u64 0]
 rw [World.size_alloc, World.size_alloc] at h3
 rw [World.size_alloc] at h2
 have hsz : w.heap.size + 2 < (((w.alloc (.cells (setC S).toArray 24)).alloc (.cells (setC T).toArray 24)).alloc (.cells #[.int .u64 0, .int .u64 0, .int .u64 0, .int .u64 0] 24)).heap.size := by simp
 have H0 := hide (And.intro h1 (And.intro h2 (And.intro h3 hb)))
 clear hb h1 h2 h3
 go_enter Tryz.func124, Tryz.ntmps124
 go_wp2_with fail
 generalize (((w.alloc (.cells (setC S).toArray 24)).alloc (.cells (setC T).toArray 24)).alloc (.cells #[.int .u64 0, .int .u64 0, .int .u64 0, .int .u64 0] 24)) = W at *
 go_loopw [6] (fun kv wr => ∃ k : Nat, kv = .int .i64 (k : Int) ∧ k ≤ 4 ∧ Blk wr w.heap.size 24 (setC (mix5 k R S)).toArray ∧ Blk wr (w.heap.size + 1) 24 (setC T).toArray ∧ Blk wr (w.heap.size + 2) 24 #[.int .u64 0, .int .u64 0, .int .u64 0, .int .u64 0] ∧ Below w.heap.size w wr) (fun kv _ => 4 - (intOf kv).toNat)
 case atStart => exact ⟨0, rfl, by omega, H0.out.1, H0.out.2.1, H0.out.2.2.1, H0.out.2.2.2⟩
 case round =>
  clear H0
  obtain ⟨k, rfl, hk, h1, h2, h3, hb⟩ := hrel
  have HH := hide (And.intro h1 (And.intro h2 (And.intro h3 hb)))
  have hz1 := h1.lt
  have hz2 := h2.lt
  clear h1 h2 h3 hb
  by_cases hlt : k < 4
  ·have g1 : decide ((k : Int) < 4) = true := decide_eq_true (by omega)
   have hk4 : (k : Int) < 4 := by omega
   have hop : bits .andNot .u64 ((wd (mix5 k R S) k : Nat) : Int) ((wd T k : Nat) : Int) = ((wd R k : Nat) : Int) := by
    rw [word_less (wd_lt _ _) (wd_lt _ _), wd_mix, if_neg (by omega), wd_less, ← HR.out]
   have c1 := HH.out.1.word k hlt
   have c2 := HH.out.2.1.word k hlt
   have f1 := HH.out.1.frozen k
   have HM := hide (show wd (mix5 k R S) k = wd S k by rw [wd_mix, if_neg (by omega)])
   generalize hu : wd (mix5 k R S) k = u at *
   clear hu
   generalize hv : wd T k = v at *
   clear hv
   obtain ⟨r, hr⟩ : ∃ r, r = wd R k := ⟨_, rfl⟩
   rw [← hr] at hop
   have HRK := hide hr
   clear hr
   go_upto_region 4 with fail
   refine wp_region_mix (fun z => Below wr.heap.size wr z) [8] (by kernel_rfl) (fun hcl => ?_)
   have hS : Below wr.heap.size wr wr.drew := (Below.refl _ _).drew
   refine wpAnyT_free (i := 0) hcl rfl (by kernel_rfl) (v := ?_) (fun _ _ _ h => h) hS (Or.inl ⟨rfl, fun w' _ => ?_⟩) (fun hcl => ?_)
   rotate_left
   ·go_simp
    with_reducible rfl
   simp only [List.getElem_toArray, List.getElem_cons_zero, List.getElem_cons_succ, Act.put, List.setIfInBounds_toArray, List.set_cons_zero, List.set_cons_succ]
   refine wpAnyT_free (i := 1) hcl rfl (by kernel_rfl) (v := ?_) (fun _ _ _ h => h) hS (Or.inl ⟨rfl, fun w' _ => ?_⟩) (fun hcl => ?_)
   rotate_left
   ·go_simp
    with_reducible rfl
   simp only [List.getElem_toArray, List.getElem_cons_zero, List.getElem_cons_succ, Act.put, List.setIfInBounds_toArray, List.set_cons_zero, List.set_cons_succ]
   refine wpAnyT_take (i := 2) hcl rfl (by kernel_rfl) (v := ?_) (fun _ _ _ h => h) hS (Or.inl ⟨rfl, fun w' hS => ?_⟩) (fun hcl => ?_)
   rotate_left
   ·skip
    have c1' := (hS.cell (p := ⟨w.heap.size, k, none⟩) hz1).trans c1
    go_simp
    with_reducible rfl
   simp only [List.getElem_toArray, List.getElem_cons_zero, List.getElem_cons_succ, Act.put, List.setIfInBounds_toArray, List.set_cons_zero, List.set_cons_succ]
   refine wpAnyT_free (i := 3) hcl rfl (by kernel_rfl) (v := ?_) (fun _ _ _ h => h) hS (Or.inl ⟨rfl, fun w' _ => ?_⟩) (fun hcl => ?_)
   rotate_left
   ·go_simp
    with_reducible rfl
   simp only [List.getElem_toArray, List.getElem_cons_zero, List.getElem_cons_succ, Act.put, List.setIfInBounds_toArray, List.set_cons_zero, List.set_cons_succ]
   refine wpAnyT_free (i := 4) hcl rfl (by kernel_rfl) (v := ?_) (fun _ _ _ h => h) hS (Or.inl ⟨rfl, fun w' _ => ?_⟩) (fun hcl => ?_)
   rotate_left
   ·go_simp
    with_reducible rfl
   simp only [List.getElem_toArray, List.getElem_cons_zero, List.getElem_cons_succ, Act.put, List.setIfInBounds_toArray, List.set_cons_zero, List.set_cons_succ]
   refine wpAnyT_take (i := 5) hcl rfl (by kernel_rfl) (v := ?_) (fun _ _ _ h => h) hS (Or.inl ⟨rfl, fun w' hS => ?_⟩) (fun hcl => ?_)
   rotate_left
   ·skip
    have c2' := (hS.cell (p := ⟨w.heap.size + 1, k, none⟩) hz2).trans c2
    go_simp
    with_reducible rfl
   simp only [List.getElem_toArray, List.getElem_cons_zero, List.getElem_cons_succ, Act.put, List.setIfInBounds_toArray, List.set_cons_zero, List.set_cons_succ]
   refine wpAnyT_free (i := 6) hcl rfl (by kernel_rfl) (v := ?_) (fun _ _ _ h => h) hS (Or.inl ⟨rfl, fun w' _ => ?_⟩) (fun hcl => ?_)
   rotate_left
   ·go_simp
    with_reducible rfl
   simp only [List.getElem_toArray, List.getElem_cons_zero, List.getElem_cons_succ, Act.put, List.setIfInBounds_toArray, List.set_cons_zero, List.set_cons_succ]
   refine wpAnyT_free (i := 7) hcl rfl (by kernel_rfl) (v := ?_) (fun _ _ _ h => h) hS (Or.inl ⟨rfl, fun w' _ => ?_⟩) (fun hcl => ?_)
   rotate_left
   ·go_simp
    with_reducible rfl
   simp only [List.getElem_toArray, List.getElem_cons_zero, List.getElem_cons_succ, Act.put, List.setIfInBounds_toArray, List.set_cons_zero, List.set_cons_succ]
   have HB := hide hS
   have f1' : wr.drew.frozen? ⟨w.heap.size, k, none⟩ = false := f1
   have c1' := (hS.cell (p := ⟨w.heap.size, k, none⟩) hz1).trans c1
   clear hS
   refine wpAnyT_last (i := 8) hcl rfl (by kernel_rfl) (by kernel_rfl) (fun hcl => ?_)
   simp only [List.getElem_toArray, List.getElem_cons_zero, List.getElem_cons_succ, Act.put, List.setIfInBounds_toArray, List.set_cons_zero, List.set_cons_succ]
   go_wp2_with fail
   refine wpAnyT_done (by kernel_rfl) ?_ _
   go_wp2_with fail
   go_roundw
   case rel =>
    have hb := HB.out
    refine ⟨k + 1, by go_num, by omega, (HH.out.1.nxt hb).setWord hlt (by rw [wd_mix, if_pos (by omega), HRK.out]) (fun j hj hne => by rw [wd_mix, wd_mix]; split <;> split <;> first | rfl | omega), (HH.out.2.1.nxt hb).far (by show w.heap.size + 1 ≠ w.heap.size; omega) _, (HH.out.2.2.1.nxt hb).far (by show w.heap.size + 2 ≠ w.heap.size; omega) _, (HH.out.2.2.2.trans (hb.mono HH.out.2.2.2.size)).setCell (Nat.le_refl _) _⟩
   case measure => simp [intOf]; omega
  ·have g1 : decide ((k : Int) < 4) = false := decide_eq_false (by omega)
   obtain rfl : k = 4 := by omega
   have H4 := hide (And.intro (show Blk wr w.heap.size 24 (setC R).toArray from (setC_congr (S := mix5 4 R S) (T := R) fun x hx => by unfold mix5; rw [if_pos (by omega)]) ▸ HH.out.1) HH.out.2.2)
   clear HH hz1 hz2
   have cb : ∀ i : Nat, _ = _ := H4.out.1.cell
   simp only [setC] at cb
   go_wp2_with (refine wpList_store_row rfl _ _ _ rfl (w.heap.size + 2) 0 _ _ _ rfl rfl H4.out.2.1 Tryz.sizeSetO (by simp) (by simp [Value.oneCell']) ?_)
   intro w9 hrow2 hg9 hz9
   have hrow := hrow2.out
   rw [splice_full (by rfl)] at hrow
   have hb9 := below_grew H4.out.2.2 hg9 (Nat.le_refl _) (fun q hq => by rw [← Option.some.inj hq]; omega)
   have HF := hide (And.intro hrow hb9)
   clear hrow hrow2 hg9 hz9 cb
   go_wp2_with fail
   refine bodyPost_ret (results_cell_row rfl _ _ (w.heap.size + 2) _ _ (0, 0) _ rfl HF.out.1 Tryz.underlying24 rfl Tryz.sizeSetO) rfl ?_
   exact ⟨rfl, HF.out.2⟩

set_option maxRecDepth 100000 in
set_option maxHeartbeats 4000000 in
theorem not_any (S : Nat → Bool) (w : World) : Calls Tryz.prog 94 #[setV S] w (SetIs (fun x => !S x) w) := by
 obtain ⟨R, hR⟩ : ∃ R : Nat → Bool, R = (fun x => !S x) := ⟨_, rfl⟩
 rw [← hR]
 have HR := hide hR
 clear hR
 unfold setV
 have hb := ((Below.refl w.heap.size w).alloc (Nat.le_refl _) (.cells (setC S).toArray 24)).alloc (by simp) (.cells #[.int .u64 0, .int .u64 0, .int .u64 0, .int .u64 0] 24)
 have h1 := (Blk.new w 24 (setC S).toArray).alloc (.cells #[.int .u64 0, .int .u64 0, .int .u64 0, .int .u64 0] 24)
 have h3 := Blk.new (w.alloc (.cells (setC S).toArray 24)) 24 #[.int .u64 0, .int .u64 0, .int .u64 0, .int .u64 0]
 rw [World.size_alloc] at h3
 have hsz : w.heap.size + 1 < ((w.alloc (.cells (setC S).toArray 24)).alloc (.cells #[.int .u64 0, .int .u64 0, .int .u64 0, .int .u64 0] 24)).heap.size := by simp
 have H0 := hide (And.intro h1 (And.intro h3 hb))
 clear hb h1 h3
 go_enter Tryz.func94, Tryz.ntmps94
 go_wp2_with fail
 generalize ((w.alloc (.cells (setC S).toArray 24)).alloc (.cells #[.int .u64 0, .int .u64 0, .int .u64 0, .int .u64 0] 24)) = W at *
 go_loopw [4] (fun kv wr => ∃ k : Nat, kv = .int .i64 (k : Int) ∧ k ≤ 4 ∧ Blk wr w.heap.size 24 (setC (mix5 k R S)).toArray ∧ Blk wr (w.heap.size + 1) 24 #[.int .u64 0, .int .u64 0, .int .u64 0, .int .u64 0] ∧ Below w.heap.size w wr) (fun kv _ => 4 - (intOf kv).toNat)
 case atStart => exact ⟨0, rfl, by omega, H0.out.1, H0.out.2.1, H0.out.2.2⟩
 case round =>
  clear H0
  obtain ⟨k, rfl, hk, h1, h3, hb⟩ := hrel
  have HH := hide (And.intro h1 (And.intro h3 hb))
  clear h1 h3 hb
  by_cases hlt : k < 4
  ·have g1 : decide ((k : Int) < 4) = true := decide_eq_true (by omega)
   have hk4 : (k : Int) < 4 := by omega
   have hop : bits .xor .u64 (if IntKind.u64.signed = true then -1 else IntKind.u64.max) ((wd (mix5 k R S) k : Nat) : Int) = ((wd R k : Nat) : Int) := by
    rw [xor_ones (wd_lt _ _), wd_mix, if_neg (by omega), HR.out, ← wd_not]
   have c1 := HH.out.1.word k hlt
   have f1 := HH.out.1.frozen k
   generalize hu : wd (mix5 k R S) k = u at *
   clear hu
   obtain ⟨r, hr⟩ : ∃ r, r = wd R k := ⟨_, rfl⟩
   rw [← hr] at hop
   have HRK := hide hr
   clear hr
   go_wp2_with fail
   go_roundw
   case rel =>
    refine ⟨k + 1, by go_num, by omega, HH.out.1.setWord hlt (by rw [wd_mix, if_pos (by omega), HRK.out]) (fun j hj hne => by rw [wd_mix, wd_mix]; split <;> split <;> first | rfl | omega), HH.out.2.1.far (by show w.heap.size + 1 ≠ w.heap.size; omega) _, HH.out.2.2.setCell (Nat.le_refl _) _⟩
   case measure => simp [intOf]; omega
  ·have g1 : decide ((k : Int) < 4) = false := decide_eq_false (by omega)
   obtain rfl : k = 4 := by omega
   have H4 := hide (And.intro (show Blk wr w.heap.size 24 (setC R).toArray from (setC_congr (S := mix5 4 R S) (T := R) fun x hx => by unfold mix5; rw [if_pos (by omega)]) ▸ HH.out.1) HH.out.2)
   clear HH
   have cb : ∀ i : Nat, _ = _ := H4.out.1.cell
   simp only [setC] at cb
   go_wp2_with (refine wpList_store_row rfl _ _ _ rfl (w.heap.size + 1) 0 _ _ _ rfl rfl H4.out.2.1 Tryz.sizeSetO (by simp) (by simp [Value.oneCell']) ?_)
   intro w9 hrow2 hg9 hz9
   have hrow := hrow2.out
   rw [splice_full (by rfl)] at hrow
   have hb9 := below_grew H4.out.2.2 hg9 (Nat.le_refl _) (fun q hq => by rw [← Option.some.inj hq]; omega)
   have HF := hide (And.intro hrow hb9)
   clear hrow hrow2 hg9 hz9 cb
   go_wp2_with fail
   refine bodyPost_ret (results_cell_row rfl _ _ (w.heap.size + 1) _ _ (0, 0) _ rfl HF.out.1 Tryz.underlying24 rfl Tryz.sizeSetO) rfl ?_
   exact ⟨rfl, HF.out.2⟩

/-- A list of bytes in memory. -/
def BytesIn (w : World) (bs : List Nat) (A : Option Addr) : Prop := ∀ (i x : Nat), bs[i]? = some x → x < 256 ∧ ∃ b o, A = some ⟨b, o, none⟩ ∧ b < w.heap.size ∧ w.cell? ⟨b, o + i, none⟩ = some (.int .u8 (x : Int))
theorem shl_one (b : Nat) : IntKind.u64.wrap (2 ^ (b % 64)) = ((2 ^ (b % 64) : Nat) : Int) := by
 have h2 := two_pow_lt (Nat.mod_lt b (show 0 < 64 by decide))
 have : IntKind.u64.wrap (2 ^ (b % 64)) = (2 ^ (b % 64) : Int) % 18446744073709551616 := by simp [IntKind.wrap, IntKind.bits, IntKind.signed]
 rw [this]
 have e : ((2 : Int) ^ (b % 64)) = ((2 ^ (b % 64) : Nat) : Int) := by simp
 rw [e]
 generalize 2 ^ (b % 64) = p at *
 omega
set_option maxRecDepth 100000 in
set_option maxHeartbeats 4000000 in
theorem of_any (bs : List Nat) (A : Option Addr) (c : Nat) (w : World) (hl : bs.length ≤ 1000000) (hin : BytesIn w bs A) : Calls Tryz.prog 95 #[.slice A bs.length c] w (SetIs (fun x => bs.any fun b => decide (x = b)) w) := by
 obtain ⟨R, hR⟩ : ∃ R : Nat → Bool, R = (fun x => bs.any fun b => decide (x = b)) := ⟨_, rfl⟩
 rw [← hR]
 have HR := hide hR
 have HIN := hide hin
 clear hR hin
 have hb := ((Below.refl w.heap.size w).alloc (Nat.le_refl _) (.cells #[.int .u64 0, .int .u64 0, .int .u64 0, .int .u64 0] 24)).alloc (by simp) (.cells #[.int .u64 0, .int .u64 0, .int .u64 0, .int .u64 0] 24)
 have h1 := (Blk.new w 24 #[.int .u64 0, .int .u64 0, .int .u64 0, .int .u64 0]).alloc (.cells #[.int .u64 0, .int .u64 0, .int .u64 0, .int .u64 0] 24)
 have h3 := Blk.new (w.alloc (.cells #[.int .u64 0, .int .u64 0, .int .u64 0, .int .u64 0] 24)) 24 #[.int .u64 0, .int .u64 0, .int .u64 0, .int .u64 0]
 rw [World.size_alloc] at h3
 have e0 : (setC (fun x => (bs.take 0).any fun b => decide (x = b))).toArray = #[.int .u64 0, .int .u64 0, .int .u64 0, .int .u64 0] := zeroS_eq.symm
 have hsz : w.heap.size + 1 < ((w.alloc (.cells #[.int .u64 0, .int .u64 0, .int .u64 0, .int .u64 0] 24)).alloc (.cells #[.int .u64 0, .int .u64 0, .int .u64 0, .int .u64 0] 24)).heap.size := by simp
 have H0 := hide (And.intro h1 (And.intro (show Blk _ _ 24 (setC (fun x => (bs.take 0).any fun b => decide (x = b))).toArray from (by rw [e0]; exact h3)) hb))
 clear hb h1 h3 e0
 go_enter Tryz.func95, Tryz.ntmps95
 go_wp2_with fail
 generalize ((w.alloc (.cells #[.int .u64 0, .int .u64 0, .int .u64 0, .int .u64 0] 24)).alloc (.cells #[.int .u64 0, .int .u64 0, .int .u64 0, .int .u64 0] 24)) = W at *
 go_loopw [8] (fun kv wr => ∃ k : Nat, kv = .int .i64 (k : Int) ∧ k ≤ bs.length ∧ Blk wr w.heap.size 24 #[.int .u64 0, .int .u64 0, .int .u64 0, .int .u64 0] ∧ Blk wr (w.heap.size + 1) 24 (setC (fun x => (bs.take k).any fun b => decide (x = b))).toArray ∧ Below w.heap.size w wr) (fun kv _ => bs.length - (intOf kv).toNat)
 case atStart => exact ⟨0, rfl, by omega, H0.out.1, H0.out.2.1, H0.out.2.2⟩
 case round =>
  clear H0
  obtain ⟨k, rfl, hk, h1, h3, hb⟩ := hrel
  have HH := hide (And.intro h1 (And.intro h3 hb))
  have hz1 := h1.lt
  have hz3 := h3.lt
  clear h1 h3 hb
  by_cases hlt : k < bs.length
  case neg =>
   have g1 : decide ((k : Int) < (bs.length : Int)) = false := decide_eq_false (by omega)
   obtain rfl : k = bs.length := by omega
   have H4 := hide (And.intro (show Blk wr (w.heap.size + 1) 24 (setC R).toArray from (by have h := HH.out.2.1; rw [List.take_length] at h; rw [HR.out]; exact h)) (And.intro HH.out.1 HH.out.2.2))
   clear HH
   have cb : ∀ i : Nat, _ = _ := H4.out.1.cell
   simp only [setC] at cb
   go_wp2_with (refine wpList_store_row rfl _ _ _ rfl w.heap.size 0 _ _ _ rfl rfl H4.out.2.1 Tryz.sizeSetO (by simp) (by simp [Value.oneCell']) ?_)
   intro w9 hrow2 hg9 hz9
   have hrow := hrow2.out
   rw [splice_full (by rfl)] at hrow
   have hb9 := below_grew H4.out.2.2 hg9 (Nat.le_refl _) (fun q hq => by rw [← Option.some.inj hq]; omega)
   have HF := hide (And.intro hrow hb9)
   clear hrow hrow2 hg9 hz9 cb
   go_wp2_with fail
   refine bodyPost_ret (results_cell_row rfl _ _ w.heap.size _ _ (0, 0) _ rfl HF.out.1 Tryz.underlying24 rfl Tryz.sizeSetO) rfl ?_
   exact ⟨rfl, HF.out.2⟩
  have g1 : decide ((k : Int) < (bs.length : Int)) = true := decide_eq_true (by omega)
  have hs := List.getElem?_eq_getElem hlt
  have htk : bs.take (k + 1) = bs.take k ++ [bs[k]] := by rw [List.take_add_one, hs]; rfl
  generalize bs[k] = b at *
  obtain ⟨hb256, gb, ob, hAe, hgb, hcb⟩ := HIN.out k b hs
  have HTK := hide (And.intro htk hAe)
  rw [hAe]
  clear hs htk hAe
  have cb := (HH.out.2.2.cell (p := ⟨gb, ob + k, none⟩) hgb).trans hcb
  clear hcb
  obtain ⟨S0, hS0⟩ : ∃ S0 : Nat → Bool, S0 = (fun x => (bs.take k).any fun b => decide (x = b)) := ⟨_, rfl⟩
  rw [← hS0] at HH
  have HS0 := hide hS0
  clear hS0
  have hq : b / 64 < 4 := by omega
  have hand := and63n b hb256
  have hsh := shl_one b
  have hop := word_or (wd_lt S0 (b / 64)) (two_pow_lt (Nat.mod_lt b (by decide)))
  rw [wd_put] at hop
  have c1 := HH.out.2.1.word (b / 64) hq
  have f1 := HH.out.2.1.frozen (b / 64)
  generalize hu : wd S0 (b / 64) = u at *
  have HU := hide hu
  clear hu
  generalize hp : 2 ^ (b % 64) = pw at *
  clear hp
  obtain ⟨r, hr⟩ : ∃ r, r = wd (put5 S0 b) (b / 64) := ⟨_, rfl⟩
  rw [← hr] at hop
  have HRK := hide hr
  clear hr
  go_wp2_with fail
  go_roundw
  case rel =>
   have hS1 : put5 S0 b = fun x => (bs.take (k + 1)).any fun b => decide (x = b) := by
    funext x
    rw [HTK.out.1, List.any_append, HS0.out]
    simp [put5]
   refine ⟨k + 1, by go_num, hlt, HH.out.1.far (by show w.heap.size ≠ w.heap.size + 1; omega) _, ?_, HH.out.2.2.setCell (by show w.heap.size ≤ w.heap.size + 1; omega) _⟩
   rw [← hS1]
   exact HH.out.2.1.setWord hq HRK.out (fun j hj hne => (wd_put_other S0 b j hne).symm)
  case measure => simp [intOf]; omega

end Go.Proofs.YtpkcklpjbeginaaGreatDoor
