/- trawlref01: sets, byte by byte. (Printed by gen_refsets.py.) -/
import Derived.Test.YtpkcklpjbeginaaGreatDoorOctFns
import Derived.Great.Walk
set_option linter.unusedSimpArgs false
set_option linter.unusedVariables false
namespace Go.Proofs.YtpkcklpjbeginaaGreatDoor
open Go.RowKit

theorem wrapI {n : Int} (h1 : -9223372036854775808 ≤ n) (h2 : n ≤ 9223372036854775807) : IntKind.i64.wrap n = n := by
 simp [IntKind.wrap, IntKind.bits, IntKind.signed]
 omega
/-- 256 answers. -/
def boolsC (f : Nat → Bool) : List Value := (List.range 256).map fun i => Value.bool (f i)
theorem boolsC_len (f : Nat → Bool) : (boolsC f).length = 256 := by simp [boolsC]
theorem boolsC_at (f : Nat → Bool) (i : Nat) (h : i < 256) : (boolsC f)[i]? = some (.bool (f i)) := by simp [boolsC, h]
theorem boolsC_set (f : Nat → Bool) (i : Nat) (b : Bool) : (boolsC f).toArray.setIfInBounds i (.bool b) = (boolsC fun x => if x = i then b else f x).toArray := by
 rw [List.setIfInBounds_toArray]
 congr 1
 apply List.ext_getElem?
 intro j
 rw [List.getElem?_set]
 by_cases hj : j < 256
 ·rw [boolsC_at _ j hj]
  by_cases e : i = j
  ·subst e
   rw [if_pos rfl, if_pos (by rw [boolsC_len]; exact hj), boolsC_at _ i hj, if_pos rfl]
  ·rw [if_neg e, boolsC_at _ j hj, if_neg (fun h => e h.symm)]
 ·have h1 : (boolsC f)[j]? = none := List.getElem?_eq_none (by rw [boolsC_len]; omega)
  have h2 : (boolsC fun x => if x = i then b else f x)[j]? = none := List.getElem?_eq_none (by rw [boolsC_len]; omega)
  rw [h1, h2]
  by_cases e : i = j
  ·subst e
   simp [boolsC_len, hj]
  ·rw [if_neg e]
theorem boolsC_congr {f g : Nat → Bool} (h : ∀ x, x < 256 → f x = g x) : boolsC f = boolsC g := by
 unfold boolsC
 exact List.map_congr_left fun i hi => by rw [h i (by simpa using hi)]
theorem Tryz.infoBools : (Tryz.prog.info? 132).map (fun i => (i.zero, i.size)) = some (some (.agg (boolsC fun _ => false).toArray), 256) := by kernel_rfl
theorem Tryz.sizeBools (f : Nat → Bool) : (Tryz.prog.info? 132).map (·.size) = some (boolsC f).length := by
 rw [boolsC_len]
 exact (show (Tryz.prog.info? 132).map (·.size) = some 256 by kernel_rfl)
theorem Tryz.underBools : Tryz.prog.underlying 132 = some (.array 256 4) := by kernel_rfl
theorem bools_one (f : Nat → Bool) : ∀ u ∈ boolsC f, u.oneCell' = true := fun u hu => by
 obtain ⟨i, _, rfl⟩ := List.mem_map.1 hu
 rfl
theorem Blk.bit {w : World} {g : Nat} {f : Nat → Bool} (h : Blk w g 132 (boolsC f).toArray) (k : Nat) (hk : k < 256) : w.cell? ⟨g, k, none⟩ = some (.bool (f k)) := by
 rw [h.cell]
 simpa using boolsC_at f k hk
theorem Blk.setBit {w : World} {g : Nat} {f : Nat → Bool} (h : Blk w g 132 (boolsC f).toArray) (k : Nat) (b : Bool) : Blk (w.setCell ⟨g, k, none⟩ (.bool b)) g 132 (boolsC fun x => if x = k then b else f x).toArray := by
 have := heap_setCell_same w g k _ _ (.bool b) h
 rw [boolsC_set] at this
 exact this
section
variable {w : World} {ops : Array Oper} {rest : List Oper} {o : Oper} {a : Act} {Q : Exit → Act → World → Prop}
theorem wpList_alloc_bools (hg : o.guard = none) (hop : o.op = .alloc 132) (h : wpList Tryz.prog ops Q rest (a.put o.dst (.pointer (some ⟨w.heap.size, 0, none⟩))) (w.alloc (.cells (boolsC fun _ => false).toArray 132))) : wpList Tryz.prog ops Q (o :: rest) a w := by
 obtain ⟨ie, hi, hz⟩ := Option.map_eq_some_iff.1 Tryz.infoBools
 have hz0 : ie.zero = some (.agg (boolsC fun _ => false).toArray) := congrArg Prod.fst hz
 refine Great.wpList_allocTo hg o.dst rfl (.pointer (some ⟨w.heap.size, 0, none⟩)) (.cells (boolsC fun _ => false).toArray 132) ?_ h
 unfold execOp
 simp [hop, go_sem, zeroValue, typeInfo, hi, hz0, Value.cells]
theorem wpList_load_bools (hgd : o.guard = none) (x : Operand) (ho : o.op = .load 132 x) (g : Nat) (f : Nat → Bool) (hx : a.eval x = .pointer (some ⟨g, 0, none⟩)) (hb : Blk w g 132 (boolsC f).toArray)
  (h : wpList Tryz.prog ops Q rest (a.put o.dst (.agg (boolsC f).toArray)) w) : wpList Tryz.prog ops Q (o :: rest) a w := by
 refine wpList_load_cells hgd 132 x ho ⟨g, 0, none⟩ hx (boolsC f) _ Tryz.underBools rfl (Tryz.sizeBools f) (fun j u hu => ?_) h
 rw [Addr.add_lit, Nat.zero_add, hb.cell]
 simpa using hu
theorem wpList_store_bools (hgd : o.guard = none) (x v : Operand) (ho : o.op = .store 132 x v) (g : Nat) (cur : Array Value) (f : Nat → Bool) (hx : a.eval x = .pointer (some ⟨g, 0, none⟩)) (hv : a.eval v = .agg (boolsC f).toArray) (hg : Blk w g 132 cur) (hc : cur.size = 256)
  (h : ∀ w', Blk w' g 132 (boolsC f).toArray → w.grownBy w' (some g) → w'.heap.size = w.heap.size → wpList Tryz.prog ops Q rest (a.put o.dst undef) w') : wpList Tryz.prog ops Q (o :: rest) a w := by
 refine wpList_store_row hgd 132 x v ho g 0 132 cur (boolsC f).toArray hx hv hg (by rw [Tryz.sizeBools f]; simp) (by simp [boolsC_len, hc]) (fun u hu => bools_one f u (by simpa using hu)) fun w' h1 h2 h3 => ?_
 have h1' := h1.out
 rw [splice_full (by simp [boolsC_len, hc])] at h1'
 exact h w' h1' h2 h3
end

/-- 2 to the power of n. -/
theorem power_any (n : Nat) (hn : n < 64) (w : World) : Calls Tryz.prog 127 #[.int .i64 (n : Int)] w fun e w' => e = .returned (.int .u64 ((2 ^ n : Nat) : Int)) ∧ w' = w := by
 go_enter Tryz.func127, Tryz.ntmps127
 go_wp2_with fail
 go_loopw [3, 4] (fun pv kv wr => ∃ k : Nat, kv = .int .i64 (k : Int) ∧ k ≤ n ∧ pv = .int .u64 ((2 ^ k : Nat) : Int) ∧ wr = w) (fun _ kv _ => n - (intOf kv).toNat)
 case atStart => exact ⟨0, rfl, by omega, rfl, rfl⟩
 case round =>
  obtain ⟨k, rfl, hk, rfl, rfl⟩ := hrel
  by_cases hlt : k < n
  ·have g1 : decide ((k : Int) < (n : Int)) = true := decide_eq_true (by omega)
   have hp : IntKind.u64.wrap (((2 ^ k : Nat) : Int) * 2) = ((2 ^ (k + 1) : Nat) : Int) := by
    have h := two_pow_lt (show k + 1 < 64 by omega)
    have : IntKind.u64.wrap (((2 ^ k : Nat) : Int) * 2) = (((2 ^ k : Nat) : Int) * 2) % 18446744073709551616 := by simp [IntKind.wrap, IntKind.bits, IntKind.signed]
    rw [this, Nat.pow_succ] at *
    generalize 2 ^ k = p at *
    omega
   have HP := hide hp
   generalize hq : 2 ^ k = p at *
   clear hq
   go_wp2_with fail
   go_roundw
   case rel => exact ⟨k + 1, by go_num, hlt, by simp, trivial⟩
   case measure => simp [intOf]; omega
  ·have g1 : decide ((k : Int) < (n : Int)) = false := decide_eq_false (by omega)
   obtain rfl : k = n := by omega
   go_wp2_with fail
   go_ret
   exact ⟨rfl, rfl⟩

set_option maxRecDepth 100000 in
set_option maxHeartbeats 4000000 in
/-- Which bytes are in a set. -/
theorem bits_any (S : Nat → Bool) (w : World) : Calls Tryz.prog 103 #[setV S] w fun e w' => e = .returned (.agg (boolsC S).toArray) ∧ Below w.heap.size w w' := by
 unfold setV
 have hb := (((Below.refl w.heap.size w).alloc (Nat.le_refl _) (.cells (setC S).toArray 24)).alloc (by simp) (.cells (boolsC fun _ => false).toArray 132)).alloc (by simp; omega) (.cells (boolsC fun _ => false).toArray 132)
 have h1 := ((Blk.new w 24 (setC S).toArray).alloc (.cells (boolsC fun _ => false).toArray 132)).alloc (.cells (boolsC fun _ => false).toArray 132)
 have h2 := (Blk.new (w.alloc (.cells (setC S).toArray 24)) 132 (boolsC fun _ => false).toArray).alloc (.cells (boolsC fun _ => false).toArray 132)
 have h3 := Blk.new ((w.alloc (.cells (setC S).toArray 24)).alloc (.cells (boolsC fun _ => false).toArray 132)) 132 (boolsC fun _ => false).toArray
 rw [World.size_alloc, World.size_alloc] at h3
 rw [World.size_alloc] at h2
 have hsz : w.heap.size + 2 < (((w.alloc (.cells (setC S).toArray 24)).alloc (.cells (boolsC fun _ => false).toArray 132)).alloc (.cells (boolsC fun _ => false).toArray 132)).heap.size := by simp
 have H0 := hide (And.intro h1 (And.intro h2 (And.intro (show Blk _ _ 132 (boolsC fun x => decide (x < 0) && S x).toArray from (boolsC_congr (f := fun x => decide (x < 0) && S x) (g := fun _ => false) fun x _ => by simp) ▸ h3) hb)))
 clear hb h1 h2 h3
 go_enter Tryz.func103, Tryz.ntmps103
 go_wp2_with (refine wpList_alloc_bools rfl rfl ?_)
 generalize (((w.alloc (.cells (setC S).toArray 24)).alloc (.cells (boolsC fun _ => false).toArray 132)).alloc (.cells (boolsC fun _ => false).toArray 132)) = W at *
 go_loopw [4] (fun kv wr => ∃ k : Nat, kv = .int .i64 (k : Int) ∧ k ≤ 256 ∧ Blk wr w.heap.size 24 (setC S).toArray ∧ Blk wr (w.heap.size + 1) 132 (boolsC fun _ => false).toArray ∧ Blk wr (w.heap.size + 2) 132 (boolsC fun x => decide (x < k) && S x).toArray ∧ Below w.heap.size w wr) (fun kv _ => 256 - (intOf kv).toNat)
 case atStart => exact ⟨0, rfl, by omega, H0.out.1, H0.out.2.1, H0.out.2.2.1, H0.out.2.2.2⟩
 case round =>
  clear H0
  obtain ⟨k, rfl, hk, h1, h2, h3, hb⟩ := hrel
  have HH := hide (And.intro h1 (And.intro h2 (And.intro h3 hb)))
  have hz1 := h1.lt
  have hz3 := h3.lt
  clear h1 h2 h3 hb
  by_cases hlt : k < 256
  case neg =>
   have g1 : decide ((k : Int) < 256) = false := decide_eq_false (by omega)
   obtain rfl : k = 256 := by omega
   have H4 := hide (And.intro (show Blk wr (w.heap.size + 2) 132 (boolsC S).toArray from (boolsC_congr (f := fun x => decide (x < 256) && S x) (g := S) fun x hx => by simp [hx]) ▸ HH.out.2.2.1) (And.intro HH.out.2.1 HH.out.2.2.2))
   clear HH
   go_wp2_with (first | refine wpList_load_bools rfl _ rfl (w.heap.size + 2) S rfl H4.out.1 ?_ | refine wpList_store_bools rfl _ _ rfl (w.heap.size + 1) _ S rfl rfl H4.out.2.1 (by simp [boolsC_len]) ?_)
   intro w9 hrow hg9 hz9
   have hb9 := below_grew H4.out.2.2 hg9 (Nat.le_refl _) (fun q hq => by rw [← Option.some.inj hq]; omega)
   have HF := hide (And.intro hrow hb9)
   clear hrow hg9 hz9
   go_wp2_with fail
   refine bodyPost_ret (results_cell_row rfl _ _ (w.heap.size + 1) _ _ (0, 0) _ rfl HF.out.1 Tryz.underBools rfl (by rw [Tryz.sizeBools S]; simp)) rfl ?_
   exact ⟨rfl, HF.out.2⟩
  have g1 : decide ((k : Int) < 256) = true := decide_eq_true (by omega)
  have hk6 : (k : Int) < 256 := by omega
  have hq : k / 64 < 4 := by omega
  have hq0 : 0 ≤ (k : Int) / 64 := by omega
  have hq4 : (k : Int) / 64 < 4 := by omega
  have hqn : ((k : Int) / 64).toNat = k / 64 := by omega
  have hqw : IntKind.i64.wrap ((k : Int) / 64) = (k : Int) / 64 := wrapI (by omega) (by omega)
  have c1 := HH.out.1.word (k / 64) hq
  have f1 := HH.out.2.2.1.frozen k
  have cz := HH.out.2.2.1.bit k hlt
  have HP := hide (fun z => power_any (k % 64) (Nat.mod_lt _ (by decide)) z)
  have hbit := wd_bit S (k / 64) (k % 64) (Nat.mod_lt _ (by decide))
  rw [show 64 * (k / 64) + k % 64 = k by omega, Nat.testBit_eq_decide_div_mod_eq] at hbit
  have hult := wd_lt S (k / 64)
  have hpp := Nat.two_pow_pos (k % 64)
  generalize 2 ^ (k % 64) = pw at *
  generalize wd S (k / 64) = u at *
  have hp0 : ((pw : Int) == 0) = false := by simp; omega
  have hp0' : ¬ ((pw : Int) = 0) := by omega
  have hd1 : u / pw ≤ u := Nat.div_le_self _ _
  have hpn : ¬ pw = 0 := by omega
  have hquo : IntKind.u64.wrap ((u : Int) / (pw : Int)) = ((u / pw : Nat) : Int) := by
   rw [show (u : Int) / (pw : Int) = ((u / pw : Nat) : Int) from (Int.natCast_ediv u pw).symm]
   generalize u / pw = d at *
   have : IntKind.u64.wrap (d : Int) = (d : Int) % 18446744073709551616 := by simp [IntKind.wrap, IntKind.bits, IntKind.signed]
   rw [this]
   omega
  have hrem : ((u / pw : Nat) : Int).tmod 2 = ((u / pw % 2 : Nat) : Int) := rfl
  generalize u / pw = dv at *
  have heq : (((dv : Nat) : Int) % 2 == 1) = S k := by
   rw [← hbit, show ((dv : Nat) : Int) % 2 = ((dv % 2 : Nat) : Int) by omega]
   by_cases h : dv % 2 = 1
   ·simp [h]
   ·have : dv % 2 = 0 := by omega
    simp [this]
  have HEQ := hide heq
  clear heq
  go_upto_region 5 with fail
  refine wp_region_mix (fun z => Below wr.heap.size wr z) [12] (by kernel_rfl) (fun hcl => ?_)
  have hS : Below wr.heap.size wr wr.drew := (Below.refl _ _).drew
  refine wpAnyT_free (i := 0) hcl rfl (by kernel_rfl) (v := ?_) (fun _ _ _ h => h) hS (Or.inl ⟨rfl, fun w' _ => ?_⟩) (fun hcl => ?_)
  rotate_left
  ·go_simp
   with_reducible rfl
  simp only [List.getElem_toArray, List.getElem_cons_zero, List.getElem_cons_succ, Act.put, List.setIfInBounds_toArray, List.set_cons_zero, List.set_cons_succ]
  refine wpAnyT_free (i := 1) hcl rfl (by kernel_rfl) (v := ?_) (fun _ _ _ h => h) hS (Or.inl ⟨rfl, fun w' _ => ?_⟩) (fun hcl => ?_)
  rotate_left
  ·go_simp
   with_reducible rfl
  simp only [List.getElem_toArray, List.getElem_cons_zero, List.getElem_cons_succ, Act.put, List.setIfInBounds_toArray, List.set_cons_zero, List.set_cons_succ]
  refine wpAnyT_free (i := 2) hcl rfl (by kernel_rfl) (v := ?_) (fun _ _ _ h => h) hS (Or.inl ⟨rfl, fun w' _ => ?_⟩) (fun hcl => ?_)
  rotate_left
  ·go_simp
   with_reducible rfl
  simp only [List.getElem_toArray, List.getElem_cons_zero, List.getElem_cons_succ, Act.put, List.setIfInBounds_toArray, List.set_cons_zero, List.set_cons_succ]
  refine wpAnyT_free (i := 3) hcl rfl (by kernel_rfl) (v := ?_) (fun _ _ _ h => h) hS (Or.inl ⟨rfl, fun w' _ => ?_⟩) (fun hcl => ?_)
  rotate_left
  ·go_simp
   with_reducible rfl
  simp only [List.getElem_toArray, List.getElem_cons_zero, List.getElem_cons_succ, Act.put, List.setIfInBounds_toArray, List.set_cons_zero, List.set_cons_succ]
  refine wpAnyT_take (i := 4) hcl rfl (by kernel_rfl) (v := ?_) (fun _ _ _ h => h) hS (Or.inl ⟨rfl, fun w' hS => ?_⟩) (fun hcl => ?_)
  rotate_left
  ·skip
   have c1' := (hS.cell (p := ⟨w.heap.size, k / 64, none⟩) hz1).trans c1
   go_simp
   with_reducible rfl
  simp only [List.getElem_toArray, List.getElem_cons_zero, List.getElem_cons_succ, Act.put, List.setIfInBounds_toArray, List.set_cons_zero, List.set_cons_succ]
  refine wpAnyT_free (i := 5) hcl rfl (by kernel_rfl) (v := ?_) (fun _ _ _ h => h) hS (Or.inl ⟨rfl, fun w' _ => ?_⟩) (fun hcl => ?_)
  rotate_left
  ·go_simp
   with_reducible rfl
  simp only [List.getElem_toArray, List.getElem_cons_zero, List.getElem_cons_succ, Act.put, List.setIfInBounds_toArray, List.set_cons_zero, List.set_cons_succ]
  refine wpAnyT_free (i := 6) hcl rfl (by kernel_rfl) (v := ?_) (fun _ _ _ h => h) hS (Or.inl ⟨rfl, fun w' _ => ?_⟩) (fun hcl => ?_)
  rotate_left
  ·go_simp
   with_reducible rfl
  simp only [List.getElem_toArray, List.getElem_cons_zero, List.getElem_cons_succ, Act.put, List.setIfInBounds_toArray, List.set_cons_zero, List.set_cons_succ]
  refine wpAnyT_step (i := 7) hcl rfl (by kernel_rfl) (fun hcl => ?_)
  simp only [List.getElem_toArray, List.getElem_cons_zero, List.getElem_cons_succ, Act.put, List.setIfInBounds_toArray, List.set_cons_zero, List.set_cons_succ]
  go_wp2_with fail
  refine (HP.out _).mono ?_
  rintro e w5 ⟨rfl, hw5⟩
  subst hw5
  go_wp2_with fail
  refine ⟨hS, ?_⟩
  refine wpAnyT_free (i := 8) hcl rfl (by kernel_rfl) (v := ?_) (fun _ _ _ h => h) hS (Or.inl ⟨rfl, fun w' _ => ?_⟩) (fun hcl => ?_)
  rotate_left
  ·go_simp
   with_reducible rfl
  simp only [List.getElem_toArray, List.getElem_cons_zero, List.getElem_cons_succ, Act.put, List.setIfInBounds_toArray, List.set_cons_zero, List.set_cons_succ]
  refine wpAnyT_free (i := 9) hcl rfl (by kernel_rfl) (v := ?_) (fun _ _ _ h => h) hS (Or.inl ⟨rfl, fun w' _ => ?_⟩) (fun hcl => ?_)
  rotate_left
  ·go_simp
   with_reducible rfl
  simp only [List.getElem_toArray, List.getElem_cons_zero, List.getElem_cons_succ, Act.put, List.setIfInBounds_toArray, List.set_cons_zero, List.set_cons_succ]
  refine wpAnyT_free (i := 10) hcl rfl (by kernel_rfl) (v := ?_) (fun _ _ _ h => h) hS (Or.inl ⟨rfl, fun w' _ => ?_⟩) (fun hcl => ?_)
  rotate_left
  ·go_simp
   with_reducible rfl
  simp only [List.getElem_toArray, List.getElem_cons_zero, List.getElem_cons_succ, Act.put, List.setIfInBounds_toArray, List.set_cons_zero, List.set_cons_succ]
  refine wpAnyT_free (i := 11) hcl rfl (by kernel_rfl) (v := ?_) (fun _ _ _ h => h) hS (Or.inl ⟨rfl, fun w' _ => ?_⟩) (fun hcl => ?_)
  rotate_left
  ·go_simp
   with_reducible rfl
  simp only [List.getElem_toArray, List.getElem_cons_zero, List.getElem_cons_succ, Act.put, List.setIfInBounds_toArray, List.set_cons_zero, List.set_cons_succ]
  refine wpAnyT_last (i := 12) hcl rfl (by kernel_rfl) (by kernel_rfl) (fun hcl => ?_)
  simp only [List.getElem_toArray, List.getElem_cons_zero, List.getElem_cons_succ, Act.put, List.setIfInBounds_toArray, List.set_cons_zero, List.set_cons_succ]
  go_wp2_with fail
  refine wpAnyT_done (by kernel_rfl) ?_ _
  go_wp2_with fail
  go_roundw
  case rel =>
   refine ⟨k + 1, by go_num, by omega, HH.out.1.far (by show w.heap.size ≠ w.heap.size + 2; omega) _, HH.out.2.1.far (by show w.heap.size + 1 ≠ w.heap.size + 2; omega) _, ?_, (HH.out.2.2.2.setCell (by show w.heap.size ≤ w.heap.size + 2; omega) _).drew⟩
   rw [HEQ.out, boolsC_congr (f := fun x => decide (x < k + 1) && S x) (g := fun x => if x = k then S k else decide (x < k) && S x) (fun x _ => by
    by_cases e : x = k
    ·subst e; simp
    ·rw [if_neg e]
     congr 1
     exact decide_eq_decide.2 (by omega))]
   exact HH.out.2.2.1.setBit k (S k)
  case measure => simp [intOf]; omega

set_option maxRecDepth 100000 in
set_option maxHeartbeats 4000000 in
/-- The set of the bytes that are told. -/
theorem made_any (f : Nat → Bool) (w : World) : Calls Tryz.prog 128 #[.agg (boolsC f).toArray] w (SetIs f w) := by
 have hb := (((Below.refl w.heap.size w).alloc (Nat.le_refl _) (.cells (boolsC f).toArray 132)).alloc (by simp) (.cells #[.int .u64 0, .int .u64 0, .int .u64 0, .int .u64 0] 24)).alloc (by simp; omega) (.cells #[.int .u64 0, .int .u64 0, .int .u64 0, .int .u64 0] 24)
 have h1 := ((Blk.new w 132 (boolsC f).toArray).alloc (.cells #[.int .u64 0, .int .u64 0, .int .u64 0, .int .u64 0] 24)).alloc (.cells #[.int .u64 0, .int .u64 0, .int .u64 0, .int .u64 0] 24)
 have h2 := (Blk.new (w.alloc (.cells (boolsC f).toArray 132)) 24 #[.int .u64 0, .int .u64 0, .int .u64 0, .int .u64 0]).alloc (.cells #[.int .u64 0, .int .u64 0, .int .u64 0, .int .u64 0] 24)
 have h3 := Blk.new ((w.alloc (.cells (boolsC f).toArray 132)).alloc (.cells #[.int .u64 0, .int .u64 0, .int .u64 0, .int .u64 0] 24)) 24 #[.int .u64 0, .int .u64 0, .int .u64 0, .int .u64 0]
 rw [World.size_alloc, World.size_alloc] at h3
 rw [World.size_alloc] at h2
 have e0 : (setC (fun x => decide (x < 0) && f x)).toArray = #[.int .u64 0, .int .u64 0, .int .u64 0, .int .u64 0] := by
  rw [setC_congr (T := fun _ => false) (fun x _ => by simp)]
  exact zeroS_eq.symm
 have hsz : w.heap.size + 2 < (((w.alloc (.cells (boolsC f).toArray 132)).alloc (.cells #[.int .u64 0, .int .u64 0, .int .u64 0, .int .u64 0] 24)).alloc (.cells #[.int .u64 0, .int .u64 0, .int .u64 0, .int .u64 0] 24)).heap.size := by simp
 have H0 := hide (And.intro h1 (And.intro h2 (And.intro (show Blk _ _ 24 (setC fun x => decide (x < 0) && f x).toArray from (by rw [e0]; exact h3)) hb)))
 clear hb h1 h2 h3 e0
 go_enter Tryz.func128, Tryz.ntmps128
 go_wp2_with fail
 generalize (((w.alloc (.cells (boolsC f).toArray 132)).alloc (.cells #[.int .u64 0, .int .u64 0, .int .u64 0, .int .u64 0] 24)).alloc (.cells #[.int .u64 0, .int .u64 0, .int .u64 0, .int .u64 0] 24)) = W at *
 go_loopw [4] (fun kv wr => ∃ k : Nat, kv = .int .i64 (k : Int) ∧ k ≤ 256 ∧ Blk wr w.heap.size 132 (boolsC f).toArray ∧ Blk wr (w.heap.size + 1) 24 #[.int .u64 0, .int .u64 0, .int .u64 0, .int .u64 0] ∧ Blk wr (w.heap.size + 2) 24 (setC fun x => decide (x < k) && f x).toArray ∧ Below w.heap.size w wr) (fun kv _ => 256 - (intOf kv).toNat)
 case atStart => exact ⟨0, rfl, by omega, H0.out.1, H0.out.2.1, H0.out.2.2.1, H0.out.2.2.2⟩
 case round =>
  clear H0
  obtain ⟨k, rfl, hk, h1, h2, h3, hb⟩ := hrel
  have HH := hide (And.intro h1 (And.intro h2 (And.intro h3 hb)))
  have hz1 := h1.lt
  have hz3 := h3.lt
  clear h1 h2 h3 hb
  by_cases hlt : k < 256
  case neg =>
   have g1 : decide ((k : Int) < 256) = false := decide_eq_false (by omega)
   obtain rfl : k = 256 := by omega
   have H4 := hide (And.intro (show Blk wr (w.heap.size + 2) 24 (setC f).toArray from (setC_congr (S := fun x => decide (x < 256) && f x) (T := f) fun x hx => by simp [hx]) ▸ HH.out.2.2.1) (And.intro HH.out.2.1 HH.out.2.2.2))
   clear HH
   have cb : ∀ i : Nat, _ = _ := H4.out.1.cell
   simp only [setC] at cb
   go_wp2_with (refine wpList_store_row rfl _ _ _ rfl (w.heap.size + 1) 0 _ _ _ rfl rfl H4.out.2.1 Tryz.sizeSetO (by simp) (by simp [Value.oneCell']) ?_)
   intro w9 hrow2 hg9 hz9
   have hrow := hrow2.out
   rw [splice_full (by rfl)] at hrow
   have hb9 := below_grew H4.out.2.2 hg9 (Nat.le_refl _) (fun q hq => by rw [← Option.some.inj hq]; omega)
   have HF := hide (And.intro hrow hb9)
   clear hrow hrow2 hg9 hz9 cb
   go_wp2_with fail
   refine bodyPost_ret (results_cell_row rfl _ _ (w.heap.size + 1) _ _ (0, 0) _ rfl HF.out.1 Tryz.underlying24 rfl Tryz.sizeSetO) rfl ?_
   exact ⟨rfl, HF.out.2⟩
  have g1 : decide ((k : Int) < 256) = true := decide_eq_true (by omega)
  have hk6 : (k : Int) < 256 := by omega
  have cz := HH.out.1.bit k hlt
  obtain ⟨fk, hfk⟩ : ∃ b, b = f k := ⟨_, rfl⟩
  rw [← hfk] at cz
  have HFK := hide hfk
  clear hfk
  cases fk with
  | false =>
   have hS1 : setC (fun x => decide (x < k) && f x) = setC (fun x => decide (x < k + 1) && f x) := setC_congr fun x _ => by
    by_cases e : x = k
    ·subst e; simp [← HFK.out]
    ·congr 1
     exact decide_eq_decide.2 (by omega)
   have HS1 := hide hS1
   clear hS1
   go_wp2_with fail
   go_roundw
   case rel => exact ⟨k + 1, by go_num, by omega, HH.out.1, HH.out.2.1, HS1.out ▸ HH.out.2.2.1, HH.out.2.2.2⟩
   case measure => simp [intOf]; omega
  | true =>
  obtain ⟨S0, hS0⟩ : ∃ S0 : Nat → Bool, S0 = (fun x => decide (x < k) && f x) := ⟨_, rfl⟩
  rw [← hS0] at HH
  have hSk : S0 k = false := by rw [hS0]; simp
  have hS1 : put5 S0 k = fun x => decide (x < k + 1) && f x := by
   funext x
   rw [hS0]
   unfold put5
   by_cases e : x = k
   ·subst e; simp [← HFK.out]
   ·rw [decide_eq_false e, Bool.or_false]
    show (decide (x < k) && f x) = (decide (x < k + 1) && f x)
    rw [show decide (x < k) = decide (x < k + 1) from decide_eq_decide.2 (by omega)]
  have HS0 := hide hS1
  clear hS0 hS1
  have hq : k / 64 < 4 := by omega
  have hq0 : 0 ≤ (k : Int) / 64 := by omega
  have hq4 : (k : Int) / 64 < 4 := by omega
  have hqn : ((k : Int) / 64).toNat = k / 64 := by omega
  have hqw : IntKind.i64.wrap ((k : Int) / 64) = (k : Int) / 64 := wrapI (by omega) (by omega)
  have c1 := HH.out.2.2.1.word (k / 64) hq
  have f1 := HH.out.2.2.1.frozen (k / 64)
  have HP := hide (fun z => power_any (k % 64) (Nat.mod_lt _ (by decide)) z)
  have hsum := wd_put_add S0 k hSk
  have hrlt := wd_lt (put5 S0 k) (k / 64)
  generalize 2 ^ (k % 64) = pw at *
  generalize wd S0 (k / 64) = u at *
  obtain ⟨r, hr⟩ : ∃ r, r = wd (put5 S0 k) (k / 64) := ⟨_, rfl⟩
  rw [← hr] at hsum hrlt
  have HRK := hide hr
  have hadd : IntKind.u64.wrap ((u : Int) + (pw : Int)) = (r : Int) := by
   have : IntKind.u64.wrap ((u : Int) + (pw : Int)) = ((u : Int) + (pw : Int)) % 18446744073709551616 := by simp [IntKind.wrap, IntKind.bits, IntKind.signed]
   rw [this]
   omega
  clear hr hsum hSk
  go_upto_region 6 with fail
  refine wp_region_mix (fun z => Below wr.heap.size wr z) [11] (by kernel_rfl) (fun hcl => ?_)
  have hS : Below wr.heap.size wr wr.drew := (Below.refl _ _).drew
  refine wpAnyT_free (i := 0) hcl rfl (by kernel_rfl) (v := ?_) (fun _ _ _ h => h) hS (Or.inl ⟨rfl, fun w' _ => ?_⟩) (fun hcl => ?_)
  rotate_left
  ·go_simp
   with_reducible rfl
  simp only [List.getElem_toArray, List.getElem_cons_zero, List.getElem_cons_succ, Act.put, List.setIfInBounds_toArray, List.set_cons_zero, List.set_cons_succ]
  refine wpAnyT_free (i := 1) hcl rfl (by kernel_rfl) (v := ?_) (fun _ _ _ h => h) hS (Or.inl ⟨rfl, fun w' _ => ?_⟩) (fun hcl => ?_)
  rotate_left
  ·go_simp
   with_reducible rfl
  simp only [List.getElem_toArray, List.getElem_cons_zero, List.getElem_cons_succ, Act.put, List.setIfInBounds_toArray, List.set_cons_zero, List.set_cons_succ]
  refine wpAnyT_free (i := 2) hcl rfl (by kernel_rfl) (v := ?_) (fun _ _ _ h => h) hS (Or.inl ⟨rfl, fun w' _ => ?_⟩) (fun hcl => ?_)
  rotate_left
  ·go_simp
   with_reducible rfl
  simp only [List.getElem_toArray, List.getElem_cons_zero, List.getElem_cons_succ, Act.put, List.setIfInBounds_toArray, List.set_cons_zero, List.set_cons_succ]
  refine wpAnyT_free (i := 3) hcl rfl (by kernel_rfl) (v := ?_) (fun _ _ _ h => h) hS (Or.inl ⟨rfl, fun w' _ => ?_⟩) (fun hcl => ?_)
  rotate_left
  ·go_simp
   with_reducible rfl
  simp only [List.getElem_toArray, List.getElem_cons_zero, List.getElem_cons_succ, Act.put, List.setIfInBounds_toArray, List.set_cons_zero, List.set_cons_succ]
  refine wpAnyT_free (i := 4) hcl rfl (by kernel_rfl) (v := ?_) (fun _ _ _ h => h) hS (Or.inl ⟨rfl, fun w' _ => ?_⟩) (fun hcl => ?_)
  rotate_left
  ·go_simp
   with_reducible rfl
  simp only [List.getElem_toArray, List.getElem_cons_zero, List.getElem_cons_succ, Act.put, List.setIfInBounds_toArray, List.set_cons_zero, List.set_cons_succ]
  refine wpAnyT_take (i := 5) hcl rfl (by kernel_rfl) (v := ?_) (fun _ _ _ h => h) hS (Or.inl ⟨rfl, fun w' hS => ?_⟩) (fun hcl => ?_)
  rotate_left
  ·skip
   have c1' := (hS.cell (p := ⟨w.heap.size + 2, k / 64, none⟩) hz3).trans c1
   go_simp
   with_reducible rfl
  simp only [List.getElem_toArray, List.getElem_cons_zero, List.getElem_cons_succ, Act.put, List.setIfInBounds_toArray, List.set_cons_zero, List.set_cons_succ]
  refine wpAnyT_free (i := 6) hcl rfl (by kernel_rfl) (v := ?_) (fun _ _ _ h => h) hS (Or.inl ⟨rfl, fun w' _ => ?_⟩) (fun hcl => ?_)
  rotate_left
  ·go_simp
   with_reducible rfl
  simp only [List.getElem_toArray, List.getElem_cons_zero, List.getElem_cons_succ, Act.put, List.setIfInBounds_toArray, List.set_cons_zero, List.set_cons_succ]
  refine wpAnyT_free (i := 7) hcl rfl (by kernel_rfl) (v := ?_) (fun _ _ _ h => h) hS (Or.inl ⟨rfl, fun w' _ => ?_⟩) (fun hcl => ?_)
  rotate_left
  ·go_simp
   with_reducible rfl
  simp only [List.getElem_toArray, List.getElem_cons_zero, List.getElem_cons_succ, Act.put, List.setIfInBounds_toArray, List.set_cons_zero, List.set_cons_succ]
  refine wpAnyT_step (i := 8) hcl rfl (by kernel_rfl) (fun hcl => ?_)
  simp only [List.getElem_toArray, List.getElem_cons_zero, List.getElem_cons_succ, Act.put, List.setIfInBounds_toArray, List.set_cons_zero, List.set_cons_succ]
  go_wp2_with fail
  refine (HP.out _).mono ?_
  rintro e w5 ⟨rfl, hw5⟩
  subst hw5
  go_wp2_with fail
  refine ⟨hS, ?_⟩
  refine wpAnyT_free (i := 9) hcl rfl (by kernel_rfl) (v := ?_) (fun _ _ _ h => h) hS (Or.inl ⟨rfl, fun w' _ => ?_⟩) (fun hcl => ?_)
  rotate_left
  ·go_simp
   with_reducible rfl
  simp only [List.getElem_toArray, List.getElem_cons_zero, List.getElem_cons_succ, Act.put, List.setIfInBounds_toArray, List.set_cons_zero, List.set_cons_succ]
  refine wpAnyT_free (i := 10) hcl rfl (by kernel_rfl) (v := ?_) (fun _ _ _ h => h) hS (Or.inl ⟨rfl, fun w' _ => ?_⟩) (fun hcl => ?_)
  rotate_left
  ·go_simp
   with_reducible rfl
  simp only [List.getElem_toArray, List.getElem_cons_zero, List.getElem_cons_succ, Act.put, List.setIfInBounds_toArray, List.set_cons_zero, List.set_cons_succ]
  refine wpAnyT_last (i := 11) hcl rfl (by kernel_rfl) (by kernel_rfl) (fun hcl => ?_)
  simp only [List.getElem_toArray, List.getElem_cons_zero, List.getElem_cons_succ, Act.put, List.setIfInBounds_toArray, List.set_cons_zero, List.set_cons_succ]
  go_wp2_with fail
  refine wpAnyT_done (by kernel_rfl) ?_ _
  go_wp2_with fail
  go_roundw
  case rel =>
   refine ⟨k + 1, by go_num, by omega, HH.out.1.far (by show w.heap.size ≠ w.heap.size + 2; omega) _, HH.out.2.1.far (by show w.heap.size + 1 ≠ w.heap.size + 2; omega) _, ?_, (HH.out.2.2.2.setCell (by show w.heap.size ≤ w.heap.size + 2; omega) _).drew⟩
   rw [← HS0.out]
   exact HH.out.2.2.1.setWord hq HRK.out (fun j hj hne => (wd_put_other S0 k j hne).symm)
  case measure => simp [intOf]; omega
end Go.Proofs.YtpkcklpjbeginaaGreatDoor
