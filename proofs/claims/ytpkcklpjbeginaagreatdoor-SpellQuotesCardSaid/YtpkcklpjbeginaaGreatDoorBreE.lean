/- BreD: bre: atom. (Printed by gen_bred.py.)
BreP: What reading a basic pattern yields goes on behind its place, in the pattern, in plain Lean.
BreE: bre: group, piece. (Printed by gen_bree.py.) -/
import Derived.Test.YtpkcklpjbeginaaGreatDoorBreA
import Derived.Test.YtpkcklpjbeginaaGreatDoorEreP
import Derived.Test.YtpkcklpjbeginaaGreatDoorMake2
set_option linter.unusedSimpArgs false
set_option linter.unusedVariables false
set_option linter.unnecessarySimpa false

/-! ## BreD -/
namespace Go.Proofs.YtpkcklpjbeginaaGreatDoor
open Go.RowKit

theorem atomB_esc {p : ByteArray} {ic nl : Bool} {deeper : Option (Nat → Nat → PR)} {star : Bool} {i g : Nat} (h : pb p i = 92) : atomB p ic nl deeper star i g = escB p ic deeper i g := by
 unfold atomB escB
 rw [if_neg (by omega), if_neg (by omega), if_pos h]
set_option maxRecDepth 100000 in
set_option maxHeartbeats 4000000 in
theorem breAtom_any {y : World} {gr B0 : Nat} {p : ByteArray} {i : Nat} {fl : Int} {g nn : Nat} {a : Nat → Addr} {m : Int} {deeper : Option (Nat → Nat → PR)} (hG : GroupB a m gr B0 p fl nn deeper) (star : Bool) (h : RdB y gr B0 p i fl g nn) (hp : p.size ≤ 1024) (hi : i < p.size) (hgi : g ≤ i) (hB : B0 ≤ y.heap.size) (hm : ∀ y', Below B0 y y' → B5 y' a m) :
  Calls Tryz.prog 107 #[.pointer (some ⟨gr, 0, none⟩), .bool star] y (EPB a gr B0 p fl nn y (atomB p (!decide (bits .and .i64 fl 2 = 0)) (!decide (bits .and .i64 fl 4 = 0)) deeper star i g)) := by
 have HG := hide hG
 clear hG
 have hz0 := Blk.new y 27 zeroCells
 have hbel := (Below.refl y.heap.size y).alloc (Nat.le_refl _) (.cells zeroCells 27)
 have H0 := hide (And.intro (h.next hbel) (And.intro (RdF.of_below (gr := gr) (x := none) hB hbel) hz0))
 have HB := hide hB
 have HM := hide hm
 have HBW := hide (Nat.le_trans hB hbel.size)
 have HZW := hide (show y.heap.size + 1 ≤ (y.alloc (.cells zeroCells 27)).heap.size from Nat.le_of_eq (World.size_alloc y (.cells zeroCells 27)).symm)
 clear hz0 hbel h hB hm
 unfold zeroCells at *
 obtain ⟨ic, hic⟩ : ∃ ic, ic = !decide (bits .and .i64 fl 2 = 0) := ⟨_, rfl⟩
 obtain ⟨nl, hnl⟩ : ∃ nl, nl = !decide (bits .and .i64 fl 4 = 0) := ⟨_, rfl⟩
 rw [← hic, ← hnl]
 have HIC := hide hic
 have HNL := hide hnl
 clear hic hnl
 obtain ⟨res, hres⟩ : ∃ res, res = atomB p ic nl deeper star i g := ⟨_, rfl⟩
 rw [← hres]
 have HRS := hide hres
 obtain ⟨c, hc⟩ : ∃ c, c = pb p i := ⟨_, rfl⟩
 have hpb : (p[i]'hi).toNat = c := by rw [hc, pb_at hi]
 have hpl : c < 256 := by rw [hc]; exact pb_lt hi
 have HC := hide hc
 clear hres hc
 have c0 := H0.out.1.box.cell
 have f0 := H0.out.1.box.frozen
 go_enter Tryz.func107, Tryz.ntmps107
 go_upto_region 1 with fail
 generalize (y.alloc (.cells #[.int .i64 0, .int .u64 0, .int .u64 0, .int .u64 0, .int .u64 0, .slice none 0 0, .int .i64 0, .int .i64 0, .int .i64 0, .bool false] 27)) = W at *
 have HE1 := hide (show (i : Int) + 1 = ((i + 1 : Nat) : Int) from rfl)
 go_upto_region 4 with fail
 rw [HE1.out]
 clear c0 f0
 have H1 := hide (And.intro (H0.out.1.set 1 (.int .i64 ((i + 1 : Nat) : Int))) (And.intro (H0.out.2.1.set H0.out.1.base 1 (.int .i64 ((i + 1 : Nat) : Int))) (H0.out.2.2.far (blk_ne6 H0.out.2.2 H0.out.1.box (by decide)) (p := ⟨gr, 1, none⟩) (.int .i64 ((i + 1 : Nat) : Int)))))
 have HB1 := hide (show B0 ≤ (W.setCell ⟨gr, 1, none⟩ (.int .i64 ((i + 1 : Nat) : Int))).heap.size from by rw [World.size_setCell]; exact HBW.out)
 generalize (W.setCell ⟨gr, 1, none⟩ (.int .i64 ((i + 1 : Nat) : Int))) = W1 at *
 have HZ1 := hide H1.out.2.2.lt
 clear H0
 by_cases h46 : c = 46
 ·have HE := hide (show res = .ok (bytT (dotS nl)) (i + 1) g from by rw [HRS.out]; unfold atomB; rw [← HC.out, if_pos h46])
  subst h46
  clear HG HRS hpl HC
  have HNt := hide (fun (z : World) => show Calls Tryz.prog 94 #[.agg #[.int .u64 0, .int .u64 0, .int .u64 0, .int .u64 0]] z (SetIs (fun _ => true) z) from by
   have h1 := not_any (fun _ => false) z
   unfold setV at h1
   rw [zeroC] at h1
   exact h1)
  go_wp2_with fail
  refine (HNt.out _).mono ?_
  rintro e w1 ⟨rfl, hb1⟩
  obtain ⟨S, hS⟩ : ∃ S : Nat → Bool, S = fun _ => true := ⟨_, rfl⟩
  rw [← hS]
  have HS := hide hS
  have hb1' := hb1.trans ((Below.refl w1.heap.size w1).alloc (Nat.le_refl _) (.cells #[.int .u64 0, .int .u64 0, .int .u64 0, .int .u64 0] 24) |>.mono hb1.size)
  have H2 := hide (And.intro (H1.out.1.next hb1') (And.intro (H1.out.2.1.next HB1.out hb1') (And.intro (H1.out.2.2.next hb1') (Blk.new w1 24 #[.int .u64 0, .int .u64 0, .int .u64 0, .int .u64 0]))))
  have HZ2 := hide (Nat.lt_of_lt_of_le HZ1.out hb1.size)
  have HB2 := hide (Nat.le_trans HB1.out hb1'.size)
  clear hS hb1 hb1' HNt
  have hlt2 := HZ2.out
  go_upto_region 7 with (refine wpList_store_set rfl _ _ rfl w1.heap.size _ _ rfl rfl H2.out.2.2.2 rfl ?_; intro w2 hrow_w2 hg_w2 hz_w2)
  have H3 := hide (And.intro (H2.out.1.grown hg_w2 (fun e => (blk_ne6 H2.out.2.2.2 H2.out.1.box (by decide)) (Option.some.inj e)) (.inr (H2.out.1.apart H2.out.2.2.2 (by decide)))) (And.intro (H2.out.2.1.grown hg_w2 (fun q hq => by rw [← Option.some.inj hq]; omega) HB.out) (And.intro (H2.out.2.2.1.grown hg_w2 (fun e => by have := Option.some.inj e; omega)) hrow_w2)))
  have HBq := hide (show B0 ≤ w2.heap.size from Nat.le_trans HB2.out (Nat.le_of_eq hz_w2.symm))
  clear hg_w2 hz_w2 hrow_w2 hlt2 H2
  have c3 := H3.out.1.box.cell
  cases nl with
  | false =>
   have hbit : bits .and .i64 fl 4 = 0 := by have := HNL.out; simpa using this
   go_wp2_with (refine wpList_load_set rfl _ rfl w1.heap.size _ rfl H3.out.2.2.2 ?_)
   refine (bytes6_any S _).mono ?_
   rintro e wb ⟨rfl, hbb⟩
   have H4 := hide (And.intro (H3.out.1.next hbb) (And.intro (H3.out.2.1.next HBq.out hbb) (H3.out.2.2.1.next hbb)))
   clear hbb
   go_wp2_with (refine wpList_store_node rfl _ _ rfl y.heap.size _ _ _ _ _ rfl rfl H4.out.2.2 rfl ?_; intro w9 hrow9 hg9 hz9)
   refine bodyPost_ret (node_result rfl _ _ y.heap.size _ _ rfl hrow9) rfl ?_
   exact bok (t := bytT S) (by rw [HE.out, bytT_congr (S := dotS false) (T := S) (fun x hx => by rw [HS.out]; simp [dotS])]) H4.out.1 H4.out.2.1 (T.In_iff.2 trivial) hg9 H4.out.2.2 HB.out
  | true =>
   have hbit : ¬ bits .and .i64 fl 4 = 0 := fun hh => by have := HNL.out; rw [hh] at this; simp at this
   have hbit2 : (bits .and .i64 fl 4 != 0) = true := by rw [bne_iff_ne]; exact hbit
   go_upto_region 8 with fail
   have HOf := hide (of1_any 10 w2.heap.size (w2.alloc (.cells #[.int .u8 10] 5)) (by decide) (Blk.new w2 5 #[.int .u8 10]))
   go_wp2_with fail
   refine HOf.out.mono ?_
   rintro e w4 ⟨rfl, hb4⟩
   have hb4' := ((Below.refl w2.heap.size w2).alloc (Nat.le_refl _) (.cells #[.int .u8 10] 5)).trans (hb4.mono (by simp))
   have H4 := hide (And.intro (H3.out.1.next hb4') (And.intro (H3.out.2.1.next HBq.out hb4') (And.intro (H3.out.2.2.1.next hb4') (H3.out.2.2.2.next hb4'))))
   have HB4 := hide (Nat.le_trans HBq.out hb4'.size)
   clear hb4 hb4' HOf c3
   obtain ⟨TC, hTC⟩ : ∃ TC : Nat → Bool, TC = fun x => decide (x = 10) := ⟨_, rfl⟩
   rw [← hTC]
   have HTC := hide hTC
   clear hTC
   go_wp2_with fail
   refine (not_any TC w4).mono ?_
   rintro e w5 ⟨rfl, hb5⟩
   have H5 := hide (And.intro (H4.out.1.next hb5) (And.intro (H4.out.2.1.next HB4.out hb5) (And.intro (H4.out.2.2.1.next hb5) (H4.out.2.2.2.next hb5))))
   have HB5 := hide (Nat.le_trans HB4.out hb5.size)
   clear hb5
   obtain ⟨TD, hTD⟩ : ∃ TD : Nat → Bool, TD = fun x => !TC x := ⟨_, rfl⟩
   rw [← hTD]
   have HTD := hide hTD
   clear hTD
   have hlt2 := HZ2.out
   go_upto_region 9 with (refine wpList_store_set rfl _ _ rfl w1.heap.size _ _ rfl rfl H5.out.2.2.2 rfl ?_; intro w6 hrow_w6 hg_w6 hz_w6)
   have H6 := hide (And.intro (H5.out.1.grown hg_w6 (fun e => (blk_ne6 H5.out.2.2.2 H5.out.1.box (by decide)) (Option.some.inj e)) (.inr (H5.out.1.apart H5.out.2.2.2 (by decide)))) (And.intro (H5.out.2.1.grown hg_w6 (fun q hq => by rw [← Option.some.inj hq]; omega) HB.out) (And.intro (H5.out.2.2.1.grown hg_w6 (fun e => by have := Option.some.inj e; omega)) hrow_w6)))
   have HB6 := hide (show B0 ≤ w6.heap.size from Nat.le_trans HB5.out (Nat.le_of_eq hz_w6.symm))
   clear hg_w6 hz_w6 hrow_w6 hlt2
   go_wp2_with (refine wpList_load_set rfl _ rfl w1.heap.size _ rfl H6.out.2.2.2 ?_)
   refine (bytes6_any TD _).mono ?_
   rintro e wb ⟨rfl, hbb⟩
   have H7 := hide (And.intro (H6.out.1.next hbb) (And.intro (H6.out.2.1.next HB6.out hbb) (H6.out.2.2.1.next hbb)))
   clear hbb
   go_wp2_with (refine wpList_store_node rfl _ _ rfl y.heap.size _ _ _ _ _ rfl rfl H7.out.2.2 rfl ?_; intro w9 hrow9 hg9 hz9)
   refine bodyPost_ret (node_result rfl _ _ y.heap.size _ _ rfl hrow9) rfl ?_
   exact bok (t := bytT TD) (by rw [HE.out, bytT_congr (S := dotS true) (T := TD) (fun x hx => by rw [HTD.out, HTC.out]; simp [dotS])]) H7.out.1 H7.out.2.1 (T.In_iff.2 trivial) hg9 H7.out.2.2 HB.out
 by_cases h91 : c = 91
 ·have HE := hide (show res = setAt p ic nl i g from by rw [HRS.out]; unfold atomB; rw [← HC.out, if_neg h46, if_pos h91])
  have HRd := hide (fun (y' : World) (hb : B5 y' a m) => readEnd_any p i fl ic nl HIC.out HNL.out hp (by rw [← HC.out, h91]) a m y' hb)
  subst h91
  clear HG HRS hpl
  obtain ⟨r5, hr5⟩ : ∃ r5, r5 = readP p i ic nl := ⟨_, rfl⟩
  rw [← hr5] at HRd
  have HR5 := hide hr5
  clear hr5
  go_upto_region 11 with fail
  go_cut [8, 9, 10] (fun v7 v8 v9 wx => ∃ gb S n ev, v7 = .pointer (some ⟨gb, 0, none⟩) ∧ v8 = .int .i64 n ∧ v9 = ev ∧ W1.heap.size ≤ gb ∧ (RdB wx gr B0 p (i + 1) fl g nn ∧ RdF gr B0 none none y wx ∧ Blk wx y.heap.size 27 #[.int .i64 0, .int .u64 0, .int .u64 0, .int .u64 0, .int .u64 0, .slice none 0 0, .int .i64 0, .int .i64 0, .int .i64 0, .bool false] ∧ Blk wx gb 24 (setC S).toArray) ∧ RdOut r5 a wx S n ev ∧ B0 ≤ wx.heap.size)
  case first =>
   refine wp_region_mix (fun z => Below W1.heap.size W1 z) [] (by kernel_rfl) (fun hcl => ?_)
   generalize hz0 : W1.drew = z0
   have hS : Below W1.heap.size W1 z0 := by rw [← hz0]; exact (Below.refl _ _).drew
   clear hz0
   refine wpAnyT_free (i := 0) hcl rfl (by kernel_rfl) (v := ?_) (fun _ _ _ h => h) hS (Or.inl ⟨rfl, fun w' _ => ?_⟩) (fun hcl => ?_)
   rotate_left
   ·go_simp
    with_reducible rfl
   simp only [List.getElem_toArray, List.getElem_cons_zero, List.getElem_cons_succ, Act.put, List.setIfInBounds_toArray, List.set_cons_zero, List.set_cons_succ]
   refine wpAnyT_free (i := 1) hcl rfl (by kernel_rfl) (v := ?_) (fun _ _ _ h => h) hS (Or.inl ⟨rfl, fun w' _ => ?_⟩) (fun hcl => ?_)
   rotate_left
   ·go_simp
    with_reducible rfl
   simp only [List.getElem_toArray, List.getElem_cons_zero, List.getElem_cons_succ, Act.put, List.setIfInBounds_toArray, List.set_cons_zero, List.set_cons_succ]
   refine wpAnyT_free (i := 2) hcl rfl (by kernel_rfl) (v := ?_) (fun _ _ _ h => h) hS (Or.inl ⟨rfl, fun w' _ => ?_⟩) (fun hcl => ?_)
   rotate_left
   ·go_simp
    with_reducible rfl
   simp only [List.getElem_toArray, List.getElem_cons_zero, List.getElem_cons_succ, Act.put, List.setIfInBounds_toArray, List.set_cons_zero, List.set_cons_succ]
   refine wpAnyT_take (i := 3) hcl rfl (by kernel_rfl) (v := ?_) (fun _ _ _ h => h) hS (Or.inl ⟨rfl, fun w' hS => ?_⟩) (fun hcl => ?_)
   rotate_left
   ·skip
    have cr : ∀ i : Nat, _ = _ := (H1.out.1.next hS).box.cell
    go_simp
    with_reducible rfl
   simp only [List.getElem_toArray, List.getElem_cons_zero, List.getElem_cons_succ, Act.put, List.setIfInBounds_toArray, List.set_cons_zero, List.set_cons_succ]
   refine wpAnyT_free (i := 4) hcl rfl (by kernel_rfl) (v := ?_) (fun _ _ _ h => h) hS (Or.inl ⟨rfl, fun w' _ => ?_⟩) (fun hcl => ?_)
   rotate_left
   ·go_simp
    with_reducible rfl
   simp only [List.getElem_toArray, List.getElem_cons_zero, List.getElem_cons_succ, Act.put, List.setIfInBounds_toArray, List.set_cons_zero, List.set_cons_succ]
   refine wpAnyT_free (i := 5) hcl rfl (by kernel_rfl) (v := ?_) (fun _ _ _ h => h) hS (Or.inl ⟨rfl, fun w' _ => ?_⟩) (fun hcl => ?_)
   rotate_left
   ·go_simp
    with_reducible rfl
   simp only [List.getElem_toArray, List.getElem_cons_zero, List.getElem_cons_succ, Act.put, List.setIfInBounds_toArray, List.set_cons_zero, List.set_cons_succ]
   refine wpAnyT_free (i := 6) hcl rfl (by kernel_rfl) (v := ?_) (fun _ _ _ h => h) hS (Or.inl ⟨rfl, fun w' _ => ?_⟩) (fun hcl => ?_)
   rotate_left
   ·go_simp
    with_reducible rfl
   simp only [List.getElem_toArray, List.getElem_cons_zero, List.getElem_cons_succ, Act.put, List.setIfInBounds_toArray, List.set_cons_zero, List.set_cons_succ]
   refine wpAnyT_free (i := 7) hcl rfl (by kernel_rfl) (v := ?_) (fun _ _ _ h => h) hS (Or.inl ⟨rfl, fun w' _ => ?_⟩) (fun hcl => ?_)
   rotate_left
   ·go_simp
    with_reducible rfl
   simp only [List.getElem_toArray, List.getElem_cons_zero, List.getElem_cons_succ, Act.put, List.setIfInBounds_toArray, List.set_cons_zero, List.set_cons_succ]
   refine wpAnyT_take (i := 8) hcl rfl (by kernel_rfl) (v := ?_) (fun _ _ _ h => h) hS (Or.inl ⟨rfl, fun w' hS => ?_⟩) (fun hcl => ?_)
   rotate_left
   ·skip
    have cr : ∀ i : Nat, _ = _ := (H1.out.1.next hS).box.cell
    go_simp
    with_reducible rfl
   simp only [List.getElem_toArray, List.getElem_cons_zero, List.getElem_cons_succ, Act.put, List.setIfInBounds_toArray, List.set_cons_zero, List.set_cons_succ]
   have HS0 := hide hS
   clear hS
   refine wpAnyT_pick2 (i := 9) (j := 14) hcl rfl rfl (by kernel_rfl) (fun hcl => ?_) (fun hcl => ?_)
   ·simp only [List.getElem_toArray, List.getElem_cons_zero, List.getElem_cons_succ, Act.put, List.setIfInBounds_toArray, List.set_cons_zero, List.set_cons_succ]
    go_wp2_with fail
    refine (HRd.out _ (HM.out _ (H1.out.2.1.next HB1.out HS0.out).below)).mono ?_
    rintro e z1 ⟨S, n, ev, rfl, hro, hb⟩
    have HS1 := hide (HS0.out.trans (hb.mono HS0.out.size))
    have HO := hide hro
    clear hro hb
    go_wp2_with fail
    refine ⟨HS1.out, ?_⟩
    have hS := HS1.out
    refine wpAnyT_free (i := 10) hcl rfl (by kernel_rfl) (v := ?_) (fun _ _ _ h => h) hS (Or.inl ⟨rfl, fun w' _ => ?_⟩) (fun hcl => ?_)
    rotate_left
    ·go_simp
     with_reducible rfl
    simp only [List.getElem_toArray, List.getElem_cons_zero, List.getElem_cons_succ, Act.put, List.setIfInBounds_toArray, List.set_cons_zero, List.set_cons_succ]
    refine wpAnyT_free (i := 11) hcl rfl (by kernel_rfl) (v := ?_) (fun _ _ _ h => h) hS (Or.inl ⟨rfl, fun w' _ => ?_⟩) (fun hcl => ?_)
    rotate_left
    ·go_simp
     with_reducible rfl
    simp only [List.getElem_toArray, List.getElem_cons_zero, List.getElem_cons_succ, Act.put, List.setIfInBounds_toArray, List.set_cons_zero, List.set_cons_succ]
    refine wpAnyT_free (i := 12) hcl rfl (by kernel_rfl) (v := ?_) (fun _ _ _ h => h) hS (Or.inl ⟨rfl, fun w' _ => ?_⟩) (fun hcl => ?_)
    rotate_left
    ·go_simp
     with_reducible rfl
    simp only [List.getElem_toArray, List.getElem_cons_zero, List.getElem_cons_succ, Act.put, List.setIfInBounds_toArray, List.set_cons_zero, List.set_cons_succ]
    refine wpAnyT_free (i := 13) hcl rfl (by kernel_rfl) (v := ?_) (fun _ _ _ h => h) hS (Or.inl ⟨rfl, fun w' _ => ?_⟩) (fun hcl => ?_)
    rotate_left
    ·go_simp
     with_reducible rfl
    simp only [List.getElem_toArray, List.getElem_cons_zero, List.getElem_cons_succ, Act.put, List.setIfInBounds_toArray, List.set_cons_zero, List.set_cons_succ]
    clear hS
    refine wpAnyT_step (i := 14) hcl rfl (by kernel_rfl) (fun hcl => ?_)
    simp only [List.getElem_toArray, List.getElem_cons_zero, List.getElem_cons_succ, Act.put, List.setIfInBounds_toArray, List.set_cons_zero, List.set_cons_succ]
    go_wp2_with fail
    have HS2 := hide (HS1.out.alloc HS1.out.size (.cells #[.int .u64 0, .int .u64 0, .int .u64 0, .int .u64 0] 24))
    refine ⟨HS2.out, ?_⟩
    have HBX := hide (Blk.new z1 24 #[.int .u64 0, .int .u64 0, .int .u64 0, .int .u64 0])
    have HG := hide (HS1.out.size)
    replace HO := hide (HO.out.next ((Below.refl z1.heap.size z1).alloc (Nat.le_refl _) (.cells #[.int .u64 0, .int .u64 0, .int .u64 0, .int .u64 0] 24)))
    generalize (z1.alloc (.cells #[.int .u64 0, .int .u64 0, .int .u64 0, .int .u64 0] 24)) = z2 at *
    generalize z1.heap.size = gb at *
    refine wpAnyT_step (i := 15) hcl rfl (by kernel_rfl) (fun hcl => ?_)
    simp only [List.getElem_toArray, List.getElem_cons_zero, List.getElem_cons_succ, Act.put, List.setIfInBounds_toArray, List.set_cons_zero, List.set_cons_succ]
    refine wpList_store_set rfl _ _ rfl gb _ _ rfl rfl HBX.out rfl ?_
    intro w8 hrow hg9 hz9
    refine wpList_nil ?_
    have HGy := HG.out
    have hltR := HZ1.out
    have hb9 := HS2.out
    have q1 := RdG.next H1.out.1 hb9
    have q2 := H1.out.2.1.next HB1.out hb9
    have q3 := H1.out.2.2.next hb9
    have HF := hide (And.intro (q1.grown hg9 (fun e => (blk_ne6 HBX.out q1.box (by decide)) (Option.some.inj e)) (.inr (q1.apart HBX.out (by decide)))) (And.intro (q2.grown hg9 (fun q hq => by rw [← Option.some.inj hq]; omega) HB.out) (And.intro (q3.grown hg9 (fun e => by have := Option.some.inj e; omega)) (And.intro hrow (And.intro (HO.out.grown hg9 HBX.out (by decide)) (show B0 ≤ w8.heap.size from Nat.le_trans HB1.out (Nat.le_trans hb9.size (Nat.le_of_eq hz9.symm))))))))
    have hS : Below W1.heap.size W1 w8 := below_grew hb9 hg9 (Nat.le_refl _) (fun q hq => by rw [← Option.some.inj hq]; omega)
    refine ⟨hS, ?_⟩
    clear hrow hg9 hz9 HGy hltR hb9 q1 q2 q3
    refine wpAnyT_free (i := 16) hcl rfl (by kernel_rfl) (v := ?_) (fun _ _ _ h => h) hS (Or.inl ⟨rfl, fun w' _ => ?_⟩) (fun hcl => ?_)
    rotate_left
    ·go_simp
     with_reducible rfl
    simp only [List.getElem_toArray, List.getElem_cons_zero, List.getElem_cons_succ, Act.put, List.setIfInBounds_toArray, List.set_cons_zero, List.set_cons_succ]
    refine wpAnyT_free (i := 17) hcl rfl (by kernel_rfl) (v := ?_) (fun _ _ _ h => h) hS (Or.inl ⟨rfl, fun w' _ => ?_⟩) (fun hcl => ?_)
    rotate_left
    ·go_simp
     with_reducible rfl
    simp only [List.getElem_toArray, List.getElem_cons_zero, List.getElem_cons_succ, Act.put, List.setIfInBounds_toArray, List.set_cons_zero, List.set_cons_succ]
    clear hS
    refine wpAnyT_done (by kernel_rfl) ?_ _
    go_wp2_with fail
    go_meet
    case rel => exact ⟨_, _, _, _, rfl, rfl, rfl, HG.out, ⟨HF.out.1, HF.out.2.1, HF.out.2.2.1, HF.out.2.2.2.1⟩, HF.out.2.2.2.2.1, HF.out.2.2.2.2.2⟩
   ·simp only [List.getElem_toArray, List.getElem_cons_zero, List.getElem_cons_succ, Act.put, List.setIfInBounds_toArray, List.set_cons_zero, List.set_cons_succ]
    go_wp2_with fail
    have HS1 := hide (HS0.out.alloc HS0.out.size (.cells #[.int .u64 0, .int .u64 0, .int .u64 0, .int .u64 0] 24))
    refine ⟨HS1.out, ?_⟩
    have HBX := hide (Blk.new z0 24 #[.int .u64 0, .int .u64 0, .int .u64 0, .int .u64 0])
    have HG := hide (HS0.out.size)
    generalize (z0.alloc (.cells #[.int .u64 0, .int .u64 0, .int .u64 0, .int .u64 0] 24)) = z1 at *
    generalize z0.heap.size = gb at *
    refine wpAnyT_step (i := 9) hcl rfl (by kernel_rfl) (fun hcl => ?_)
    simp only [List.getElem_toArray, List.getElem_cons_zero, List.getElem_cons_succ, Act.put, List.setIfInBounds_toArray, List.set_cons_zero, List.set_cons_succ]
    go_wp2_with fail
    refine (HRd.out _ (HM.out _ (H1.out.2.1.next HB1.out HS1.out).below)).mono ?_
    rintro e z2 ⟨S, n, ev, rfl, hro, hb⟩
    have HS2 := hide (HS1.out.trans (hb.mono HS1.out.size))
    have HO := hide hro
    replace HBX := hide (HBX.out.next hb)
    clear hro hb
    go_wp2_with fail
    refine ⟨HS2.out, ?_⟩
    have hS := HS2.out
    refine wpAnyT_free (i := 10) hcl rfl (by kernel_rfl) (v := ?_) (fun _ _ _ h => h) hS (Or.inl ⟨rfl, fun w' _ => ?_⟩) (fun hcl => ?_)
    rotate_left
    ·go_simp
     with_reducible rfl
    simp only [List.getElem_toArray, List.getElem_cons_zero, List.getElem_cons_succ, Act.put, List.setIfInBounds_toArray, List.set_cons_zero, List.set_cons_succ]
    refine wpAnyT_free (i := 11) hcl rfl (by kernel_rfl) (v := ?_) (fun _ _ _ h => h) hS (Or.inl ⟨rfl, fun w' _ => ?_⟩) (fun hcl => ?_)
    rotate_left
    ·go_simp
     with_reducible rfl
    simp only [List.getElem_toArray, List.getElem_cons_zero, List.getElem_cons_succ, Act.put, List.setIfInBounds_toArray, List.set_cons_zero, List.set_cons_succ]
    refine wpAnyT_free (i := 12) hcl rfl (by kernel_rfl) (v := ?_) (fun _ _ _ h => h) hS (Or.inl ⟨rfl, fun w' _ => ?_⟩) (fun hcl => ?_)
    rotate_left
    ·go_simp
     with_reducible rfl
    simp only [List.getElem_toArray, List.getElem_cons_zero, List.getElem_cons_succ, Act.put, List.setIfInBounds_toArray, List.set_cons_zero, List.set_cons_succ]
    refine wpAnyT_free (i := 13) hcl rfl (by kernel_rfl) (v := ?_) (fun _ _ _ h => h) hS (Or.inl ⟨rfl, fun w' _ => ?_⟩) (fun hcl => ?_)
    rotate_left
    ·go_simp
     with_reducible rfl
    simp only [List.getElem_toArray, List.getElem_cons_zero, List.getElem_cons_succ, Act.put, List.setIfInBounds_toArray, List.set_cons_zero, List.set_cons_succ]
    clear hS
    refine wpAnyT_step (i := 15) hcl rfl (by kernel_rfl) (fun hcl => ?_)
    simp only [List.getElem_toArray, List.getElem_cons_zero, List.getElem_cons_succ, Act.put, List.setIfInBounds_toArray, List.set_cons_zero, List.set_cons_succ]
    refine wpList_store_set rfl _ _ rfl gb _ _ rfl rfl HBX.out rfl ?_
    intro w8 hrow hg9 hz9
    refine wpList_nil ?_
    have HGy := HG.out
    have hltR := HZ1.out
    have hb9 := HS2.out
    have q1 := RdG.next H1.out.1 hb9
    have q2 := H1.out.2.1.next HB1.out hb9
    have q3 := H1.out.2.2.next hb9
    have HF := hide (And.intro (q1.grown hg9 (fun e => (blk_ne6 HBX.out q1.box (by decide)) (Option.some.inj e)) (.inr (q1.apart HBX.out (by decide)))) (And.intro (q2.grown hg9 (fun q hq => by rw [← Option.some.inj hq]; omega) HB.out) (And.intro (q3.grown hg9 (fun e => by have := Option.some.inj e; omega)) (And.intro hrow (And.intro (HO.out.grown hg9 HBX.out (by decide)) (show B0 ≤ w8.heap.size from Nat.le_trans HB1.out (Nat.le_trans hb9.size (Nat.le_of_eq hz9.symm))))))))
    have hS : Below W1.heap.size W1 w8 := below_grew hb9 hg9 (Nat.le_refl _) (fun q hq => by rw [← Option.some.inj hq]; omega)
    refine ⟨hS, ?_⟩
    clear hrow hg9 hz9 HGy hltR hb9 q1 q2 q3
    refine wpAnyT_free (i := 16) hcl rfl (by kernel_rfl) (v := ?_) (fun _ _ _ h => h) hS (Or.inl ⟨rfl, fun w' _ => ?_⟩) (fun hcl => ?_)
    rotate_left
    ·go_simp
     with_reducible rfl
    simp only [List.getElem_toArray, List.getElem_cons_zero, List.getElem_cons_succ, Act.put, List.setIfInBounds_toArray, List.set_cons_zero, List.set_cons_succ]
    refine wpAnyT_free (i := 17) hcl rfl (by kernel_rfl) (v := ?_) (fun _ _ _ h => h) hS (Or.inl ⟨rfl, fun w' _ => ?_⟩) (fun hcl => ?_)
    rotate_left
    ·go_simp
     with_reducible rfl
    simp only [List.getElem_toArray, List.getElem_cons_zero, List.getElem_cons_succ, Act.put, List.setIfInBounds_toArray, List.set_cons_zero, List.set_cons_succ]
    clear hS
    refine wpAnyT_done (by kernel_rfl) ?_ _
    go_wp2_with fail
    go_meet
    case rel => exact ⟨_, _, _, _, rfl, rfl, rfl, HG.out, ⟨HF.out.1, HF.out.2.1, HF.out.2.2.1, HF.out.2.2.2.1⟩, HF.out.2.2.2.2.1, HF.out.2.2.2.2.2⟩
  case rest =>
  rename World => W3
  obtain ⟨gb, S, n, ev, hv7, hv8, hv9, hgb, hst, hro, hbx⟩ := hcut
  subst hv7 hv8 hv9
  have H3 := hide hst
  have HBq := hide hbx
  have c3 := H3.out.1.box.cell
  have f3 := H3.out.1.box.frozen
  have HZ3 := hide (Nat.lt_of_lt_of_le HZ1.out hgb)
  clear hst hbx HRd hgb
  unfold setAt at HE
  rw [← HR5.out] at HE
  cases r5 with
  | good S' n' =>
   obtain ⟨rfl, rfl, rfl⟩ := hro
   have HE2 := hide (show res = .ok (bytT S) n' g from HE.out)
   have hn0 := fun w => run_neq_nil_nil_at (P := Tryz.prog) (w := w) 32 Tryz.isIfaceErr6
   clear HE
   go_upto_region 15 with fail
   clear c3 f3 hn0
   have H4 := hide (And.intro (H3.out.1.set 1 (.int .i64 ((n' : Nat) : Int))) (And.intro (H3.out.2.1.set H3.out.1.base 1 (.int .i64 ((n' : Nat) : Int))) (And.intro (H3.out.2.2.1.far (blk_ne6 H3.out.2.2.1 H3.out.1.box (by decide)) (p := ⟨gr, 1, none⟩) (.int .i64 ((n' : Nat) : Int))) (H3.out.2.2.2.far (blk_ne6 H3.out.2.2.2 H3.out.1.box (by decide)) (p := ⟨gr, 1, none⟩) (.int .i64 ((n' : Nat) : Int))))))
   have HBz := hide (show B0 ≤ (W3.setCell ⟨gr, 1, none⟩ (.int .i64 ((n' : Nat) : Int))).heap.size from by rw [World.size_setCell]; exact HBq.out)
   generalize (W3.setCell ⟨gr, 1, none⟩ (.int .i64 ((n' : Nat) : Int))) = W4 at *
   go_wp2_with (refine wpList_load_set rfl _ rfl gb _ rfl H4.out.2.2.2 ?_)
   refine (bytes6_any S _).mono ?_
   rintro e wb ⟨rfl, hbb⟩
   have H5 := hide (And.intro (H4.out.1.next hbb) (And.intro (H4.out.2.1.next HBz.out hbb) (H4.out.2.2.1.next hbb)))
   clear hbb
   go_wp2_with (refine wpList_store_node rfl _ _ rfl y.heap.size _ _ _ _ _ rfl rfl H5.out.2.2 rfl ?_; intro w9 hrow9 hg9 hz9)
   refine bodyPost_ret (node_result rfl _ _ y.heap.size _ _ rfl hrow9) rfl ?_
   exact bok (t := bytT S) HE2.out H5.out.1 H5.out.2.1 (T.In_iff.2 trivial) hg9 H5.out.2.2 HB.out
  | bad cd pl =>
   obtain ⟨gf, rfl, hfi⟩ := hro
   have HE2 := hide (show res = .bad cd pl from HE.out)
   have HFi := hide hfi
   have hn0 := fun w => run_neq_iface_nil (P := Tryz.prog) (w := w) 32 Tryz.isIfaceErr6 83 (.pointer (some ⟨gf, 0, none⟩))
   clear HE hfi
   unfold faultV
   go_wp2_with fail
   refine ⟨rfl, ?_⟩
   exact bbad HE2.out ⟨gf, rfl, HFi.out, H3.out.2.1⟩
 by_cases h92 : c = 92
 ·have HE := hide (show res = escB p ic deeper i g from by rw [HRS.out]; exact atomB_esc (by rw [← HC.out]; exact h92))
  have hes := breEscaped_any HG.out H1.out.1 rfl hp hi hgi HB1.out (fun y' hy => HM.out y' (H1.out.2.1.below.trans hy))
  rw [← HIC.out] at hes
  have HEs := hide hes
  subst h92
  clear HG HRS hpl hes
  go_wp2_with fail
  refine HEs.out.mono ?_
  intro e wg hz
  obtain ⟨r4, hr4⟩ : ∃ r4, r4 = escB p ic deeper i g := ⟨_, rfl⟩
  rw [← hr4] at hz HE
  clear hr4 HEs
  cases r4 with
  | bad c pl =>
   have HPn := hide (PanB.from hz H1.out.2.1)
   obtain ⟨gf, rfl, hfi, hff⟩ := hz
   clear hfi hff
   unfold faultV
   go_wp2_with fail
   refine ⟨rfl, ?_⟩
   exact bbad HE.out HPn.out
  | ok t j h =>
   obtain ⟨B, cc, rfl, hin, hE, hF⟩ := hz
   have H6 := hide (And.intro hE (And.intro (H1.out.2.1.trans hF) (hF.blk_ H1.out.2.2 (blk_ne6 H1.out.2.2 H1.out.1.box (by decide)) (by simp))))
   have HT := hide (show T.In wg (fun b => y.heap.size + 1 ≤ b ∧ b < wg.heap.size ∧ (Value.slice none 0 0).ownBlock ≠ some b) t B from hin.same (Same.refl _ _) fun b hb => ⟨by have h1 := hb.1; have h2 := HZ1.out; omega, hb.2, fun e => by cases e⟩)
   clear hin hE hF
   go_wp2_with (refine wpList_store_node rfl _ _ rfl y.heap.size _ _ _ _ _ rfl rfl H6.out.2.2 rfl ?_; intro w9 hrow9 hg9 hz9)
   refine bodyPost_ret (node_result rfl _ _ y.heap.size _ _ rfl hrow9) rfl ?_
   exact bok (t := t) HE.out H6.out.1 H6.out.2.1 HT.out hg9 H6.out.2.2 HB.out
 have g46 : ((c : Int) == 46) = false := by rw [beq_eq_false_iff_ne]; omega
 have g91 : ((c : Int) == 91) = false := by rw [beq_eq_false_iff_ne]; omega
 have g92 : ((c : Int) == 92) = false := by rw [beq_eq_false_iff_ne]; omega
 by_cases h42 : c = 42
 ·cases star with
  | false =>
   have HE := hide (show res = .bad 8 (i : Int) from by rw [HRS.out]; unfold atomB; rw [← HC.out, if_neg h46, if_neg h91, if_neg h92, if_pos ⟨h42, rfl⟩])
   subst h42
   have ceq := (HM.out _ H1.out.2.1.below).errs.var 11 (by decide)
   go_wp2_with fail
   refine (breFail_any (gr := gr) (B0 := B0) HB1.out a 8 (i : Int)).mono ?_
   rintro e wf ⟨gf, rfl, hfi, hff⟩
   have HFi := hide (And.intro hfi (H1.out.2.1.trans hff))
   clear ceq hfi hff
   unfold faultV
   go_wp2_with fail
   refine ⟨rfl, ?_⟩
   exact bbad HE.out ⟨gf, rfl, HFi.out.1, HFi.out.2⟩
  | true =>
   have HE := hide (show res = .ok (bytT (oneS ic c)) (i + 1) g from by rw [HRS.out]; unfold atomB; rw [← HC.out, if_neg h46, if_neg h91, if_neg h92, if_neg (fun h => by cases h.2)])
   subst h42
   have hone := breOne_any H1.out.1.box 42 hpl
   rw [← HIC.out] at hone
   have HO1 := hide hone
   clear hone
   go_wp2_with fail
   refine HO1.out.mono ?_
   rintro e wo ⟨rfl, hb6⟩
   have H7 := hide (And.intro (H1.out.1.next hb6) (And.intro (H1.out.2.1.next HB1.out hb6) (H1.out.2.2.next hb6)))
   clear hb6 HO1
   go_wp2_with (refine wpList_store_node rfl _ _ rfl y.heap.size _ _ _ _ _ rfl rfl H7.out.2.2 rfl ?_; intro w9 hrow9 hg9 hz9)
   refine bodyPost_ret (node_result rfl _ _ y.heap.size _ _ rfl hrow9) rfl ?_
   exact bok (t := bytT (oneS ic 42)) HE.out H7.out.1 H7.out.2.1 (T.In_iff.2 trivial) hg9 H7.out.2.2 HB.out
 have HE := hide (show res = .ok (bytT (oneS ic c)) (i + 1) g from by rw [HRS.out]; unfold atomB; rw [← HC.out, if_neg h46, if_neg h91, if_neg h92, if_neg (fun h => h42 h.1)])
 have g42 : ((c : Int) == 42) = false := by rw [beq_eq_false_iff_ne]; omega
 have hone := breOne_any H1.out.1.box c hpl
 rw [← HIC.out] at hone
 have HO1 := hide hone
 clear hone
 go_wp2_with fail
 refine HO1.out.mono ?_
 rintro e wo ⟨rfl, hb6⟩
 have H7 := hide (And.intro (H1.out.1.next hb6) (And.intro (H1.out.2.1.next HB1.out hb6) (H1.out.2.2.next hb6)))
 clear hb6 HO1
 go_wp2_with (refine wpList_store_node rfl _ _ rfl y.heap.size _ _ _ _ _ rfl rfl H7.out.2.2 rfl ?_; intro w9 hrow9 hg9 hz9)
 refine bodyPost_ret (node_result rfl _ _ y.heap.size _ _ rfl hrow9) rfl ?_
 exact bok (t := bytT (oneS ic c)) HE.out H7.out.1 H7.out.2.1 (T.In_iff.2 trivial) hg9 H7.out.2.2 HB.out
end Go.Proofs.YtpkcklpjbeginaaGreatDoor

/-! ## BreP -/
namespace Go.Proofs.YtpkcklpjbeginaaGreatDoor
open Go.RowKit

/-- What the pattern within a group keeps. -/
def DFine (p : ByteArray) (deeper : Option (Nat → Nat → PR)) : Prop := ∀ f, deeper = some f → (∀ i g, i ≤ p.size → (f i g).Fine p i g 0) ∧ ∀ i g t j h, f i g = .ok t j h → j < p.size → j + 2 ≤ p.size
theorem atomB_fine {p : ByteArray} {ic nl : Bool} {deeper : Option (Nat → Nat → PR)} (hd : DFine p deeper) (star : Bool) {i g : Nat} (hi : i < p.size) : (atomB p ic nl deeper star i g).Fine p i g 1 := by
 have h1 : ∀ S : Nat → Bool, (PR.ok (bytT S) (i + 1) g).Fine p i g 1 := fun S => by
  simp only [PR.Fine, bytT, T.nodes, TL.nodes]; omega
 unfold atomB
 split
 ·exact h1 _
 ·split
  ·exact setAt_fine p ic nl i g
  ·split
   ·split
    ·rename_i hc
     split
     ·exact groupP_fine (by decide) (fun f hf i g hi => (hd f hf).1 i g hi) (by omega) (fun f j h t e hf hj => (hd f e).2 _ _ t j h hf hj)
     ·split
      ·trivial
      ·split
       ·trivial
       ·split
        ·trivial
        ·simp only [PR.Fine, bytT, T.nodes, TL.nodes]; omega
    ·trivial
   ·split
    ·trivial
    ·exact h1 _
theorem pieceB_fine {p : ByteArray} {ic nl : Bool} {deeper : Option (Nat → Nat → PR)} (hd : DFine p deeper) (star : Bool) {i g : Nat} (hi : i < p.size) : (pieceB p ic nl deeper star i g).Fine p i g 1 := by
 unfold pieceB
 have h := atomB_fine (ic := ic) (nl := nl) hd star (g := g) hi
 cases ha : atomB p ic nl deeper star i g with
 | bad c pl => trivial
 | ok t j h2 =>
  rw [ha] at h
  exact withRep_fine (fun a b n e => repB_next e) h
theorem pattB_fine {p : ByteArray} {ic nl : Bool} {deeper : Option (Nat → Nat → PR)} {deep : Bool} (hd : DFine p deeper) : ∀ (n : Nat) (front star : Bool) (i g : Nat) (acc : List T) (t : T) (j h : Nat), i ≤ p.size → pattB p ic nl deeper deep n front star i g acc = .ok t j h → i ≤ j ∧ j ≤ p.size ∧ g ≤ h ∧ h ≤ g + (j - i) ∧ t.nodes ≤ 1 + TL.nodes acc + 4 * (j - i)
 | 0, front, star, i, g, acc, t, j, h, _, e => by cases e
 | n + 1, front, star, i, g, acc, t, j, h, hi, e => by
  have hs := seq_nodes acc
  rw [pattB] at e
  split at e
  ·injection e with e1 e2 e3
   subst e1 e2 e3
   omega
  ·split at e
   ·rename_i hc
    have h2 := pattB_fine hd n _ _ _ _ _ t j h (by have := pb_ins hc.2 (by decide); omega) e
    rw [TL.nodes_snoc] at h2
    have h3 := pb_ins hc.2 (by decide)
    simp only [begT, T.nodes, TL.nodes] at h2
    omega
   ·split at e
    ·rename_i hc
     have h3 := pb_ins hc.1 (by decide)
     have h2 := pattB_fine hd n _ _ _ _ _ t j h (by omega) e
     rw [TL.nodes_snoc] at h2
     simp only [endT, T.nodes, TL.nodes] at h2
     omega
    ·have hp := pieceB_fine (ic := ic) (nl := nl) hd star (i := i) (g := g) (by omega)
     cases ha : pieceB p ic nl deeper star i g with
     | bad c pl => rw [ha] at e; cases e
     | ok u k q =>
      rw [ha] at e hp
      simp only [PR.Fine] at hp
      have h2 := pattB_fine hd n _ _ k q (acc ++ [u]) t j h (by omega) e
      rw [TL.nodes_snoc] at h2
      omega
theorem pattB_end {p : ByteArray} {ic nl : Bool} {deeper : Option (Nat → Nat → PR)} {deep : Bool} : ∀ (n : Nat) (front star : Bool) (i g : Nat) (acc : List T) (t : T) (j h : Nat), pattB p ic nl deeper deep n front star i g acc = .ok t j h → ¬ j < p.size ∨ (deep = true ∧ pb p j = 92 ∧ pb p (j + 1) = 41)
 | 0, front, star, i, g, acc, t, j, h, e => by cases e
 | n + 1, front, star, i, g, acc, t, j, h, e => by
  rw [pattB] at e
  split at e
  ·rename_i hc
   injection e with e1 e2 e3
   rw [← e2]; exact hc
  ·split at e
   ·exact pattB_end n _ _ _ _ _ t j h e
   ·split at e
    ·exact pattB_end n _ _ _ _ _ t j h e
    ·split at e
     ·cases e
     ·exact pattB_end n _ _ _ _ _ t j h e
theorem pattB_fineR {p : ByteArray} {ic nl : Bool} {deeper : Option (Nat → Nat → PR)} {deep : Bool} (hd : DFine p deeper) (i g : Nat) (hi : i ≤ p.size) : (pattB p ic nl deeper deep (p.size + 1) true true i g []).Fine p i g 0 := by
 cases hr : pattB p ic nl deeper deep (p.size + 1) true true i g [] with
 | bad c pl => trivial
 | ok t j h =>
  have h1 := pattB_fine hd _ _ _ _ _ _ _ _ _ hi hr
  simp only [PR.Fine]
  simp only [TL.nodes] at h1
  omega
theorem deepB_fine {p : ByteArray} {ic nl : Bool} : ∀ (k : Nat) (d : Bool) (i g : Nat), i ≤ p.size → (deepB p ic nl k d i g).Fine p i g 0
 | 0, d, i, g, hi => by rw [deepB]; exact pattB_fineR (fun f hf => by cases hf) i g hi
 | k + 1, d, i, g, hi => by
  rw [deepB]
  exact pattB_fineR (fun f hf => by
   injection hf with hf
   subst hf
   exact ⟨fun i g hi => deepB_fine k true i g hi, fun i g t j h e hj => by
    have h1 : ¬ j < p.size ∨ (true = true ∧ pb p j = 92 ∧ pb p (j + 1) = 41) := by
     cases k <;> rw [deepB] at e <;> exact pattB_end _ _ _ _ _ _ _ _ _ e
    have h2 := h1.resolve_left (fun hh => hh hj)
    have := pb_ins h2.2.2 (by decide)
    omega⟩) i g hi
theorem deepB_dfine {p : ByteArray} {ic nl : Bool} (k : Nat) : DFine p (some (deepB p ic nl k true)) := fun f hf => by
 injection hf with hf
 subst hf
 exact ⟨fun i g hi => deepB_fine k true i g hi, fun i g t j h e hj => by
  have h1 : ¬ j < p.size ∨ (true = true ∧ pb p j = 92 ∧ pb p (j + 1) = 41) := by
   cases k <;> rw [deepB] at e <;> exact pattB_end _ _ _ _ _ _ _ _ _ e
  have h2 := h1.resolve_left (fun hh => hh hj)
  have := pb_ins h2.2.2 (by decide)
  omega⟩
end Go.Proofs.YtpkcklpjbeginaaGreatDoor

/-! ## BreE -/
namespace Go.Proofs.YtpkcklpjbeginaaGreatDoor
open Go.RowKit

/-- The contract of pattern. -/
def PattB (a : Nat → Addr) (m : Int) (gr B0 : Nat) (p : ByteArray) (fl : Int) (n : Nat) (f : Nat → Nat → PR) : Prop :=
 ∀ (y : World) (i g : Nat), RdB y gr B0 p i fl g n → i ≤ p.size → g ≤ i → B0 ≤ y.heap.size → (∀ y', Below B0 y y' → B5 y' a m) → Calls Tryz.prog 43 #[.pointer (some ⟨gr, 0, none⟩)] y (EPB a gr B0 p fl n y (f i g))
set_option maxRecDepth 100000 in
set_option maxHeartbeats 4000000 in
theorem breGroup_any {gr B0 : Nat} {p : ByteArray} {fl : Int} {n : Nat} {a : Nat → Addr} {m : Int} {deeper : Option (Nat → Nat → PR)} (hn : n ≤ 32) (hp : p.size ≤ 1024)
  (hD : (deeper = none ∧ n = 32) ∨ ∃ f, deeper = some f ∧ n < 32 ∧ PattB a m gr B0 p fl (n + 1) f ∧ ∀ i g, i ≤ p.size → (f i g).Fine p i g 0) : GroupB a m gr B0 p fl n deeper := by
 intro y i g h hi hgi hB hm
 have hz0 := Blk.new y 27 zeroCells
 have hbel := (Below.refl y.heap.size y).alloc (Nat.le_refl _) (.cells zeroCells 27)
 have H0 := hide (And.intro (h.next hbel) (And.intro (RdF.of_below (gr := gr) (x := none) hB hbel) hz0))
 have HB := hide hB
 have HM := hide hm
 have HBW := hide (Nat.le_trans hB hbel.size)
 have HZW := hide (show y.heap.size + 1 ≤ (y.alloc (.cells zeroCells 27)).heap.size from Nat.le_of_eq (World.size_alloc y (.cells zeroCells 27)).symm)
 clear hz0 hbel h hB hm
 unfold zeroCells at *
 obtain ⟨res, hres⟩ : ∃ res, res = groupP p 2 deeper i g := ⟨_, rfl⟩
 rw [← hres]
 have HRS := hide hres
 clear hres
 have c0 := H0.out.1.box.cell
 have f0 := H0.out.1.box.frozen
 have HD := hide hD
 clear hD
 go_enter Tryz.func150, Tryz.ntmps150
 go_upto_region 1 with fail
 generalize (y.alloc (.cells #[.int .i64 0, .int .u64 0, .int .u64 0, .int .u64 0, .int .u64 0, .slice none 0 0, .int .i64 0, .int .i64 0, .int .i64 0, .bool false] 27)) = W at *
 rcases HD.out with ⟨hdn, rfl⟩ | ⟨f, hdf, hd32, hpat, hfine⟩
 ·have HE := hide (show res = .bad 10 (i : Int) from by rw [HRS.out, hdn]; rfl)
  have ceq := (HM.out _ H0.out.2.1.below).errs.var 1 (by decide)
  go_wp2_with fail
  refine (breFail_any (gr := gr) (B0 := B0) HBW.out a 10 (i : Int)).mono ?_
  rintro e wf ⟨gf, rfl, hfi, hff⟩
  have HFi := hide (And.intro hfi (H0.out.2.1.trans hff))
  clear ceq hfi hff
  unfold faultV
  go_wp2_with fail
  refine ⟨rfl, ?_⟩
  exact bbad HE.out ⟨gf, rfl, HFi.out.1, HFi.out.2⟩
 ·have g32 : ((n : Int) == 32) = false := by rw [beq_eq_false_iff_ne]; omega
  have HP := hide (And.intro hpat hfine)
  have HRS2 := hide (show res = (match f (i + 2) (g + 1) with
   | .bad c pl => .bad c pl
   | .ok t j h => if j < p.size then .ok (grpT ((g + 1 : Nat) : Int) t) (j + 2) h else .bad 1 i) from by rw [HRS.out, hdf]; rfl)
  obtain ⟨n1, hn1⟩ : ∃ n1, n1 = n + 1 := ⟨_, rfl⟩
  rw [← hn1] at HP
  clear HRS HD hdf hpat hfine
  have HN1 := hide (show (n : Int) + 1 = (n1 : Int) from by omega)
  have HN2 := hide (show (n1 : Int) - 1 = (n : Int) from by omega)
  have hn33 : n1 ≤ 33 := by omega
  clear hn1
  have HG1 := hide (show (g : Int) + 1 = ((g + 1 : Nat) : Int) from rfl)
  go_upto_region 4 with fail
  rw [HN1.out]
  clear c0 f0
  have H1 := hide (And.intro (H0.out.1.set 4 (.int .i64 (n1 : Int))) (And.intro (H0.out.2.1.set H0.out.1.base 4 (.int .i64 (n1 : Int))) (H0.out.2.2.far (blk_ne6 H0.out.2.2 H0.out.1.box (by decide)) (p := ⟨gr, 4, none⟩) (.int .i64 (n1 : Int)))))
  have HB1 := hide (show B0 ≤ (W.setCell ⟨gr, 4, none⟩ (.int .i64 (n1 : Int))).heap.size from by rw [World.size_setCell]; exact HBW.out)
  generalize (W.setCell ⟨gr, 4, none⟩ (.int .i64 (n1 : Int))) = W1 at *
  have c0 := H1.out.1.box.cell
  have f0 := H1.out.1.box.frozen
  go_upto_region 5 with fail
  rw [HG1.out]
  clear c0 f0
  have H2 := hide (And.intro (H1.out.1.set 3 (.int .i64 ((g + 1 : Nat) : Int))) (And.intro (H1.out.2.1.set H1.out.1.base 3 (.int .i64 ((g + 1 : Nat) : Int))) (H1.out.2.2.far (blk_ne6 H1.out.2.2 H1.out.1.box (by decide)) (p := ⟨gr, 3, none⟩) (.int .i64 ((g + 1 : Nat) : Int)))))
  have HB2 := hide (show B0 ≤ (W1.setCell ⟨gr, 3, none⟩ (.int .i64 ((g + 1 : Nat) : Int))).heap.size from by rw [World.size_setCell]; exact HB1.out)
  generalize (W1.setCell ⟨gr, 3, none⟩ (.int .i64 ((g + 1 : Nat) : Int))) = W2 at *
  have c0 := H2.out.1.box.cell
  have f0 := H2.out.1.box.frozen
  have HZ2 := hide H2.out.2.2.lt
  have HPt := hide (HP.out.1 W2 (i + 2) (g + 1) H2.out.1 hi (by omega) HB2.out (fun y' hy => HM.out y' (H2.out.2.1.below.trans hy)))
  have HFn := hide (HP.out.2 (i + 2) (g + 1) hi)
  clear HP H0 H1
  go_upto_region 6 with fail
  clear c0 f0
  go_wp2_with fail
  refine HPt.out.mono ?_
  intro e z hz
  clear HPt
  cases hq : f (i + 2) (g + 1) with
  | bad c pl =>
   rw [hq] at hz HRS2
   have HE := hide (show res = .bad c pl from HRS2.out)
   have HPn := hide (PanB.from hz H2.out.2.1)
   obtain ⟨gf, rfl, hfi, hff⟩ := hz
   clear hfi hff
   unfold faultV
   go_wp2_with fail
   refine ⟨rfl, ?_⟩
   exact bbad HE.out HPn.out
  | ok t j q =>
   rw [hq] at hz HRS2 HFn
   obtain ⟨B, cc, rfl, hin, hE, hF⟩ := hz
   have hfn := HFn.out
   simp only [PR.Fine] at hfn
   have hjp : j ≤ p.size := hfn.2.1
   have hnd : t.nodes ≤ 100000 := by omega
   have hal := (Below.refl z.heap.size z).alloc (Nat.le_refl _) (.cells #[.int .i64 t.hd.kind, .int .u64 t.hd.s0, .int .u64 t.hd.s1, .int .u64 t.hd.s2, .int .u64 t.hd.s3, .slice B t.subs.length cc, .int .i64 t.hd.num, .int .i64 t.hd.min, .int .i64 t.hd.max, .bool t.hd.bare] 27)
   have H4 := hide (And.intro (hE.next hal) (And.intro ((H2.out.2.1.trans hF).next (Nat.le_trans HB2.out hF.below.size) hal) (And.intro ((hF.blk_ H2.out.2.2 (blk_ne6 H2.out.2.2 H2.out.1.box (by decide)) (by simp)).next hal) (And.intro (Blk.new z 27 #[.int .i64 t.hd.kind, .int .u64 t.hd.s0, .int .u64 t.hd.s1, .int .u64 t.hd.s2, .int .u64 t.hd.s3, .slice B t.subs.length cc, .int .i64 t.hd.num, .int .i64 t.hd.min, .int .i64 t.hd.max, .bool t.hd.bare]) (show T.In (z.alloc (.cells #[.int .i64 t.hd.kind, .int .u64 t.hd.s0, .int .u64 t.hd.s1, .int .u64 t.hd.s2, .int .u64 t.hd.s3, .slice B t.subs.length cc, .int .i64 t.hd.num, .int .i64 t.hd.min, .int .i64 t.hd.max, .bool t.hd.bare] 27)) (fun b => W2.heap.size ≤ b ∧ b < z.heap.size) t B from hin.same ((same_of_below hal).mono fun b hb => hb.2) fun b hb => hb)))))
   have HB4 := hide (Nat.le_trans (Nat.le_trans HB2.out hF.below.size) hal.size)
   have HZ4 := hide (show z.heap.size < (z.alloc (.cells #[.int .i64 t.hd.kind, .int .u64 t.hd.s0, .int .u64 t.hd.s1, .int .u64 t.hd.s2, .int .u64 t.hd.s3, .slice B t.subs.length cc, .int .i64 t.hd.num, .int .i64 t.hd.min, .int .i64 t.hd.max, .bool t.hd.bare] 27)).heap.size ∧ W2.heap.size ≤ z.heap.size from ⟨by rw [World.size_alloc]; omega, hF.below.size⟩)
   have HGRl := hide (show gr < W2.heap.size from H2.out.1.box.lt)
   clear HFn hfn hal hin hE hF hq
   simp only [Hd.cells]
   go_upto_region 7 with fail
   generalize (z.alloc (.cells #[.int .i64 t.hd.kind, .int .u64 t.hd.s0, .int .u64 t.hd.s1, .int .u64 t.hd.s2, .int .u64 t.hd.s3, .slice B t.subs.length cc, .int .i64 t.hd.num, .int .i64 t.hd.min, .int .i64 t.hd.max, .bool t.hd.bare] 27)) = z1 at *
   have c0 := H4.out.1.box.cell
   by_cases hj : j < p.size
   case neg =>
    have HE := hide (show res = .bad 1 (i : Int) from by rw [HRS2.out]; exact if_neg hj)
    have g1 : decide ((p.size : Int) ≤ (j : Int)) = true := decide_eq_true (by omega)
    have q1 : decide (p.size ≤ j) = true := decide_eq_true (by omega)
    go_big_quiet (fail)
    have hbq := below_drewN6 (Below.refl z1.heap.size z1) nq
    have H5 := hide (H4.out.2.1.next HB4.out hbq)
    have HB5 := hide (Nat.le_trans HB4.out hbq.size)
    clear c0 hbq
    generalize z1.drewN nq = z2 at *
    have ceq := (HM.out _ H5.out.below).errs.var 4 (by decide)
    go_wp2_with fail
    refine (breFail_any (gr := gr) (B0 := B0) HB5.out a 1 (i : Int)).mono ?_
    rintro e wf ⟨gf, rfl, hfi, hff⟩
    have HFi := hide (And.intro hfi (H5.out.trans hff))
    clear ceq hfi hff
    unfold faultV
    go_wp2_with fail
    refine ⟨rfl, ?_⟩
    exact bbad HE.out ⟨gf, rfl, HFi.out.1, HFi.out.2⟩
   case pos =>
   have HE := hide (show res = .ok (grpT ((g + 1 : Nat) : Int) t) (j + 2) q from by rw [HRS2.out]; exact if_pos hj)
   have g1 : decide ((p.size : Int) ≤ (j : Int)) = false := decide_eq_false (by omega)
   have q1 : decide (p.size ≤ j) = false := decide_eq_false (by omega)
   go_big_quiet (fail)
   have hbq := below_drewN6 (Below.refl z1.heap.size z1) nq
   have H5 := hide (And.intro (H4.out.1.next hbq) (And.intro (H4.out.2.1.next HB4.out hbq) (And.intro (H4.out.2.2.1.next hbq) (And.intro (H4.out.2.2.2.1.next hbq) (show T.In (z1.drewN nq) (fun b => W2.heap.size ≤ b ∧ b < z.heap.size) t B from H4.out.2.2.2.2.same ((same_of_below hbq).mono fun b hb => by have h1 := hb.2; have h2 := HZ4.out; omega) fun b hb => hb)))))
   have HB5 := hide (Nat.le_trans HB4.out hbq.size)
   have HZ5 := hide (Nat.lt_of_lt_of_le HZ4.out.1 hbq.size)
   clear c0 hbq H4 HB4
   generalize z1.drewN nq = z2 at *
   have c0 := H5.out.1.box.cell
   have f0 := H5.out.1.box.frozen
   have HJ2 := hide (show (j : Int) + 2 = ((j + 2 : Nat) : Int) from rfl)
   go_upto_region 10 with fail
   rw [HJ2.out]
   clear c0 f0
   have hT6 : T.In (z2.setCell ⟨gr, 1, none⟩ (.int .i64 ((j + 2 : Nat) : Int))) (fun b => W2.heap.size ≤ b ∧ b < z.heap.size) t B := H5.out.2.2.2.2.same ((Same.refl _ _).set (p := ⟨gr, 1, none⟩) (fun hb => by have h1 : W2.heap.size ≤ gr := hb.1; have h2 := HGRl.out; omega) (.int .i64 ((j + 2 : Nat) : Int))) fun b hb => hb
   have H5b := hide (And.intro H5.out.1 (And.intro H5.out.2.1 (And.intro H5.out.2.2.1 H5.out.2.2.2.1)))
   have HS6 := hide (show z.heap.size < (z2.setCell ⟨gr, 1, none⟩ (.int .i64 ((j + 2 : Nat) : Int))).heap.size from by rw [World.size_setCell]; exact HZ5.out)
   have HT6 := hide hT6
   clear hT6 H5
   have H6 := hide (And.intro (H5b.out.1.set 1 (.int .i64 ((j + 2 : Nat) : Int))) (And.intro (H5b.out.2.1.set H5b.out.1.base 1 (.int .i64 ((j + 2 : Nat) : Int))) (And.intro (H5b.out.2.2.1.far (blk_ne6 H5b.out.2.2.1 H5b.out.1.box (by decide)) (p := ⟨gr, 1, none⟩) (.int .i64 ((j + 2 : Nat) : Int))) (H5b.out.2.2.2.far (blk_ne6 H5b.out.2.2.2 H5b.out.1.box (by decide)) (p := ⟨gr, 1, none⟩) (.int .i64 ((j + 2 : Nat) : Int))))))
   have HB6 := hide (show B0 ≤ (z2.setCell ⟨gr, 1, none⟩ (.int .i64 ((j + 2 : Nat) : Int))).heap.size from by rw [World.size_setCell]; exact HB5.out)
   generalize (z2.setCell ⟨gr, 1, none⟩ (.int .i64 ((j + 2 : Nat) : Int))) = z3 at *
   have c0 := H6.out.1.box.cell
   have f0 := H6.out.1.box.frozen
   go_upto_region 11 with fail
   rw [HN2.out]
   clear c0 f0
   have HT7 := hide (show T.In (z3.setCell ⟨gr, 4, none⟩ (.int .i64 (n : Int))) (fun b => W2.heap.size ≤ b ∧ b < z.heap.size) t B from HT6.out.same ((Same.refl _ _).set (p := ⟨gr, 4, none⟩) (fun hb => by have h1 : W2.heap.size ≤ gr := hb.1; have h2 := HGRl.out; omega) (.int .i64 (n : Int))) fun b hb => hb)
   have HS7 := hide (show z.heap.size < (z3.setCell ⟨gr, 4, none⟩ (.int .i64 (n : Int))).heap.size from by rw [World.size_setCell]; exact HS6.out)
   have H7 := hide (And.intro (H6.out.1.set 4 (.int .i64 (n : Int))) (And.intro (H6.out.2.1.set H6.out.1.base 4 (.int .i64 (n : Int))) (And.intro (H6.out.2.2.1.far (blk_ne6 H6.out.2.2.1 H6.out.1.box (by decide)) (p := ⟨gr, 4, none⟩) (.int .i64 (n : Int))) (H6.out.2.2.2.far (blk_ne6 H6.out.2.2.2 H6.out.1.box (by decide)) (p := ⟨gr, 4, none⟩) (.int .i64 (n : Int))))))
   have HB7 := hide (show B0 ≤ (z3.setCell ⟨gr, 4, none⟩ (.int .i64 (n : Int))).heap.size from by rw [World.size_setCell]; exact HB6.out)
   generalize (z3.setCell ⟨gr, 4, none⟩ (.int .i64 (n : Int))) = z4 at *
   clear H6 HT6 HS6
   have ct := H7.out.2.2.2.cell
   have HGr := hide (group_any t B cc ((g + 1 : Nat) : Int) z4 (by omega) (HT7.out.same (Same.refl _ _) fun b hb => by have h1 := hb.2; have h2 := HS7.out; omega))
   simp only [Hd.cells] at HGr
   go_wp2_with fail
   refine HGr.out.mono ?_
   rintro e z5 ⟨B2, c2, bs, rfl, hown, hnd2, hbs, hb5⟩
   have H8 := hide (And.intro (H7.out.1.next hb5) (And.intro (H7.out.2.1.next HB7.out hb5) (H7.out.2.2.1.next hb5)))
   have HT8 := hide (show T.In z5 (fun b => y.heap.size + 1 ≤ b ∧ b < z5.heap.size ∧ (Value.slice none 0 0).ownBlock ≠ some b) (grpT ((g + 1 : Nat) : Int) t) B2 from hown.in_ fun b hb => ⟨by have h1 := (hbs b hb).1; have h2 := HS7.out; have h3 := HZ4.out.2; have h4 := HZ2.out; omega, (hbs b hb).2, fun e => by cases e⟩)
   clear hown hnd2 hbs hb5 HGr ct
   go_wp2_with (refine wpList_store_node rfl _ _ rfl y.heap.size _ _ _ _ _ rfl rfl H8.out.2.2 rfl ?_; intro w9 hrow9 hg9 hz9)
   refine bodyPost_ret (node_result rfl _ _ y.heap.size _ _ rfl hrow9) rfl ?_
   exact bok (t := grpT ((g + 1 : Nat) : Int) t) HE.out H8.out.1 H8.out.2.1 HT8.out hg9 H8.out.2.2 HB.out
set_option maxRecDepth 100000 in
set_option maxHeartbeats 4000000 in
theorem brePiece_any {y : World} {gr B0 : Nat} {p : ByteArray} {i : Nat} {fl : Int} {g n : Nat} {a : Nat → Addr} {m : Int} {deeper : Option (Nat → Nat → PR)} {star : Bool} (hG : GroupB a m gr B0 p fl n deeper) (hdf : ∀ f, deeper = some f → ∀ i g, i ≤ p.size → (f i g).Fine p i g 0) (hst : (atomB p (!decide (bits .and .i64 fl 2 = 0)) (!decide (bits .and .i64 fl 4 = 0)) deeper star i g).Fine p i g 1) (h : RdB y gr B0 p i fl g n) (hp : p.size ≤ 1024) (hi : i < p.size) (hgi : g ≤ i) (hB : B0 ≤ y.heap.size) (hm : ∀ y', Below B0 y y' → B5 y' a m) :
  Calls Tryz.prog 71 #[.pointer (some ⟨gr, 0, none⟩), .bool star] y (EPB a gr B0 p fl n y (pieceB p (!decide (bits .and .i64 fl 2 = 0)) (!decide (bits .and .i64 fl 4 = 0)) deeper star i g)) := by
 have hz0 := Blk.new y 27 zeroCells
 have hbel := (Below.refl y.heap.size y).alloc (Nat.le_refl _) (.cells zeroCells 27)
 have H0 := hide (And.intro (h.next hbel) (And.intro (RdF.of_below (gr := gr) (x := none) hB hbel) hz0))
 have HB := hide hB
 have HM := hide hm
 have HBW := hide (Nat.le_trans hB hbel.size)
 have HZW := hide (show y.heap.size + 1 ≤ (y.alloc (.cells zeroCells 27)).heap.size from Nat.le_of_eq (World.size_alloc y (.cells zeroCells 27)).symm)
 clear hz0 hbel h hB hm
 unfold zeroCells at *
 have HAt := hide (fun (y' : World) (h' : RdB y' gr B0 p i fl g n) (hB' : B0 ≤ y'.heap.size) (hm' : ∀ y2, Below B0 y' y2 → B5 y2 a m) => breAtom_any hG star h' hp hi hgi hB' hm')
 obtain ⟨r1, hr1⟩ : ∃ r1, r1 = atomB p (!decide (bits .and .i64 fl 2 = 0)) (!decide (bits .and .i64 fl 4 = 0)) deeper star i g := ⟨_, rfl⟩
 obtain ⟨res, hres⟩ : ∃ res, res = pieceB p (!decide (bits .and .i64 fl 2 = 0)) (!decide (bits .and .i64 fl 4 = 0)) deeper star i g := ⟨_, rfl⟩
 rw [← hres]
 unfold pieceB at hres
 rw [← hr1] at hres HAt hst
 have HRS := hide hres
 have HFn := hide hst
 clear hres hr1 hG hdf hst
 go_enter Tryz.func71, Tryz.ntmps71
 go_upto_region 1 with fail
 generalize (y.alloc (.cells #[.int .i64 0, .int .u64 0, .int .u64 0, .int .u64 0, .int .u64 0, .slice none 0 0, .int .i64 0, .int .i64 0, .int .i64 0, .bool false] 27)) = W at *
 have HZ0 := hide H0.out.2.2.lt
 go_wp2_with fail
 refine (HAt.out W H0.out.1 HBW.out (fun y' hy => HM.out y' (H0.out.2.1.below.trans hy))).mono ?_
 intro e z hz
 clear HAt
 cases r1 with
 | bad c pl =>
  have HE := hide (show res = .bad c pl from HRS.out)
  have HPn := hide (PanB.from hz H0.out.2.1)
  obtain ⟨gf, rfl, hfi, hff⟩ := hz
  clear hfi hff
  unfold faultV
  go_wp2_with fail
  refine ⟨rfl, ?_⟩
  exact bbad HE.out HPn.out
 | ok t j q =>
  have HE := hide (show res = withRep (repB p j) t j q from HRS.out)
  obtain ⟨B, cc, rfl, hin, hE, hF⟩ := hz
  have hfn := HFn.out
  simp only [PR.Fine] at hfn
  have hjp : j ≤ p.size := hfn.2.1
  have hnd : t.nodes ≤ 100000 := by omega
  have hal := (Below.refl z.heap.size z).alloc (Nat.le_refl _) (.cells #[.int .i64 t.hd.kind, .int .u64 t.hd.s0, .int .u64 t.hd.s1, .int .u64 t.hd.s2, .int .u64 t.hd.s3, .slice B t.subs.length cc, .int .i64 t.hd.num, .int .i64 t.hd.min, .int .i64 t.hd.max, .bool t.hd.bare] 27)
  have H4 := hide (And.intro (hE.next hal) (And.intro ((H0.out.2.1.trans hF).next (Nat.le_trans HBW.out hF.below.size) hal) (And.intro ((hF.blk_ H0.out.2.2 (blk_ne6 H0.out.2.2 H0.out.1.box (by decide)) (by simp)).next hal) (Blk.new z 27 #[.int .i64 t.hd.kind, .int .u64 t.hd.s0, .int .u64 t.hd.s1, .int .u64 t.hd.s2, .int .u64 t.hd.s3, .slice B t.subs.length cc, .int .i64 t.hd.num, .int .i64 t.hd.min, .int .i64 t.hd.max, .bool t.hd.bare]))))
  have HT4 := hide (show T.In (z.alloc (.cells #[.int .i64 t.hd.kind, .int .u64 t.hd.s0, .int .u64 t.hd.s1, .int .u64 t.hd.s2, .int .u64 t.hd.s3, .slice B t.subs.length cc, .int .i64 t.hd.num, .int .i64 t.hd.min, .int .i64 t.hd.max, .bool t.hd.bare] 27)) (fun b => W.heap.size ≤ b ∧ b < z.heap.size) t B from hin.same ((same_of_below hal).mono fun b hb => hb.2) fun b hb => hb)
  have HB4 := hide (Nat.le_trans (Nat.le_trans HBW.out hF.below.size) hal.size)
  have HZ4 := hide (show z.heap.size < (z.alloc (.cells #[.int .i64 t.hd.kind, .int .u64 t.hd.s0, .int .u64 t.hd.s1, .int .u64 t.hd.s2, .int .u64 t.hd.s3, .slice B t.subs.length cc, .int .i64 t.hd.num, .int .i64 t.hd.min, .int .i64 t.hd.max, .bool t.hd.bare] 27)).heap.size from by rw [World.size_alloc]; omega)
  have HZW2 := hide (show y.heap.size < z.heap.size from Nat.lt_of_lt_of_le HZ0.out hF.below.size)
  have HZWz := hide (show W.heap.size ≤ z.heap.size from hF.below.size)
  have HGRl := hide (show gr < W.heap.size from H0.out.1.box.lt)
  clear HFn hfn hal hin hE hF HRS
  simp only [Hd.cells]
  go_upto_region 2 with fail
  generalize (z.alloc (.cells #[.int .i64 t.hd.kind, .int .u64 t.hd.s0, .int .u64 t.hd.s1, .int .u64 t.hd.s2, .int .u64 t.hd.s3, .slice B t.subs.length cc, .int .i64 t.hd.num, .int .i64 t.hd.min, .int .i64 t.hd.max, .bool t.hd.bare] 27)) = z1 at *
  have c0 := H4.out.1.box.cell
  have HHs := hide (breHas_any (show RdB z1 gr B0 p j fl q n from H4.out.1) hp hjp [42] (by decide) ⟨#[42]⟩ rfl)
  go_wp2_with fail
  refine HHs.out.mono ?_
  rintro e z2 ⟨rfl, hb2⟩
  have H5 := hide (And.intro (H4.out.1.next hb2) (And.intro (H4.out.2.1.next HB4.out hb2) (And.intro (H4.out.2.2.1.next hb2) (H4.out.2.2.2.next hb2))))
  have HB5 := hide (Nat.le_trans HB4.out hb2.size)
  have HZ5 := hide (Nat.lt_of_lt_of_le HZ4.out hb2.size)
  have HT5 := hide (show T.In z2 (fun b => W.heap.size ≤ b ∧ b < z.heap.size) t B from HT4.out.same ((same_of_below hb2).mono fun b hb => by have h1 := hb.2; have h2 := HZ4.out; omega) fun b hb => hb)
  clear hb2 HHs c0 H4 HB4 HT4 HZ4
  by_cases h42 : pb p j = 42
  ·have hb42 : begins p j [42] = true := by simp [begins, h42]
   have HRp := hide (show repB p j = .yes 0 (-1) (j + 1) from by unfold repB; rw [if_pos h42])
   rw [hb42]
   have c0 := H5.out.1.box.cell
   have f0 := H5.out.1.box.frozen
   have HJ1 := hide (show (j : Int) + 1 = ((j + 1 : Nat) : Int) from rfl)
   clear hb42 h42
   go_upto_region 9 with fail
   rw [HJ1.out]
   clear c0 f0
   have HT6 := hide (show T.In (z2.setCell ⟨gr, 1, none⟩ (.int .i64 ((j + 1 : Nat) : Int))) (fun b => W.heap.size ≤ b ∧ b < z.heap.size) t B from HT5.out.same ((Same.refl _ _).set (p := ⟨gr, 1, none⟩) (fun hb => by have h1 : W.heap.size ≤ gr := hb.1; have h2 := HGRl.out; omega) (.int .i64 ((j + 1 : Nat) : Int))) fun b hb => hb)
   have HZ6 := hide (show z.heap.size < (z2.setCell ⟨gr, 1, none⟩ (.int .i64 ((j + 1 : Nat) : Int))).heap.size from by rw [World.size_setCell]; exact HZ5.out)
   have H6 := hide (And.intro (H5.out.1.set 1 (.int .i64 ((j + 1 : Nat) : Int))) (And.intro (H5.out.2.1.set H5.out.1.base 1 (.int .i64 ((j + 1 : Nat) : Int))) (And.intro (H5.out.2.2.1.far (blk_ne6 H5.out.2.2.1 H5.out.1.box (by decide)) (p := ⟨gr, 1, none⟩) (.int .i64 ((j + 1 : Nat) : Int))) (H5.out.2.2.2.far (blk_ne6 H5.out.2.2.2 H5.out.1.box (by decide)) (p := ⟨gr, 1, none⟩) (.int .i64 ((j + 1 : Nat) : Int))))))
   have HB6 := hide (show B0 ≤ (z2.setCell ⟨gr, 1, none⟩ (.int .i64 ((j + 1 : Nat) : Int))).heap.size from by rw [World.size_setCell]; exact HB5.out)
   generalize (z2.setCell ⟨gr, 1, none⟩ (.int .i64 ((j + 1 : Nat) : Int))) = z3 at *
   have HRe := hide (rep_any t B cc 0 (-1) z3 (by omega) (HT6.out.same (Same.refl _ _) fun b hb => by have h1 := hb.2; have h2 := HZ6.out; omega))
   simp only [Hd.cells] at HRe
   have ct := H6.out.2.2.2.cell
   go_wp2_with fail
   refine HRe.out.mono ?_
   rintro e wa ⟨B2, c2, bs, rfl, hown, hnd2, hbs, hba⟩
   have Ha := hide (And.intro (H6.out.1.next hba) (And.intro (H6.out.2.1.next HB6.out hba) (And.intro (H6.out.2.2.1.next hba) (H6.out.2.2.2.next hba))))
   have HBa := hide (Nat.le_trans HB6.out hba.size)
   obtain ⟨tr, htr⟩ : ∃ tr, tr = repT 0 (-1) t := ⟨_, rfl⟩
   rw [show (T.mk ⟨8, 0, 0, 0, 0, 0, 0, (-1), false⟩ [t]) = tr from htr.symm] at hown ⊢
   have hntr : tr.nodes ≤ 1000000 := by rw [htr]; simp only [repT, T.nodes, TL.nodes]; omega
   have HTa := hide (show T.In wa (fun b => z.heap.size + 1 ≤ b ∧ b < wa.heap.size) tr B2 from hown.in_ fun b hb => ⟨by have h1 := (hbs b hb).1; have h2 := HZ6.out; omega, (hbs b hb).2⟩)
   have HTr := hide htr
   have HZa := hide (show z.heap.size < wa.heap.size from Nat.lt_of_lt_of_le HZ6.out hba.size)
   clear hown hnd2 hbs hba HRe ct htr H6
   have hltz := HZW2.out
   go_upto_region 10 with (refine wpList_store_node rfl _ _ rfl z.heap.size _ _ _ _ _ rfl rfl Ha.out.2.2.2 rfl ?_; intro wb hrow_wb hg_wb hz_wb)
   have Hb := hide (And.intro (Ha.out.1.grown hg_wb (fun e => (blk_ne6 Ha.out.2.2.2 Ha.out.1.box (by decide)) (Option.some.inj e)) (.inl rfl)) (And.intro (Ha.out.2.1.grown hg_wb (fun q hq => by rw [← Option.some.inj hq]; omega) HB.out) (And.intro (Ha.out.2.2.1.grown hg_wb (fun e => by have := Option.some.inj e; omega)) hrow_wb)))
   have HBb := hide (show B0 ≤ wb.heap.size from Nat.le_trans HBa.out hg_wb.size)
   have HTb := hide (show T.In wb (fun b => z.heap.size + 1 ≤ b ∧ b < wa.heap.size) tr B2 from HTa.out.same (fun b hb => hg_wb.block b hb.2 (fun e => by have := Option.some.inj e; have h1 := hb.1; omega)) fun b hb => hb)
   have HZb := hide (show wa.heap.size ≤ wb.heap.size from hg_wb.size)
   clear hrow_wb hg_wb hz_wb Ha HTa
   have HSz := hide (Size_any tr B2 c2 wb hntr (HTb.out.same (Same.refl _ _) fun b hb => by have h1 := hb.2; have h2 := HZb.out; omega))
   go_wp2_with (refine wpList_load_node rfl _ rfl z.heap.size _ _ rfl Hb.out.2.2.2 ?_)
   refine HSz.out.mono ?_
   rintro e wc ⟨rfl, hbc⟩
   have Hc := hide (And.intro (Hb.out.1.next hbc) (And.intro (Hb.out.2.1.next HBb.out hbc) (And.intro (Hb.out.2.2.1.next hbc) (Hb.out.2.2.2.next hbc))))
   have HBc := hide (Nat.le_trans HBb.out hbc.size)
   have HTc := hide (show T.In wc (fun b => z.heap.size + 1 ≤ b ∧ b < wa.heap.size) tr B2 from HTb.out.same ((same_of_below hbc).mono fun b hb => by have h1 := hb.2; have h2 := HZb.out; omega) fun b hb => hb)
   have HZc := hide (show wa.heap.size ≤ wc.heap.size from Nat.le_trans HZb.out hbc.size)
   clear hbc HSz Hb HTb
   generalize hfz : tr.fullSize = fz at *
   have HFZ := hide hfz
   clear hfz
   have HE2 := hide (show res = (if 2000 < (repT 0 (-1) t).fullSize then .bad 9 (j : Int) else .ok (repT 0 (-1) t) (j + 1) q) from by rw [HE.out, HRp.out]; rfl)
   by_cases hbig : 2000 < fz
   ·have HE3 := hide (show res = .bad 9 (j : Int) from by rw [HE2.out, if_pos (by rw [← HTr.out, HFZ.out]; exact hbig)])
    have g1 : decide (2000 < fz) = true := decide_eq_true hbig
    have ceq := (HM.out _ Hc.out.2.1.below).errs.var 12 (by decide)
    go_wp2_with fail
    refine (breFail_any (gr := gr) (B0 := B0) HBc.out a 9 (j : Int)).mono ?_
    rintro e wf ⟨gf, rfl, hfi, hff⟩
    have HFi := hide (And.intro hfi (Hc.out.2.1.trans hff))
    clear ceq hfi hff
    unfold faultV
    go_wp2_with fail
    refine ⟨rfl, ?_⟩
    exact bbad HE3.out ⟨gf, rfl, HFi.out.1, HFi.out.2⟩
   ·have HE3 := hide (show res = .ok tr (j + 1) q from by rw [HE2.out, if_neg (by rw [← HTr.out, HFZ.out]; exact hbig), HTr.out])
    have g1 : decide (2000 < fz) = false := decide_eq_false hbig
    go_wp2_with (first | (refine wpList_load_node rfl _ rfl z.heap.size _ _ rfl Hc.out.2.2.2 ?_) | (refine wpList_store_node rfl _ _ rfl y.heap.size _ _ _ _ _ rfl rfl Hc.out.2.2.1 rfl ?_; intro w9 hrow9 hg9 hz9))
    refine bodyPost_ret (node_result rfl _ _ y.heap.size _ _ rfl hrow9) rfl ?_
    exact bok (t := tr) HE3.out Hc.out.1 Hc.out.2.1 (HTc.out.same (Same.refl _ _) fun b hb => ⟨by have h1 := hb.1; omega, by have h1 := hb.2; have h2 := HZc.out; omega, fun e => by cases e⟩) hg9 Hc.out.2.2.1 HB.out
  ·have hb42 : begins p j [42] = false := by simp [begins, h42]
   rw [hb42]
   have HHs2 := hide (breHas_any (show RdB z2 gr B0 p j fl q n from H5.out.1) hp hjp [92, 123] (by decide) ⟨#[92, 123]⟩ rfl)
   clear hb42
   go_wp2_with fail
   refine HHs2.out.mono ?_
   rintro e z3 ⟨rfl, hb3⟩
   have H6 := hide (And.intro (H5.out.1.next hb3) (And.intro (H5.out.2.1.next HB5.out hb3) (And.intro (H5.out.2.2.1.next hb3) (H5.out.2.2.2.next hb3))))
   have HB6 := hide (Nat.le_trans HB5.out hb3.size)
   have HZ6 := hide (Nat.lt_of_lt_of_le HZ5.out hb3.size)
   have HT6 := hide (show T.In z3 (fun b => W.heap.size ≤ b ∧ b < z.heap.size) t B from HT5.out.same ((same_of_below hb3).mono fun b hb => by have h1 := hb.2; have h2 := HZ5.out; omega) fun b hb => hb)
   clear hb3 HHs2 H5 HB5 HT5 HZ5
   by_cases h123 : pb p j = 92 ∧ pb p (j + 1) = 123
   ·have hbt : begins p j [92, 123] = true := by simp [begins, h123]
    have hj2 := pb_ins h123.2 (by decide)
    have HRp0 := hide (show repB p j = countsB p j from by unfold repB countsB; rw [if_neg h42, if_pos h123]; rfl)
    rw [hbt]
    have HCn := hide (breCounts_any (show RdB z3 gr B0 p j fl q n from H6.out.1) hp (by omega) HB6.out a m (fun y' hy => HM.out y' (H6.out.2.1.below.trans hy)))
    clear hbt h123 h42
    go_wp2_with fail
    refine HCn.out.mono ?_
    intro e z4 hz4
    obtain ⟨rc, hrc⟩ : ∃ rc, rc = countsB p j := ⟨_, rfl⟩
    rw [← hrc] at hz4 HRp0
    clear hrc HCn
    cases rc with
    | no => exact hz4.elim
    | bad c =>
     have HE3 := hide (show res = .bad c (j : Int) from by rw [HE.out, HRp0.out]; rfl)
     have HPn := hide (PanB.from hz4 H6.out.2.1)
     obtain ⟨gf, rfl, hfi, hff⟩ := hz4
     clear hfi hff
     unfold faultV
     go_wp2_with fail
     refine ⟨rfl, ?_⟩
     exact bbad HE3.out HPn.out
    | yes u v k =>
     obtain ⟨rfl, hE, hF⟩ := hz4
     have H7 := hide (And.intro hE (And.intro (H6.out.2.1.trans hF) (And.intro (hF.blk_ H6.out.2.2.1 (blk_ne6 H6.out.2.2.1 H6.out.1.box (by decide)) (by simp)) (hF.blk_ H6.out.2.2.2 (blk_ne6 H6.out.2.2.2 H6.out.1.box (by decide)) (by simp)))))
     have HB7 := hide (Nat.le_trans HB6.out hF.below.size)
     have HZ7 := hide (Nat.lt_of_lt_of_le HZ6.out hF.below.size)
     have HT7 := hide (show T.In z4 (fun b => W.heap.size ≤ b ∧ b < z.heap.size) t B from HT6.out.same (hF.same.mono fun b hb => ⟨by have h1 := hb.2; have h2 := HZ6.out; omega, by have h1 := hb.1; have h2 := HGRl.out; omega, fun e => by cases e⟩) fun b hb => hb)
     clear hE hF H6 HB6 HT6 HZ6
     have HRe := hide (rep_any t B cc (u : Int) v z4 (by omega) (HT7.out.same (Same.refl _ _) fun b hb => by have h1 := hb.2; have h2 := HZ7.out; omega))
     simp only [Hd.cells] at HRe
     have ct := H7.out.2.2.2.cell
     go_wp2_with fail
     refine HRe.out.mono ?_
     rintro e wa ⟨B2, c2, bs, rfl, hown, hnd2, hbs, hba⟩
     have Ha := hide (And.intro (H7.out.1.next hba) (And.intro (H7.out.2.1.next HB7.out hba) (And.intro (H7.out.2.2.1.next hba) (H7.out.2.2.2.next hba))))
     have HBa := hide (Nat.le_trans HB7.out hba.size)
     obtain ⟨tr, htr⟩ : ∃ tr, tr = repT (u : Int) v t := ⟨_, rfl⟩
     rw [show (T.mk ⟨8, 0, 0, 0, 0, 0, (u : Int), v, false⟩ [t]) = tr from htr.symm] at hown ⊢
     have hntr : tr.nodes ≤ 1000000 := by rw [htr]; simp only [repT, T.nodes, TL.nodes]; omega
     have HTa := hide (show T.In wa (fun b => z.heap.size + 1 ≤ b ∧ b < wa.heap.size) tr B2 from hown.in_ fun b hb => ⟨by have h1 := (hbs b hb).1; have h2 := HZ7.out; omega, (hbs b hb).2⟩)
     have HTr := hide htr
     have HZa := hide (show z.heap.size < wa.heap.size from Nat.lt_of_lt_of_le HZ7.out hba.size)
     clear hown hnd2 hbs hba HRe ct htr H7
     have hltz := HZW2.out
     go_upto_region 10 with (refine wpList_store_node rfl _ _ rfl z.heap.size _ _ _ _ _ rfl rfl Ha.out.2.2.2 rfl ?_; intro wb hrow_wb hg_wb hz_wb)
     have Hb := hide (And.intro (Ha.out.1.grown hg_wb (fun e => (blk_ne6 Ha.out.2.2.2 Ha.out.1.box (by decide)) (Option.some.inj e)) (.inl rfl)) (And.intro (Ha.out.2.1.grown hg_wb (fun q hq => by rw [← Option.some.inj hq]; omega) HB.out) (And.intro (Ha.out.2.2.1.grown hg_wb (fun e => by have := Option.some.inj e; omega)) hrow_wb)))
     have HBb := hide (show B0 ≤ wb.heap.size from Nat.le_trans HBa.out hg_wb.size)
     have HTb := hide (show T.In wb (fun b => z.heap.size + 1 ≤ b ∧ b < wa.heap.size) tr B2 from HTa.out.same (fun b hb => hg_wb.block b hb.2 (fun e => by have := Option.some.inj e; have h1 := hb.1; omega)) fun b hb => hb)
     have HZb := hide (show wa.heap.size ≤ wb.heap.size from hg_wb.size)
     clear hrow_wb hg_wb hz_wb Ha HTa
     have HSz := hide (Size_any tr B2 c2 wb hntr (HTb.out.same (Same.refl _ _) fun b hb => by have h1 := hb.2; have h2 := HZb.out; omega))
     go_wp2_with (refine wpList_load_node rfl _ rfl z.heap.size _ _ rfl Hb.out.2.2.2 ?_)
     refine HSz.out.mono ?_
     rintro e wc ⟨rfl, hbc⟩
     have Hc := hide (And.intro (Hb.out.1.next hbc) (And.intro (Hb.out.2.1.next HBb.out hbc) (And.intro (Hb.out.2.2.1.next hbc) (Hb.out.2.2.2.next hbc))))
     have HBc := hide (Nat.le_trans HBb.out hbc.size)
     have HTc := hide (show T.In wc (fun b => z.heap.size + 1 ≤ b ∧ b < wa.heap.size) tr B2 from HTb.out.same ((same_of_below hbc).mono fun b hb => by have h1 := hb.2; have h2 := HZb.out; omega) fun b hb => hb)
     have HZc := hide (show wa.heap.size ≤ wc.heap.size from Nat.le_trans HZb.out hbc.size)
     clear hbc HSz Hb HTb
     generalize hfz : tr.fullSize = fz at *
     have HFZ := hide hfz
     clear hfz
     have HE2 := hide (show res = (if 2000 < (repT (u : Int) v t).fullSize then .bad 9 (j : Int) else .ok (repT (u : Int) v t) k q) from by rw [HE.out, HRp0.out]; rfl)
     by_cases hbig : 2000 < fz
     ·have HE3 := hide (show res = .bad 9 (j : Int) from by rw [HE2.out, if_pos (by rw [← HTr.out, HFZ.out]; exact hbig)])
      have g1 : decide (2000 < fz) = true := decide_eq_true hbig
      have ceq := (HM.out _ Hc.out.2.1.below).errs.var 12 (by decide)
      go_wp2_with fail
      refine (breFail_any (gr := gr) (B0 := B0) HBc.out a 9 (j : Int)).mono ?_
      rintro e wf ⟨gf, rfl, hfi, hff⟩
      have HFi := hide (And.intro hfi (Hc.out.2.1.trans hff))
      clear ceq hfi hff
      unfold faultV
      go_wp2_with fail
      refine ⟨rfl, ?_⟩
      exact bbad HE3.out ⟨gf, rfl, HFi.out.1, HFi.out.2⟩
     ·have HE3 := hide (show res = .ok tr k q from by rw [HE2.out, if_neg (by rw [← HTr.out, HFZ.out]; exact hbig), HTr.out])
      have g1 : decide (2000 < fz) = false := decide_eq_false hbig
      go_wp2_with (first | (refine wpList_load_node rfl _ rfl z.heap.size _ _ rfl Hc.out.2.2.2 ?_) | (refine wpList_store_node rfl _ _ rfl y.heap.size _ _ _ _ _ rfl rfl Hc.out.2.2.1 rfl ?_; intro w9 hrow9 hg9 hz9))
      refine bodyPost_ret (node_result rfl _ _ y.heap.size _ _ rfl hrow9) rfl ?_
      exact bok (t := tr) HE3.out Hc.out.1 Hc.out.2.1 (HTc.out.same (Same.refl _ _) fun b hb => ⟨by have h1 := hb.1; omega, by have h1 := hb.2; have h2 := HZc.out; omega, fun e => by cases e⟩) hg9 Hc.out.2.2.1 HB.out
   ·have hbt : begins p j [92, 123] = false := by
     simp only [begins, Bool.and_true]
     rw [Bool.and_eq_false_iff]
     by_cases e : pb p j = 92
     ·exact .inr (decide_eq_false (fun e2 => h123 ⟨e, e2⟩))
     ·exact .inl (decide_eq_false e)
    have HE3 := hide (show res = .ok t j q from by rw [HE.out]; unfold repB; rw [if_neg h42, if_neg h123]; rfl)
    rw [hbt]
    clear hbt
    have ct := H6.out.2.2.2.cell
    have hR6 := H6.out.2.2.2
    go_wp2_with (first | (refine wpList_load_node rfl _ rfl z.heap.size _ _ rfl hR6 ?_) | (refine wpList_store_node rfl _ _ rfl y.heap.size _ _ _ _ _ rfl rfl H6.out.2.2.1 rfl ?_; intro w9 hrow9 hg9 hz9))
    refine bodyPost_ret (node_result rfl _ _ y.heap.size _ _ rfl hrow9) rfl ?_
    exact bok (t := t) HE3.out H6.out.1 H6.out.2.1 (HT6.out.same (Same.refl _ _) fun b hb => ⟨by have h1 := hb.1; have h2 := HZ0.out; omega, by have h1 := hb.2; have h2 := HZ6.out; omega, fun e => by cases e⟩) hg9 H6.out.2.2.1 HB.out
end Go.Proofs.YtpkcklpjbeginaaGreatDoor
