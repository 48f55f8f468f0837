/- RefEreA: trawlref06's small functions. (Printed by gen_refere6a.py.)
RefEreB: trawlref06: Several, Fault, Is, Count, Counts, Counted. (Printed by gen_refere6b.py.)
RefEreC: trawlref06: Counted, Set. (Printed by gen_refere6c.py.)
RefEreD: trawlref06: repeat. (Printed by gen_refere6d.py.)
RefEreE: trawlref06: atom. (Printed by gen_refere6e.py.) -/
import Derived.Test.YtpkcklpjbeginaaGreatDoorEreA
import Derived.Test.YtpkcklpjbeginaaGreatDoorRefRead5
import Derived.Test.YtpkcklpjbeginaaGreatDoorRefAll
set_option linter.unusedSimpArgs false
set_option linter.unusedVariables false
set_option linter.unnecessarySimpa false

/-! ## RefEreA -/
namespace Go.Proofs.YtpkcklpjbeginaaGreatDoor
open Go.RowKit
set_option maxHeartbeats 1000000 in
theorem refHas6_any (s0 s1 s2 s3 : Int) (b : Nat) (hb : b < 256) (w : World) (h0 : IsU64 s0) (h1 : IsU64 s1) (h2 : IsU64 s2) (h3 : IsU64 s3) :
  Calls Tryz.prog 139 #[.agg #[.int .u64 s0, .int .u64 s1, .int .u64 s2, .int .u64 s3], .int .u8 b] w fun e w' =>
   e = .returned (.bool (Hd.has ⟨0, s0, s1, s2, s3, 0, 0, 0, false⟩ b)) ∧ Below w.heap.size w w' := by
 have hq : b / 64 < 4 := by omega
 have hr : b % 64 < 64 := Nat.mod_lt _ (by decide)
 obtain ⟨n, hn, hnb⟩ : ∃ n : Nat, Hd.word ⟨0, s0, s1, s2, s3, 0, 0, 0, false⟩ (b / 64) = n ∧ n < 18446744073709551616 := by
  have h : IsU64 (Hd.word ⟨0, s0, s1, s2, s3, 0, 0, 0, false⟩ (b / 64)) := by
   unfold Hd.word
   split
   ·exact h0
   ·split
    ·exact h1
    ·split
     ·exact h2
     ·exact h3
  exact ⟨_, (Int.toNat_of_nonneg h.1).symm, by have := h.2; have := h.1; omega⟩
 have hcell : (w.alloc (.cells #[.int .u64 s0, .int .u64 s1, .int .u64 s2, .int .u64 s3] 24)).cell? ⟨w.heap.size, b / 64, none⟩ = some (.int .u64 n) := by
  rw [(Blk.new w _ _).cell, ← hn]
  have : b / 64 = 0 ∨ b / 64 = 1 ∨ b / 64 = 2 ∨ b / 64 = 3 := by omega
  rcases this with e | e | e | e <;> rw [e] <;> rfl
 have hhas : Hd.has ⟨0, s0, s1, s2, s3, 0, 0, 0, false⟩ b = n.testBit (b % 64) := by
  unfold Hd.has
  rw [hn]; rfl
 have hx := Op_shr n (b % 64) hr
 have hdiv : (b : Int).tdiv 64 = ((b / 64 : Nat) : Int) := by rw [Int.tdiv_eq_ediv_of_nonneg (by omega)]; simp
 have hmod : (b : Int).tmod 64 = ((b % 64 : Nat) : Int) := by rw [Int.tmod_eq_emod_of_nonneg (by omega)]; simp
 have hbit : ((n : Int) / 2 ^ (b % 64)).tmod 2 = (if n.testBit (b % 64) then 1 else 0) := by
  have h2' : (n : Int) / 2 ^ (b % 64) = ((n / 2 ^ (b % 64) : Nat) : Int) := by rw [Int.natCast_ediv]; simp
  rw [h2', Int.tmod_eq_emod_of_nonneg (Int.natCast_nonneg _), Nat.testBit_eq_decide_div_mod_eq]
  by_cases h : n / 2 ^ (b % 64) % 2 = 1
  ·simp [h]; omega
  ·have : n / 2 ^ (b % 64) % 2 = 0 := by omega
   simp [this]; omega
 rw [hhas]
 clear hhas hn
 cases ht : n.testBit (b % 64)
 all_goals
  rw [ht] at hbit
  have HT := hide ht
  clear ht
  go_enter Tryz.func139, Tryz.ntmps139
  go_wp2_with fail
  go_ret
  exact ⟨rfl, (Below.refl _ _).alloc (Nat.le_refl _) _⟩
theorem one_byteR (fb : Nat) (hb : fb < 256) (g : Nat) (y : World) (h : y.cell? ⟨g, 0, none⟩ = some (.int .u8 (fb : Int))) : (convert 59 9 (.slice (some ⟨g, 0, none⟩) 1 1)).run Tryz.prog y = .ok (.string ⟨#[fb.toUInt8]⟩) y := by
 refine run_convert_bytes_back y 59 9 5 ⟨g, 0, none⟩ 1 [fb.toUInt8] Tryz.underlying59 Tryz.underlying5 Tryz.underlying9 fun j hj => ?_
 obtain rfl : j = 0 := by simpa using hj
 rw [Addr.add_lit]
 simp only [Nat.add_zero, List.getElem_cons_zero]
 rw [h, show fb.toUInt8.toNat = fb from by simp [Nat.toUInt8]; omega]
theorem low36 (x c : Nat) (hc : 7 &&& c = c) : x &&& c = (x % 8) &&& c := by
 rw [← hc, ← Nat.and_assoc, ← Nat.and_assoc]
 congr 1
 rw [show (7 : Nat) = 2 ^ 3 - 1 from rfl, Nat.and_two_pow_sub_one_eq_mod, Nat.and_two_pow_sub_one_eq_mod]
 omega
theorem bits_low6 (fl : Int) (c : Nat) (hc : 7 &&& c = c) (h8 : c < 8) : bits .and .i64 fl (c : Int) = ((((BitVec.ofInt 64 fl).toNat % 8) &&& c : Nat) : Int) := by
 have h2 : (BitVec.ofInt 64 (c : Int)).toNat = c := by
  rw [BitVec.ofInt_natCast, BitVec.toNat_ofNat]; exact Nat.mod_eq_of_lt (by omega)
 show IntKind.i64.wrap ((BitVec.ofInt 64 fl &&& BitVec.ofInt 64 (c : Int)).toNat : Int) = _
 rw [BitVec.toNat_and, h2, low36 _ _ hc]
 have : (BitVec.ofInt 64 fl).toNat % 8 &&& c ≤ c := Nat.and_le_right
 clear h2
 generalize (BitVec.ofInt 64 fl).toNat % 8 &&& c = k at *
 simp [IntKind.wrap, IntKind.bits, IntKind.signed]
 omega
theorem flags6 (fl : Int) : ∃ n : Nat, n < 8 ∧ bits .and .i64 fl 6 = (n : Int) ∧ (!decide (bits .and .i64 fl 2 = 0)) = decide (n / 2 % 2 = 1) ∧ (!decide (bits .and .i64 fl 4 = 0)) = decide (n / 4 % 2 = 1) := by
 have h6 := bits_low6 fl 6 (by decide) (by decide)
 have h2 := bits_low6 fl 2 (by decide) (by decide)
 have h4 := bits_low6 fl 4 (by decide) (by decide)
 have hx : (BitVec.ofInt 64 fl).toNat % 8 < 8 := Nat.mod_lt _ (by decide)
 generalize (BitVec.ofInt 64 fl).toNat % 8 = y at *
 have key : ∀ y : Fin 8, (y.val &&& 6) < 8 ∧ (!decide (((y.val &&& 2 : Nat) : Int) = 0)) = decide ((y.val &&& 6) / 2 % 2 = 1) ∧ (!decide (((y.val &&& 4 : Nat) : Int) = 0)) = decide ((y.val &&& 6) / 4 % 2 = 1) := by decide
 have k := key ⟨y, hx⟩
 refine ⟨y &&& 6, k.1, h6, ?_, ?_⟩
 ·rw [show (2 : Int) = ((2 : Nat) : Int) from rfl, h2]; exact k.2.1
 ·rw [show (4 : Int) = ((4 : Nat) : Int) from rfl, h4]; exact k.2.2
/-- The document's state in memory. -/
def RdS (y : World) (gr B0 : Nat) (p : ByteArray) (I fl g : Int) (ov : Value) (d : Nat) (code pl : Int) : Prop :=
 RdG y 80 gr B0 #[.string p, .int .i64 I, .int .i64 fl, .int .i64 g, ov, .int .i64 code, .int .i64 pl] ov d
theorem flagB (fl f : Int) : (bits .and .i64 fl f != 0) = (!decide (bits .and .i64 fl f = 0)) := by
 by_cases h : bits .and .i64 fl f = 0 <;> simp [h]
theorem refFlag_any (fl f : Int) (w : World) : Calls Tryz.prog 135 #[.int .i64 fl, .int .i64 f] w fun e w' => e = .returned (.bool (!decide (bits .and .i64 fl f = 0))) ∧ w' = w := by
 have HB := hide (flagB fl f)
 go_enter Tryz.func135, Tryz.ntmps135
 go_wp2_with fail
 go_ret
 exact ⟨by first | rfl | rw [← HB.out] | simp [HB.out], rfl⟩
set_option maxRecDepth 100000 in
set_option maxHeartbeats 1000000 in
theorem refOf_none (w : World) : Calls Tryz.prog 136 #[.string ⟨#[]⟩] w (SetIs (fun _ => false) w) := by
 have hb := ((Below.refl w.heap.size w).alloc (Nat.le_refl _) (.cells #[.int .u64 0, .int .u64 0, .int .u64 0, .int .u64 0] 24)).alloc (by simp) (.cells (boolsC fun _ => false).toArray 132)
 have h1' := (Blk.new w 24 #[.int .u64 0, .int .u64 0, .int .u64 0, .int .u64 0]).alloc (.cells (boolsC fun _ => false).toArray 132)
 have h3 := Blk.new (w.alloc (.cells #[.int .u64 0, .int .u64 0, .int .u64 0, .int .u64 0] 24)) 132 (boolsC fun _ => false).toArray
 rw [World.size_alloc] at h3
 have hsz : w.heap.size + 1 < ((w.alloc (.cells #[.int .u64 0, .int .u64 0, .int .u64 0, .int .u64 0] 24)).alloc (.cells (boolsC fun _ => false).toArray 132)).heap.size := by simp
 have H0 := hide (And.intro h3 (And.intro h1' hb))
 clear hb h1' h3
 go_enter Tryz.func136, Tryz.ntmps136
 go_wp2_with (refine wpList_alloc_bools rfl rfl ?_)
 generalize ((w.alloc (.cells #[.int .u64 0, .int .u64 0, .int .u64 0, .int .u64 0] 24)).alloc (.cells (boolsC fun _ => false).toArray 132)) = wr at *
 refine wp_loop_rounds 1 ?_
 rw [rounds_succ]
 have HM := hide (made_any (fun _ => false) wr)
 go_wp2_with (refine wpList_load_bools rfl _ rfl (w.heap.size + 1) _ rfl H0.out.1 ?_)
 refine HM.out.mono ?_
 rintro e w5 ⟨rfl, hb5⟩
 have H5 := hide (And.intro (H0.out.2.1.below hb5 (by have := H0.out.2.1.lt; exact this)) (H0.out.2.2.trans (hb5.mono H0.out.2.2.size)))
 clear hb5 HM
 unfold setV
 simp only [setC]
 go_wp2_with (refine wpList_store_row rfl _ _ _ rfl w.heap.size 0 _ _ _ rfl rfl H5.out.1 Tryz.sizeSetO (by simp) (by simp [Value.oneCell']) ?_)
 intro w9 hrow2 hg9 hz9
 have hrow := hrow2.out
 rw [splice_full (by rfl)] at hrow
 have hb9 := below_grew H5.out.2 hg9 (Nat.le_refl _) (fun q hq => by rw [← Option.some.inj hq]; omega)
 have HF := hide (And.intro hrow hb9)
 clear hrow hrow2 hg9 hz9
 go_wp2_with fail
 refine bodyPost_ret (results_cell_row rfl _ _ w.heap.size _ _ (0, 0) _ rfl HF.out.1 Tryz.underlying24 rfl Tryz.sizeSetO) rfl ?_
 exact ⟨rfl, HF.out.2⟩
set_option maxRecDepth 100000 in
set_option maxHeartbeats 1000000 in
theorem refOne_any (b : Nat) (hb256 : b < 256) (fl : Int) (w : World) : Calls Tryz.prog 112 #[.int .u8 (b : Int), .int .i64 fl] w (BytIs (oneS (!decide (bits .and .i64 fl 2 = 0)) b) w) := by
 have hz0 := Blk.new w 27 zeroCells
 have hbel := (Below.refl w.heap.size w).alloc (Nat.le_refl _) (.cells zeroCells 27)
 have H0 := hide (And.intro hbel hz0)
 clear hz0 hbel
 obtain ⟨ic, hic⟩ : ∃ ic, ic = !decide (bits .and .i64 fl 2 = 0) := ⟨_, rfl⟩
 have HFg := hide (fun w => refFlag_any fl 2 w)
 rw [← hic] at HFg ⊢
 clear hic
 unfold zeroCells at *
 go_enter Tryz.func112, Tryz.ntmps112
 go_upto_region 1 with fail
 generalize (w.alloc (.cells #[.int .i64 0, .int .u64 0, .int .u64 0, .int .u64 0, .int .u64 0, .slice none 0 0, .int .i64 0, .int .i64 0, .int .i64 0, .bool false] 27)) = W at *
 obtain ⟨cs, hcs⟩ : ∃ cs : ByteArray, cs = ⟨#[b.toUInt8]⟩ := ⟨_, rfl⟩
 have HOf := hide (fun (y : World) => show Calls Tryz.prog 136 #[.string cs] y (SetIs (fun x => decide (x = b)) y) from by
  have h1 := refOf_one b.toUInt8 y
  have h2 : b.toUInt8.toNat = b := by simp [Nat.toUInt8]; omega
  rw [h2] at h1
  rw [hcs]
  exact h1)
 have hcv := one_byteR b hb256 W.heap.size (W.alloc (.cells #[.int .u8 (b : Int)] 5)) (by rw [(Blk.new W _ _).cell]; rfl)
 rw [← hcs] at hcv
 clear hcs
 obtain ⟨S, hS⟩ : ∃ S : Nat → Bool, S = fun x => decide (x = b) := ⟨_, rfl⟩
 have HS := hide hS
 rw [← hS] at HOf
 clear hS
 go_wp2_with fail
 refine (HOf.out _).mono ?_
 rintro e w1 ⟨rfl, hb1⟩
 have hb1' := ((Below.refl W.heap.size W).alloc (Nat.le_refl _) (.cells #[.int .u8 (b : Int)] 5)).trans (hb1.mono (by simp))
 have hb2' := hb1'.trans ((Below.refl w1.heap.size w1).alloc (Nat.le_refl _) (.cells #[.int .u64 0, .int .u64 0, .int .u64 0, .int .u64 0] 24) |>.mono hb1'.size)
 have H1 := hide (And.intro (H0.out.1.trans (hb2'.mono H0.out.1.size)) (And.intro (H0.out.2.next hb2') (Blk.new w1 24 #[.int .u64 0, .int .u64 0, .int .u64 0, .int .u64 0])))
 have HZ1 := hide (Nat.lt_of_lt_of_le H0.out.2.lt hb1'.size)
 clear hb1 hb1' hb2' HOf hcv
 have hlt2 := HZ1.out
 go_upto_region 2 with (refine wpList_store_set rfl _ _ rfl w1.heap.size _ _ rfl rfl H1.out.2.2 rfl ?_; intro w2 hrow_w2 hg_w2 hz_w2)
 have H2 := hide (And.intro (below_grew H1.out.1 hg_w2 (Nat.le_refl _) (fun q hq => by rw [← Option.some.inj hq]; omega)) (And.intro (H1.out.2.1.grown hg_w2 (fun e => by have := Option.some.inj e; omega)) hrow_w2))
 clear hg_w2 hz_w2 hrow_w2
 cases ic with
 | false =>
  go_wp2_with fail
  refine (HFg.out _).mono ?_
  rintro e w3 ⟨rfl, rfl⟩
  have cS := H2.out.2.2.cell
  simp only [setC] at cS
  go_wp2_with (refine wpList_store_node rfl _ _ rfl w.heap.size _ (bytT S).hd none 0 0 rfl rfl H2.out.2.1 rfl ?_; intro w9 hrow9 hg9 hz9)
  refine bodyPost_ret (node_result rfl _ _ w.heap.size _ _ rfl hrow9) rfl ?_
  exact ⟨by rw [show oneS false b = S from HS.out.symm], below_grew H2.out.1 hg9 (Nat.le_refl _) (fun q hq => by rw [← Option.some.inj hq]; exact Nat.le_refl _)⟩
 | true =>
  have HFo := hide (fun y => refFold_any S y)
  have HE := hide (show oneS true b = fold5 S from by rw [HS.out]; rfl)
  go_wp2_with fail
  refine (HFg.out _).mono ?_
  rintro e w3 ⟨rfl, rfl⟩
  go_wp2_with (refine wpList_load_set rfl _ rfl w1.heap.size _ rfl H2.out.2.2 ?_)
  refine (HFo.out _).mono ?_
  rintro e w4 ⟨rfl, hb4⟩
  have H3 := hide (And.intro (H2.out.1.trans (hb4.mono H2.out.1.size)) (And.intro (H2.out.2.1.next hb4) (H2.out.2.2.next hb4)))
  clear hb4 HFo
  generalize fold5 S = S2 at *
  go_upto_region 4 with (refine wpList_store_set rfl _ _ rfl w1.heap.size _ _ rfl rfl H3.out.2.2 rfl ?_; intro w5 hrow_w5 hg_w5 hz_w5)
  have H4 := hide (And.intro (below_grew H3.out.1 hg_w5 (Nat.le_refl _) (fun q hq => by rw [← Option.some.inj hq]; omega)) (And.intro (H3.out.2.1.grown hg_w5 (fun e => by have := Option.some.inj e; omega)) hrow_w5))
  clear hg_w5 hz_w5 hrow_w5
  have cS := H4.out.2.2.cell
  simp only [setC] at cS
  go_wp2_with (refine wpList_store_node rfl _ _ rfl w.heap.size _ (bytT S2).hd none 0 0 rfl rfl H4.out.2.1 rfl ?_; intro w9 hrow9 hg9 hz9)
  refine bodyPost_ret (node_result rfl _ _ w.heap.size _ _ rfl hrow9) rfl ?_
  exact ⟨by rw [HE.out], below_grew H4.out.1 hg9 (Nat.le_refl _) (fun q hq => by rw [← Option.some.inj hq]; exact Nat.le_refl _)⟩
set_option maxRecDepth 100000 in
set_option maxHeartbeats 1000000 in
theorem refDot_any (fl : Int) (w : World) : Calls Tryz.prog 109 #[.int .i64 fl] w (BytIs (dotS (!decide (bits .and .i64 fl 4 = 0))) w) := by
 have hz0 := Blk.new w 27 zeroCells
 have hbel := (Below.refl w.heap.size w).alloc (Nat.le_refl _) (.cells zeroCells 27)
 have H0 := hide (And.intro hbel hz0)
 clear hz0 hbel
 obtain ⟨nl, hnl⟩ : ∃ nl, nl = !decide (bits .and .i64 fl 4 = 0) := ⟨_, rfl⟩
 have HFg := hide (fun w => refFlag_any fl 4 w)
 have HOf10 := hide (fun (y : World) => show Calls Tryz.prog 136 #[.string ⟨#[10]⟩] y (SetIs (fun x => decide (x = 10)) y) from refOf_one 10 y)
 rw [← hnl] at HFg ⊢
 clear hnl
 unfold zeroCells at *
 go_enter Tryz.func109, Tryz.ntmps109
 go_upto_region 1 with fail
 generalize (w.alloc (.cells #[.int .i64 0, .int .u64 0, .int .u64 0, .int .u64 0, .int .u64 0, .slice none 0 0, .int .i64 0, .int .i64 0, .int .i64 0, .bool false] 27)) = W at *
 cases nl with
 | false =>
  go_wp2_with fail
  refine (HFg.out _).mono ?_
  rintro e w3 ⟨rfl, rfl⟩
  go_wp2_with fail
  refine (refOf_none _).mono ?_
  rintro e w4 ⟨rfl, hb4⟩
  have H2 := hide (And.intro (H0.out.1.trans (hb4.mono H0.out.1.size)) (H0.out.2.next hb4))
  clear hb4
  generalize hS : (fun _ => false) = S
  have HS := hide hS.symm
  clear hS
  go_wp2_with fail
  refine (refNot_any S _).mono ?_
  rintro e w5 ⟨rfl, hb5⟩
  have H3 := hide (And.intro (H2.out.1.trans (hb5.mono H2.out.1.size)) (H2.out.2.next hb5))
  clear hb5
  generalize hS2 : (fun x => !S x) = S2
  have HS2 := hide hS2.symm
  clear hS2
  unfold setV setC
  go_wp2_with (refine wpList_store_node rfl _ _ rfl w.heap.size _ (bytT S2).hd none 0 0 rfl rfl H3.out.2 rfl ?_; intro w9 hrow9 hg9 hz9)
  refine bodyPost_ret (node_result rfl _ _ w.heap.size _ _ rfl hrow9) rfl ?_
  exact ⟨by rw [bytT_congr (S := dotS false) (T := S2) (fun x hx => by rw [HS2.out, HS.out]; simp [dotS])], below_grew H3.out.1 hg9 (Nat.le_refl _) (fun q hq => by rw [← Option.some.inj hq]; exact Nat.le_refl _)⟩
 | true =>
  go_wp2_with fail
  refine (HFg.out _).mono ?_
  rintro e w3 ⟨rfl, rfl⟩
  go_wp2_with fail
  refine (HOf10.out _).mono ?_
  rintro e w4 ⟨rfl, hb4⟩
  have H2 := hide (And.intro (H0.out.1.trans (hb4.mono H0.out.1.size)) (H0.out.2.next hb4))
  clear hb4
  generalize hS : (fun x => decide (x = 10)) = S
  have HS := hide hS.symm
  clear hS
  go_wp2_with fail
  refine (refNot_any S _).mono ?_
  rintro e w5 ⟨rfl, hb5⟩
  have H3 := hide (And.intro (H2.out.1.trans (hb5.mono H2.out.1.size)) (H2.out.2.next hb5))
  clear hb5
  generalize hS2 : (fun x => !S x) = S2
  have HS2 := hide hS2.symm
  clear hS2
  unfold setV setC
  go_wp2_with (refine wpList_store_node rfl _ _ rfl w.heap.size _ (bytT S2).hd none 0 0 rfl rfl H3.out.2 rfl ?_; intro w9 hrow9 hg9 hz9)
  refine bodyPost_ret (node_result rfl _ _ w.heap.size _ _ rfl hrow9) rfl ?_
  exact ⟨by rw [bytT_congr (S := dotS true) (T := S2) (fun x hx => by rw [HS2.out, HS.out]; simp [dotS])], below_grew H3.out.1 hg9 (Nat.le_refl _) (fun q hq => by rw [← Option.some.inj hq]; exact Nat.le_refl _)⟩
theorem punct_some' (w : World) : Calls Tryz.prog 138 #[.string ⟨#[112, 117, 110, 99, 116]⟩] w fun e w' => e = .returned (.tuple #[setV (memb5 ⟨#[112, 117, 110, 99, 116]⟩), .bool true]) ∧ Below w.heap.size w w' := by
 have h := refNamed_any ⟨#[112, 117, 110, 99, 116]⟩ w
 unfold NamedIs at h
 rw [punct_some] at h
 exact h
set_option maxRecDepth 100000 in
set_option maxHeartbeats 1000000 in
theorem refPunct_any (b : Nat) (hb : b < 256) (w : World) : Calls Tryz.prog 111 #[.int .u8 (b : Int)] w fun e w' => e = .returned (.bool (punct5 b)) ∧ Below w.heap.size w w' := by
 have HN := hide (punct_some' w)
 obtain ⟨S, hS⟩ : ∃ S : Nat → Bool, S = memb5 ⟨#[112, 117, 110, 99, 116]⟩ := ⟨_, rfl⟩
 have HR := hide (show punct5 b = S b from by rw [hS]; rfl)
 rw [← hS] at HN
 clear hS
 have HH := hide (fun (y : World) => show Calls Tryz.prog 139 #[.agg #[.int .u64 ((wd S 0 : Nat) : Int), .int .u64 ((wd S 1 : Nat) : Int), .int .u64 ((wd S 2 : Nat) : Int), .int .u64 ((wd S 3 : Nat) : Int)], .int .u8 (b : Int)] y fun e y' => e = .returned (.bool (S b)) ∧ Below y.heap.size y y' from by
  have h1 := refHas6_any ((wd S 0 : Nat) : Int) ((wd S 1 : Nat) : Int) ((wd S 2 : Nat) : Int) ((wd S 3 : Nat) : Int) b hb y (wd_u64 S 0) (wd_u64 S 1) (wd_u64 S 2) (wd_u64 S 3)
  rw [has_set S b hb] at h1
  exact h1)
 go_enter Tryz.func111, Tryz.ntmps111
 go_wp2_with fail
 refine HN.out.mono ?_
 rintro e w1 ⟨rfl, hb1⟩
 have H1 := hide (hb1.trans ((Below.refl w1.heap.size w1).alloc (Nat.le_refl _) (.cells #[.int .u64 ((wd S 0 : Nat) : Int), .int .u64 ((wd S 1 : Nat) : Int), .int .u64 ((wd S 2 : Nat) : Int), .int .u64 ((wd S 3 : Nat) : Int)] 24) |>.mono hb1.size))
 clear hb1 HN
 unfold setV setC
 go_wp2_with fail
 refine (HH.out _).mono ?_
 rintro e w2 ⟨rfl, hb2⟩
 have H2 := hide (H1.out.trans (hb2.mono H1.out.size))
 clear hb2
 go_wp2_with fail
 go_ret
 exact ⟨by rw [HR.out]; rfl, H2.out⟩
end Go.Proofs.YtpkcklpjbeginaaGreatDoor

/-! ## RefEreB -/
namespace Go.Proofs.YtpkcklpjbeginaaGreatDoor
open Go.RowKit

/-- None, one, or a node of a kind. -/
def T.sev (k : Int) : List T → T
 | [] => .mk ⟨1, 0, 0, 0, 0, 0, 0, 0, false⟩ []
 | [t] => t
 | l => .mk ⟨k, 0, 0, 0, 0, 0, 0, 0, false⟩ l
theorem sev_seq (l : List T) : T.sev 5 l = T.seq l := by
 match l with
 | [] => rfl
 | [t] => rfl
 | a :: b :: r => rfl
/-- What Several answers: its tree lies where the list's trees lie. -/
def SevIs (ok : Nat → Prop) (t : T) (w : World) (e : Ending) (w' : World) : Prop := ∃ B c, e = .returned (.agg (t.hd.cells (.slice B t.subs.length c)).toArray) ∧ T.In w' ok t B ∧ Below w.heap.size w w'
set_option maxRecDepth 100000 in
set_option maxHeartbeats 1000000 in
theorem refSeveral_any (k : Int) (l : List T) (A : Option Addr) (c : Nat) (ok : Nat → Prop) (w : World) (hok : ∀ b, ok b → b < w.heap.size) (hin : TL.In w ok l A) (hl : l.length ≤ 1000000) : Calls Tryz.prog 77 #[.int .i64 k, .slice A l.length c] w (SevIs ok (T.sev k l) w) := by
 have hz0 := Blk.new w 27 zeroCells
 have hbel := (Below.refl w.heap.size w).alloc (Nat.le_refl _) (.cells zeroCells 27)
 have H0 := hide (And.intro hbel hz0)
 have HIN := hide (TL.In.same (ok' := ok) ((same_of_below hbel).mono fun b hb => hok b hb) (fun b hb => hb) hin)
 have HOK := hide hok
 have HZ := hide (World.size_alloc w (.cells zeroCells 27))
 clear hz0 hbel hin hok
 unfold zeroCells at H0 HIN HZ
 have fin : ∀ (w9 : World) (t : T) (B : Option Addr) (W : World), Below w.heap.size w W → W.grownBy w9 (some w.heap.size) → T.In W ok t B → T.In w9 ok t B := fun w9 t B W hb hg ht =>
  ht.same (ok := ok) (fun b h => hg.block b (Nat.lt_of_lt_of_le (HOK.out b h) hb.size) (fun e => by have := Option.some.inj e; have := HOK.out b h; omega)) fun b h => h
 have FIN := hide fin
 clear fin
 match l with
 | [] =>
  go_enter Tryz.func77, Tryz.ntmps77
  go_upto_region 1 with fail
  generalize (w.alloc (.cells #[.int .i64 0, .int .u64 0, .int .u64 0, .int .u64 0, .int .u64 0, .slice none 0 0, .int .i64 0, .int .i64 0, .int .i64 0, .bool false] 27)) = W at *
  go_wp2_with (refine wpList_store_node rfl _ _ rfl w.heap.size _ ⟨1, 0, 0, 0, 0, 0, 0, 0, false⟩ none 0 0 rfl rfl H0.out.2 rfl ?_; intro w9 hrow9 hg9 hz9)
  refine bodyPost_ret (node_result rfl _ _ w.heap.size _ _ rfl hrow9) rfl ?_
  exact ⟨none, 0, rfl, T.In_iff.2 trivial, below_grew H0.out.1 hg9 (Nat.le_refl _) (fun q hq => by rw [← Option.some.inj hq]; exact Nat.le_refl _)⟩
 | [t] =>
  obtain ⟨b, ofs, B, c', rfl, hbk, hcs, hsub⟩ := TL.In.at_ HIN.out (i := 0) (t := t) rfl
  rw [Nat.zero_mul, Nat.add_zero] at hcs
  have HS := hide hsub
  clear hsub
  simp only [List.length_cons, List.length_nil, Nat.zero_add]
  go_enter Tryz.func77, Tryz.ntmps77
  go_upto_region 1 with fail
  generalize (w.alloc (.cells #[.int .i64 0, .int .u64 0, .int .u64 0, .int .u64 0, .int .u64 0, .slice none 0 0, .int .i64 0, .int .i64 0, .int .i64 0, .bool false] 27)) = W at *
  go_upto_region 5 with fail
  obtain ⟨n0, n1, n2, n3, n4, n5, n6, n7, n8, n9⟩ := hcs.node
  go_wp2_with (refine wpList_store_node rfl _ _ rfl w.heap.size _ t.hd B t.subs.length c' rfl rfl H0.out.2 rfl ?_; intro w9 hrow9 hg9 hz9)
  refine bodyPost_ret (node_result rfl _ _ w.heap.size _ _ rfl hrow9) rfl ?_
  exact ⟨B, c', rfl, FIN.out _ _ _ _ H0.out.1 hg9 HS.out, below_grew H0.out.1 hg9 (Nat.le_refl _) (fun q hq => by rw [← Option.some.inj hq]; exact Nat.le_refl _)⟩
 | x :: y :: r =>
  obtain ⟨n, hn⟩ : ∃ n, n = (x :: y :: r).length := ⟨_, rfl⟩
  have hn2 : 2 ≤ n := by rw [hn]; simp
  have g0 : ((n : Int) == 0) = false := by rw [beq_eq_false_iff_ne]; omega
  have g1 : ((n : Int) == 1) = false := by rw [beq_eq_false_iff_ne]; omega
  rw [← hn] at hl ⊢
  have HN := hide hn
  clear hn
  go_enter Tryz.func77, Tryz.ntmps77
  go_upto_region 1 with fail
  generalize (w.alloc (.cells #[.int .i64 0, .int .u64 0, .int .u64 0, .int .u64 0, .int .u64 0, .slice none 0 0, .int .i64 0, .int .i64 0, .int .i64 0, .bool false] 27)) = W at *
  go_wp2_with (refine wpList_store_node rfl _ _ rfl w.heap.size _ ⟨k, 0, 0, 0, 0, 0, 0, 0, false⟩ A n c rfl rfl H0.out.2 rfl ?_; intro w9 hrow9 hg9 hz9)
  refine bodyPost_ret (node_result rfl _ _ w.heap.size _ _ rfl hrow9) rfl ?_
  refine ⟨A, c, by rw [HN.out]; rfl, FIN.out _ (.mk ⟨k, 0, 0, 0, 0, 0, 0, 0, false⟩ (x :: y :: r)) _ _ H0.out.1 hg9 (T.In_iff.2 HIN.out), below_grew H0.out.1 hg9 (Nat.le_refl _) (fun q hq => by rw [← Option.some.inj hq]; exact Nat.le_refl _)⟩
set_option maxRecDepth 100000 in
set_option maxHeartbeats 1000000 in
theorem refFault_any {y : World} {gr B0 : Nat} {p : ByteArray} {I fl g : Int} {ov : Value} {d : Nat} (h : RdS y gr B0 p I fl g ov d 0 0) (hB : B0 ≤ y.heap.size) (code pl : Int) :
  Calls Tryz.prog 74 #[.pointer (some ⟨gr, 0, none⟩), .int .i64 code, .int .i64 pl] y fun e y' => e = .returned (.tuple #[]) ∧ RdS y' gr B0 p I fl g ov d code pl ∧ RdF gr B0 ov.ownBlock ov.ownBlock y y' := by
 have c0 := h.box.cell
 have f0 := h.box.frozen
 have HH := hide h
 clear h
 go_enter Tryz.func74, Tryz.ntmps74
 go_wp2_with fail
 go_end0
 exact ⟨rfl, (HH.out.set 5 (.int .i64 code)).set 6 (.int .i64 pl), ((RdF.refl gr B0 ov.ownBlock y).set HH.out.base 5 (.int .i64 code)).set HH.out.base 6 (.int .i64 pl)⟩
set_option maxRecDepth 100000 in
set_option maxHeartbeats 1000000 in
theorem refIs_any {y : World} {gr B0 : Nat} {p : ByteArray} {I fl g : Int} {ov : Value} {d : Nat} {code pl : Int} (h : RdS y gr B0 p I fl g ov d code pl) (i c : Nat) (hc : c < 256) (hp : p.size ≤ 1024) :
  Calls Tryz.prog 73 #[.pointer (some ⟨gr, 0, none⟩), .int .i64 (i : Int), .int .u8 (c : Int)] y fun e y' => e = .returned (.bool (decide (pb p i = c))) ∧ y' = y := by
 have c0 := h.box.cell
 clear h
 by_cases hi : i < p.size
 ·have g1 : decide ((i : Int) < (p.size : Int)) = true := decide_eq_true (by omega)
  have hb := pb_at hi
  rw [hb]
  by_cases hbc : (p[i]'hi).toNat = c
  ·rw [decide_eq_true hbc]
   have g2 : (((p[i]'hi).toNat : Int) == (c : Int)) = true := by rw [beq_iff_eq]; omega
   clear hb
   go_enter Tryz.func73, Tryz.ntmps73
   go_wp2_with fail
   go_ret
   exact ⟨rfl, rfl⟩
  ·rw [decide_eq_false hbc]
   have g2 : (((p[i]'hi).toNat : Int) == (c : Int)) = false := by rw [beq_eq_false_iff_ne]; omega
   clear hb
   go_enter Tryz.func73, Tryz.ntmps73
   go_wp2_with fail
   go_ret
   exact ⟨rfl, rfl⟩
 ·have g1 : decide ((i : Int) < (p.size : Int)) = false := decide_eq_false (by omega)
  rw [pb_none hi, decide_eq_false (by omega)]
  go_enter Tryz.func73, Tryz.ntmps73
  go_wp2_with fail
  go_ret
  exact ⟨rfl, rfl⟩
/-- What Count answers. -/
def cntR (s : ByteArray) : Int := match numP s with
 | none => -1
 | some n => (n : Int)
theorem numR_step {s : ByteArray} {i n : Nat} (h : i < s.size) : numF s (s.size - i) i n = if 48 ≤ pb s i ∧ pb s i ≤ 57 then numF s (s.size - (i + 1)) (i + 1) (10 * n + (pb s i - 48)) else none := by
 rw [show s.size - i = (s.size - (i + 1)) + 1 by omega, numF]
theorem numR_end {s : ByteArray} {i n : Nat} (h : i = s.size) : numF s (s.size - i) i n = some n := by rw [h, Nat.sub_self]; rfl
set_option maxRecDepth 100000 in
set_option maxHeartbeats 1000000 in
theorem refCount_any (s : ByteArray) (w : World) : Calls Tryz.prog 141 #[.string s] w fun e w' => e = .returned (.int .i64 (cntR s)) ∧ Below w.heap.size w w' := by
 by_cases hbig : s.size < 1 ∨ 3 < s.size
 ·have HN := hide (show cntR s = -1 from by unfold cntR numP; rw [if_pos hbig])
  rcases hbig with h | h
  ·have h1 : ((s.size : Int) == 0) = true := by rw [beq_iff_eq]; omega
   go_enter Tryz.func141, Tryz.ntmps141
   go_wp2_with fail
   go_ret
   exact ⟨by rw [HN.out]; rfl, Below.refl _ _⟩
  ·have h1 : ((s.size : Int) == 0) = false := by rw [beq_eq_false_iff_ne]; omega
   have h2 : decide ((3 : Int) < (s.size : Int)) = true := decide_eq_true (by omega)
   go_enter Tryz.func141, Tryz.ntmps141
   go_wp2_with fail
   go_ret
   exact ⟨by rw [HN.out]; rfl, Below.refl _ _⟩
 ·have h1 : ((s.size : Int) == 0) = false := by rw [beq_eq_false_iff_ne]; omega
  have h2 : decide ((3 : Int) < (s.size : Int)) = false := decide_eq_false (by omega)
  have h3 : s.size ≤ 3 := by omega
  have HN := hide (show numP s = (match numF s (s.size - 0) 0 0 with | none => none | some n => if n ≤ 255 then some n else none) from by unfold numP; rw [if_neg hbig]; rfl)
  clear hbig
  go_enter Tryz.func141, Tryz.ntmps141
  go_wp2_with fail
  go_loopw [3, 4] (fun nv kv wr => ∃ k n : Nat, kv = .int .i64 (k : Int) ∧ nv = .int .i64 (n : Int) ∧ k ≤ s.size ∧ n ≤ 999 ∧ (k ≤ 2 → n ≤ 99) ∧ (k ≤ 1 → n ≤ 9) ∧ (k = 0 → n = 0) ∧ numF s (s.size - k) k n = numF s (s.size - 0) 0 0 ∧ Below w.heap.size w wr) (fun _ kv _ => s.size - (intOf kv).toNat)
  case atStart => exact ⟨0, 0, rfl, rfl, Nat.zero_le _, by omega, fun _ => by omega, fun _ => by omega, fun _ => rfl, rfl, Below.refl _ _⟩
  case round =>
   obtain ⟨k, n, rfl, rfl, hk, hn1, hn2, hn3, hn4, hnum, hb⟩ := hrel
   have HB := hide hb
   clear hb
   by_cases hlt : k < s.size
   case neg =>
    have g1 : decide ((k : Int) < (s.size : Int)) = false := decide_eq_false (by omega)
    have HV := hide (show numP s = if n ≤ 255 then some n else none from by rw [HN.out, ← hnum, numR_end (by omega)])
    clear hnum
    by_cases hbd : n ≤ 255
    ·have g2 : decide (255 < (n : Int)) = false := decide_eq_false (by omega)
     have HW := hide (show cntR s = (n : Int) from by unfold cntR; rw [HV.out, if_pos hbd])
     go_wp2_with fail
     go_ret
     exact ⟨by rw [HW.out]; rfl, HB.out⟩
    ·have g2 : decide (255 < (n : Int)) = true := decide_eq_true (by omega)
     have HW := hide (show cntR s = -1 from by unfold cntR; rw [HV.out, if_neg hbd])
     go_wp2_with fail
     go_ret
     exact ⟨by rw [HW.out]; rfl, HB.out⟩
   case pos =>
    have g1 : decide ((k : Int) < (s.size : Int)) = true := decide_eq_true (by omega)
    have hst := hnum.symm.trans (numR_step hlt)
    rw [pb_at hlt] at hst
    have hc := (s[k]'hlt).toNat_lt
    obtain ⟨b, hb⟩ : ∃ b, b = (s[k]'hlt).toNat := ⟨_, rfl⟩
    rw [← hb] at hst hc
    have HS := hide hst
    clear hst hnum
    by_cases c1 : b < 48
    ·have g2 : (s[k]'hlt).toNat < 48 := by omega
     have HW := hide (show cntR s = -1 from by unfold cntR; rw [HN.out, HS.out, if_neg (by omega)])
     clear hb
     go_wp2_with fail
     go_ret
     exact ⟨by rw [HW.out]; rfl, HB.out⟩
    ·by_cases c2 : 57 < b
     ·have g2 : ¬ (s[k]'hlt).toNat < 48 := by omega
      have g3 : 57 < (s[k]'hlt).toNat := by omega
      have HW := hide (show cntR s = -1 from by unfold cntR; rw [HN.out, HS.out, if_neg (by omega)])
      clear hb
      go_wp2_with fail
      go_ret
      exact ⟨by rw [HW.out]; rfl, HB.out⟩
     ·have g2 : ¬ (s[k]'hlt).toNat < 48 := by omega
      have g3 : ¬ 57 < (s[k]'hlt).toNat := by omega
      have HW := hide (show numF s (s.size - (k + 1)) (k + 1) (10 * n + (b - 48)) = numF s (s.size - 0) 0 0 from by rw [HS.out, if_pos (by omega)])
      have hkk : k = 0 ∨ k = 1 ∨ k = 2 := by omega
      go_wp2_with fail
      go_roundw
      case rel => exact ⟨k + 1, 10 * n + (b - 48), by go_num, by go_num, hlt, by omega, fun _ => by omega, fun _ => by omega, fun _ => by omega, HW.out, HB.out⟩
      case measure => simp [intOf]; omega
/-- What Counts answers. -/
def CountsR (s : ByteArray) (w : World) (e : Ending) (w' : World) : Prop := ∃ u v : Int, e = .returned (.tuple #[.int .i64 u, .int .i64 v, .bool (countsP s).isSome]) ∧ (∀ (n : Nat) (z : Int), countsP s = some (n, z) → u = (n : Int) ∧ v = z) ∧ Below w.heap.size w w'
theorem countsR_of {s : ByteArray} {w w' : World} {u v : Int} {b : Bool} (hb : b = (countsP s).isSome) (h : ∀ (n : Nat) (z : Int), countsP s = some (n, z) → u = (n : Int) ∧ v = z) (h2 : Below w.heap.size w w') : CountsR s w (.returned (.tuple #[.int .i64 u, .int .i64 v, .bool b])) w' := ⟨u, v, by rw [hb], h, h2⟩
/-- The first comma from a place on; -1: there is none. -/
def comR (s : ByteArray) (k : Nat) : Int := if findB s 44 k = s.size then -1 else ((findB s 44 k : Nat) : Int)
theorem comR_end (s : ByteArray) : comR s s.size = -1 := by
 unfold comR
 have := findB_le s 44 s.size (Nat.le_refl _)
 rw [if_pos (by omega)]
theorem findB_here {s : ByteArray} {c k : Nat} (hk : k < s.size) (h : pb s k = c) : findB s c k = k := findB_eq (Nat.le_refl _) (by omega) (fun _ => h) (fun j h1 h2 => by omega)
theorem findB_next {s : ByteArray} {c k : Nat} (hk : k < s.size) (h : pb s k ≠ c) : findB s c k = findB s c (k + 1) := by
 obtain ⟨h1, h2, h3, h4⟩ := findB_spec s c (k + 1) (by omega)
 exact findB_eq (by omega) h2 h3 (fun j h5 h6 => by
  by_cases e : j = k
  ·rw [e]; exact h
  ·exact h4 j (by omega) h6)
set_option maxRecDepth 100000 in
set_option maxHeartbeats 1000000 in
theorem refCounts_any (s : ByteArray) (hs : s.size ≤ 1024) (w : World) : Calls Tryz.prog 114 #[.string s] w (CountsR s w) := by
 have hw0 : IntKind.i64.wrap ((s.size : Int) - 1) = (s.size : Int) - 1 := wrapI (by omega) (by omega)
 go_enter Tryz.func114, Tryz.ntmps114
 go_wp2_with fail
 go_loopw [5, 6] (fun cv kv wr => ∃ k : Nat, kv = .int .i64 ((k : Int) - 1) ∧ cv = .int .i64 (comR s k) ∧ k ≤ s.size ∧ Below w.heap.size w wr) (fun _ kv _ => (intOf kv + 1).toNat)
 case atStart => exact ⟨s.size, by first | rfl | go_num, by rw [comR_end], Nat.le_refl _, Below.refl _ _⟩
 case round =>
  obtain ⟨k, rfl, rfl, hk, hb⟩ := hrel
  have HB := hide hb
  clear hb
  cases k with
  | succ k =>
   have hlt : k < s.size := by omega
   have e0 : (((k + 1 : Nat) : Int) - 1) = (k : Int) := by omega
   rw [e0]
   have g1 : decide (0 ≤ (k : Int)) = true := decide_eq_true (by omega)
   have hb := pb_at hlt
   have hw1 : IntKind.i64.wrap ((k : Int) - 1) = (k : Int) - 1 := wrapI (by omega) (by omega)
   by_cases h44 : (s[k]'hlt).toNat = 44
   ·have g2 : (((s[k]'hlt).toNat : Int) == 44) = true := by rw [beq_iff_eq]; omega
    have HC := hide (show comR s k = (k : Int) from by unfold comR; rw [findB_here hlt (by rw [hb]; exact h44), if_neg (by omega)])
    clear hb
    go_wp2_with fail
    go_roundw
    case rel => exact ⟨k, by first | rfl | go_num, by rw [HC.out], by omega, HB.out⟩
    case measure => first | (simp [intOf]; done) | (simp [intOf]; omega)
   ·have g2 : (((s[k]'hlt).toNat : Int) == 44) = false := by rw [beq_eq_false_iff_ne]; omega
    have HC := hide (show comR s k = comR s (k + 1) from by unfold comR; rw [findB_next hlt (by rw [hb]; exact h44)])
    clear hb
    generalize comR s (k + 1) = q at *
    go_wp2_with fail
    go_roundw
    case rel => exact ⟨k, by first | rfl | go_num, by rw [HC.out], by omega, HB.out⟩
    case measure => first | (simp [intOf]; done) | (simp [intOf]; omega)
  | zero =>
   have g1 : decide (0 ≤ ((0 : Nat) : Int) - 1) = false := by decide
   have HP := hide (countsP_eq s)
   have hle := (findB_spec s 44 0 (Nat.zero_le _)).2.1
   unfold comR
   obtain ⟨f, hf⟩ : ∃ f, f = findB s 44 0 := ⟨_, rfl⟩
   rw [← hf] at HP hle ⊢
   clear hf
   by_cases hfs : f = s.size
   ·rw [if_pos hfs]
    have HP2 := hide (HP.out.trans (if_pos hfs))
    have HC := hide (fun y => refCount_any s y)
    go_wp2_with fail
    refine (HC.out _).mono ?_
    rintro e w2 ⟨rfl, hb2⟩
    have H2 := hide (HB.out.trans (hb2.mono HB.out.size))
    clear hb2
    unfold cntR
    cases hq : numP s with
    | none =>
     rw [hq] at HP2
     simp only at HP2
     go_wp2_with fail
     go_ret3
     exact countsR_of (by rw [HP2.out]; rfl) (fun n z h => by rw [HP2.out] at h; cases h) H2.out
    | some n =>
     rw [hq] at HP2
     simp only at HP2
     have g2 : decide (0 ≤ (n : Int)) = true := decide_eq_true (by omega)
     go_wp2_with fail
     go_ret3
     exact countsR_of (by rw [HP2.out]; rfl) (fun n2 z h => by rw [HP2.out] at h; simp only [Option.some.injEq, Prod.mk.injEq] at h; exact ⟨by omega, by omega⟩) H2.out
   ·rw [if_neg hfs]
    have HP2 := hide (HP.out.trans (if_neg hfs))
    have g3 : decide ((f : Int) < 0) = false := decide_eq_false (by omega)
    have i1 : (f : Int) ≤ (s.size : Int) := by omega
    have HC := hide (fun y => refCount_any (s.extract 0 f) y)
    go_wp2_with fail
    refine (HC.out _).mono ?_
    rintro e w2 ⟨rfl, hb2⟩
    have H2 := hide (HB.out.trans (hb2.mono HB.out.size))
    clear hb2
    have hf1 : f < s.size := by omega
    have HF := hide hfs
    clear i1 g3 hfs
    by_cases hem : f + 1 = s.size
    ·have g4 : ((f : Int) == (s.size : Int) - 1) = true := by rw [beq_iff_eq]; omega
     unfold cntR
     cases hq : numP (s.extract 0 f) with
     | none =>
      rw [hq] at HP2
      simp only at HP2
      go_wp2_with fail
      go_ret3
      exact countsR_of (by rw [HP2.out]; rfl) (fun n z h => by rw [HP2.out] at h; cases h) H2.out
     | some n =>
      rw [hq] at HP2
      have HP3 := hide (show countsP s = some (n, -1) from by rw [HP2.out]; exact if_pos hem)
      have g2 : decide (0 ≤ (n : Int)) = true := decide_eq_true (by omega)
      go_wp2_with fail
      go_ret3
      exact countsR_of (by rw [HP3.out]; rfl) (fun n2 z h => by rw [HP3.out] at h; simp only [Option.some.injEq, Prod.mk.injEq] at h; exact ⟨by omega, by omega⟩) H2.out
    ·have g4 : ((f : Int) == (s.size : Int) - 1) = false := by rw [beq_eq_false_iff_ne]; omega
     have HC2 := hide (fun y => refCount_any (s.extract (f + 1) s.size) y)
     obtain ⟨f1, hf1'⟩ : ∃ f1, f1 = f + 1 := ⟨_, rfl⟩
     have i2 : IntKind.i64.wrap ((f : Int) + 1) = (f1 : Int) := by rw [wrapI (by omega) (by omega)]; omega
     have i4 : (f : Int) + 1 = (f1 : Int) := by omega
     have i3 : (f1 : Int) ≤ (s.size : Int) := by omega
     rw [← hf1'] at HC2 HP2 hem
     have HF1 := hide hf1'
     clear hf1'
     have HE := hide hem
     clear hem
     unfold cntR at HC ⊢
     cases hq : numP (s.extract 0 f) with
     | none =>
      rw [hq] at HP2
      simp only at HP2
      go_wp2_with fail
      refine (HC2.out _).mono ?_
      rintro e w3 ⟨rfl, hb3⟩
      have H3 := hide (H2.out.trans (hb3.mono H2.out.size))
      clear hb3
      have g2 : decide (0 ≤ (-1 : Int)) = false := by decide
      go_wp2_with fail
      go_ret3
      exact countsR_of (by rw [HP2.out]; rfl) (fun n z h => by rw [HP2.out] at h; cases h) H3.out
     | some n =>
      rw [hq] at HP2
      have HP3 := hide (HP2.out.trans (if_neg HE.out))
      unfold cntR at HC2
      have g2 : decide (0 ≤ (n : Int)) = true := decide_eq_true (by omega)
      go_wp2_with fail
      refine (HC2.out _).mono ?_
      rintro e w3 ⟨rfl, hb3⟩
      have H3 := hide (H2.out.trans (hb3.mono H2.out.size))
      clear hb3
      cases hq2 : numP (s.extract f1 s.size) with
      | none =>
       rw [hq2] at HP3
       simp only at HP3
       have g5 : decide ((n : Int) ≤ -1) = false := decide_eq_false (by omega)
       go_wp2_with fail
       go_ret3
       exact countsR_of (by rw [HP3.out]; rfl) (fun n z h => by rw [HP3.out] at h; cases h) H3.out
      | some z =>
       rw [hq2] at HP3
       by_cases hle2 : n ≤ z
       ·have g5 : decide ((n : Int) ≤ (z : Int)) = true := decide_eq_true (by omega)
        have HP4 := hide (show countsP s = some (n, (z : Int)) from by rw [HP3.out]; exact if_pos hle2)
        go_wp2_with fail
        go_ret3
        exact countsR_of (by rw [HP4.out]; rfl) (fun n2 z h => by rw [HP4.out] at h; simp only [Option.some.injEq, Prod.mk.injEq] at h; exact ⟨by omega, by omega⟩) H3.out
       ·have g5 : decide ((n : Int) ≤ (z : Int)) = false := decide_eq_false (by omega)
        have HP4 := hide (show countsP s = none from by rw [HP3.out]; exact if_neg hle2)
        go_wp2_with fail
        go_ret3
        exact countsR_of (by rw [HP4.out]; rfl) (fun n z h => by rw [HP4.out] at h; cases h) H3.out
end Go.Proofs.YtpkcklpjbeginaaGreatDoor

/-! ## RefEreC -/
namespace Go.Proofs.YtpkcklpjbeginaaGreatDoor
open Go.RowKit

/-- What a method of the document's state answers: a tree in memory from lo on, the state behind it; or the first fault stands (and some tree is answered). -/
def SPost (B0 gr : Nat) (p : ByteArray) (fl : Int) (d : Nat) (q : Nat → Prop) (ov : Value) (y : World) (r : PR) (e : Ending) (y' : World) : Prop := match r with
 | .ok t j h => ∃ B c ov', e = .returned (.agg (t.hd.cells (.slice B t.subs.length c)).toArray) ∧ T.In y' (fun b => q b ∧ b < y'.heap.size ∧ ov'.ownBlock ≠ some b) t B ∧ RdS y' gr B0 p (j : Int) fl (h : Int) ov' d 0 0 ∧ RdF gr B0 ov.ownBlock ov'.ownBlock y y'
 | .bad c pl => ∃ t B cc ov' I g', e = .returned (.agg (t.hd.cells (.slice B t.subs.length cc)).toArray) ∧ T.In y' (fun b => q b ∧ b < y'.heap.size ∧ ov'.ownBlock ≠ some b) t B ∧ RdS y' gr B0 p I fl g' ov' d ((c + 1 : Nat) : Int) pl ∧ RdF gr B0 ov.ownBlock ov'.ownBlock y y'
/-- Behind the last store, that of the answer into its block R. -/
theorem rs_fin {y w w' : World} {ty : TypeId} {gr B0 d R : Nat} {q : Nat → Prop} {cs cur : Array Value} {ov : Value} {x : Option Nat} {t : T} {B : Option Addr} (hE : RdG w ty gr B0 cs ov d) (hF : RdF gr B0 x ov.ownBlock y w) (hT : T.In w (fun b => q b ∧ b < w.heap.size ∧ ov.ownBlock ≠ some b ∧ b ≠ R) t B)
  (hg : w.grownBy w' (some R)) (hR : Blk w R 27 cur) (hyR : y.heap.size ≤ R) (hB : B0 ≤ y.heap.size) :
  RdG w' ty gr B0 cs ov d ∧ RdF gr B0 x ov.ownBlock y w' ∧ T.In w' (fun b => q b ∧ b < w'.heap.size ∧ ov.ownBlock ≠ some b) t B := by
 have h1 : R ≠ gr := blk_ne6 hR hE.box (Ne.symm hE.nty.2)
 have h2 : ov.ownBlock ≠ some R := hE.apart hR (by decide)
 refine ⟨hE.grown hg (fun e => h1 (Option.some.inj e)) (.inr h2), hF.grown hg (fun g e => by rw [← Option.some.inj e]; exact hyR) hB, ?_⟩
 exact hT.same (ok := fun b => q b ∧ b < w.heap.size ∧ ov.ownBlock ≠ some b ∧ b ≠ R) (fun b hb => hg.block b hb.2.1 (fun e => hb.2.2.2 (Option.some.inj e))) fun b hb => ⟨hb.1, Nat.lt_of_lt_of_le hb.2.1 hg.size, hb.2.2.1⟩
section
variable {B0 gr : Nat} {p : ByteArray} {fl : Int} {d : Nat} {q : Nat → Prop} {ov ov' : Value} {y w w9 : World} {r : PR}
theorem sok {t : T} {j h R c : Nat} {cur : Array Value} {B : Option Addr} (hr : r = .ok t j h) (hE : RdS w gr B0 p (j : Int) fl (h : Int) ov' d 0 0) (hF : RdF gr B0 ov.ownBlock ov'.ownBlock y w) (hT : T.In w (fun b => q b ∧ b < w.heap.size ∧ ov'.ownBlock ≠ some b ∧ b ≠ R) t B)
  (hg : w.grownBy w9 (some R)) (hR : Blk w R 27 cur) (hyR : y.heap.size ≤ R) (hB : B0 ≤ y.heap.size) : SPost B0 gr p fl d q ov y r (.returned (.agg (t.hd.cells (.slice B t.subs.length c)).toArray)) w9 := by
 subst hr
 obtain ⟨h1, h2, h3⟩ := rs_fin hE hF hT hg hR hyR hB
 exact ⟨B, c, ov', rfl, h3, h1, h2⟩
theorem sbad {t : T} {c R cc : Nat} {pl I g' : Int} {cur : Array Value} {B : Option Addr} (hr : r = .bad c pl) (hE : RdS w gr B0 p I fl g' ov' d ((c + 1 : Nat) : Int) pl) (hF : RdF gr B0 ov.ownBlock ov'.ownBlock y w) (hT : T.In w (fun b => q b ∧ b < w.heap.size ∧ ov'.ownBlock ≠ some b ∧ b ≠ R) t B)
  (hg : w.grownBy w9 (some R)) (hR : Blk w R 27 cur) (hyR : y.heap.size ≤ R) (hB : B0 ≤ y.heap.size) : SPost B0 gr p fl d q ov y r (.returned (.agg (t.hd.cells (.slice B t.subs.length cc)).toArray)) w9 := by
 subst hr
 obtain ⟨h1, h2, h3⟩ := rs_fin hE hF hT hg hR hyR hB
 exact ⟨t, B, cc, ov', I, g', rfl, h3, h1, h2⟩
end
/-- A tree of one below. -/
theorem one_in {w : World} {ok : Nat → Prop} {t : T} {h : Hd} {B : Option Addr} {c g : Nat} (hg : Blk w g 27 (t.hd.cells (.slice B t.subs.length c)).toArray) (hok : ok g) (ht : T.In w ok t B) : T.In w ok (.mk h [t]) (some ⟨g, 0, none⟩) := by
 refine T.In_iff.2 ⟨g, 0, B, c, rfl, hok, fun j u hu => ?_, ht, trivial⟩
 rw [Addr.add_lit, Nat.zero_add, hg.cell]
 simpa using hu
set_option maxRecDepth 100000 in
set_option maxHeartbeats 2000000 in
theorem refCounted_any {y : World} {gr B0 : Nat} {p : ByteArray} {n : Nat} {fl : Int} {g : Nat} {ov : Value} {d : Nat} {q : Nat → Prop} (h : RdS y gr B0 p (n : Int) fl (g : Int) ov d 0 0) (hB0 : B0 ≤ y.heap.size) (hq : ∀ b, y.heap.size ≤ b → q b) (hgq : ¬ q gr) (t : T) (B : Option Addr) (c : Nat) (hnd : t.nodes ≤ 100000) (hin : T.In y (fun b => q b ∧ b < y.heap.size ∧ ov.ownBlock ≠ some b) t B) (u v : Int) (at_ : Nat) :
  Calls Tryz.prog 113 #[.pointer (some ⟨gr, 0, none⟩), .agg (t.hd.cells (.slice B t.subs.length c)).toArray, .int .i64 u, .int .i64 v, .int .i64 (at_ : Int)] y (SPost B0 gr p fl d q ov y (if 2000 < (repT u v t).fullSize then .bad 9 at_ else .ok (repT u v t) n g)) := by
 have hal1 := (Below.refl y.heap.size y).alloc (Nat.le_refl _) (.cells #[.int .i64 t.hd.kind, .int .u64 t.hd.s0, .int .u64 t.hd.s1, .int .u64 t.hd.s2, .int .u64 t.hd.s3, .slice B t.subs.length c, .int .i64 t.hd.num, .int .i64 t.hd.min, .int .i64 t.hd.max, .bool t.hd.bare] 27)
 have hsz1 : (y.alloc (.cells #[.int .i64 t.hd.kind, .int .u64 t.hd.s0, .int .u64 t.hd.s1, .int .u64 t.hd.s2, .int .u64 t.hd.s3, .slice B t.subs.length c, .int .i64 t.hd.num, .int .i64 t.hd.min, .int .i64 t.hd.max, .bool t.hd.bare] 27)).heap.size = y.heap.size + 1 := World.size_alloc _ _
 have hal := hal1.alloc hal1.size (.cells #[.int .i64 0, .int .u64 0, .int .u64 0, .int .u64 0, .int .u64 0, .slice none 0 0, .int .i64 0, .int .i64 0, .int .i64 0, .bool false] 27)
 have hR := Blk.new (y.alloc (.cells #[.int .i64 t.hd.kind, .int .u64 t.hd.s0, .int .u64 t.hd.s1, .int .u64 t.hd.s2, .int .u64 t.hd.s3, .slice B t.subs.length c, .int .i64 t.hd.num, .int .i64 t.hd.min, .int .i64 t.hd.max, .bool t.hd.bare] 27)) 27 #[.int .i64 0, .int .u64 0, .int .u64 0, .int .u64 0, .int .u64 0, .slice none 0 0, .int .i64 0, .int .i64 0, .int .i64 0, .bool false]
 have hT := (Blk.new y 27 #[.int .i64 t.hd.kind, .int .u64 t.hd.s0, .int .u64 t.hd.s1, .int .u64 t.hd.s2, .int .u64 t.hd.s3, .slice B t.subs.length c, .int .i64 t.hd.num, .int .i64 t.hd.min, .int .i64 t.hd.max, .bool t.hd.bare]).alloc (.cells #[.int .i64 0, .int .u64 0, .int .u64 0, .int .u64 0, .int .u64 0, .slice none 0 0, .int .i64 0, .int .i64 0, .int .i64 0, .bool false] 27)
 rw [hsz1] at hR
 have H0 := hide (And.intro (h.next hal) (And.intro (RdF.of_below (gr := gr) (x := ov.ownBlock) hB0 hal) (And.intro hR (And.intro hT hin))))
 have HAL := hide hal
 have HB := hide hB0
 have HZW := hide (show ((y.alloc (.cells #[.int .i64 t.hd.kind, .int .u64 t.hd.s0, .int .u64 t.hd.s1, .int .u64 t.hd.s2, .int .u64 t.hd.s3, .slice B t.subs.length c, .int .i64 t.hd.num, .int .i64 t.hd.min, .int .i64 t.hd.max, .bool t.hd.bare] 27)).alloc (.cells #[.int .i64 0, .int .u64 0, .int .u64 0, .int .u64 0, .int .u64 0, .slice none 0 0, .int .i64 0, .int .i64 0, .int .i64 0, .bool false] 27)).heap.size = y.heap.size + 2 from by rw [World.size_alloc, hsz1])
 clear hal1 hsz1 hal hR hT h hB0 hin
 obtain ⟨res, hres⟩ : ∃ res : PR, res = (if 2000 < (repT u v t).fullSize then .bad 9 at_ else .ok (repT u v t) n g) := ⟨_, rfl⟩
 rw [← hres]
 have HRS := hide hres
 clear hres
 simp only [Hd.cells]
 go_enter Tryz.func113, Tryz.ntmps113
 go_upto_region 1 with fail
 generalize ((y.alloc (.cells #[.int .i64 t.hd.kind, .int .u64 t.hd.s0, .int .u64 t.hd.s1, .int .u64 t.hd.s2, .int .u64 t.hd.s3, .slice B t.subs.length c, .int .i64 t.hd.num, .int .i64 t.hd.min, .int .i64 t.hd.max, .bool t.hd.bare] 27)).alloc (.cells #[.int .i64 0, .int .u64 0, .int .u64 0, .int .u64 0, .int .u64 0, .slice none 0 0, .int .i64 0, .int .i64 0, .int .i64 0, .bool false] 27)) = W at *
 have ct := H0.out.2.2.2.1.cell
 go_upto_region 2 with fail
 have hal1 := (Below.refl W.heap.size W).alloc (Nat.le_refl _) (.cells #[.int .i64 t.hd.kind, .int .u64 t.hd.s0, .int .u64 t.hd.s1, .int .u64 t.hd.s2, .int .u64 t.hd.s3, .slice B t.subs.length c, .int .i64 t.hd.num, .int .i64 t.hd.min, .int .i64 t.hd.max, .bool t.hd.bare] 27)
 have hal2 := hal1.alloc hal1.size (.cells #[.int .i64 8, .int .u64 0, .int .u64 0, .int .u64 0, .int .u64 0, .slice (some ⟨W.heap.size, 0, none⟩) 1 1, .int .i64 0, .int .i64 u, .int .i64 v, .bool false] 27)
 have hrow := (Blk.new W 27 #[.int .i64 t.hd.kind, .int .u64 t.hd.s0, .int .u64 t.hd.s1, .int .u64 t.hd.s2, .int .u64 t.hd.s3, .slice B t.subs.length c, .int .i64 t.hd.num, .int .i64 t.hd.min, .int .i64 t.hd.max, .bool t.hd.bare]).alloc (.cells #[.int .i64 8, .int .u64 0, .int .u64 0, .int .u64 0, .int .u64 0, .slice (some ⟨W.heap.size, 0, none⟩) 1 1, .int .i64 0, .int .i64 u, .int .i64 v, .bool false] 27)
 have hx := Blk.new (W.alloc (.cells #[.int .i64 t.hd.kind, .int .u64 t.hd.s0, .int .u64 t.hd.s1, .int .u64 t.hd.s2, .int .u64 t.hd.s3, .slice B t.subs.length c, .int .i64 t.hd.num, .int .i64 t.hd.min, .int .i64 t.hd.max, .bool t.hd.bare] 27)) 27 #[.int .i64 8, .int .u64 0, .int .u64 0, .int .u64 0, .int .u64 0, .slice (some ⟨W.heap.size, 0, none⟩) 1 1, .int .i64 0, .int .i64 u, .int .i64 v, .bool false]
 rw [World.size_alloc] at hx
 have hB1 : B0 ≤ W.heap.size := by have h1 := HB.out; have h2 := HZW.out; omega
 have hin2 : T.In ((W.alloc (.cells #[.int .i64 t.hd.kind, .int .u64 t.hd.s0, .int .u64 t.hd.s1, .int .u64 t.hd.s2, .int .u64 t.hd.s3, .slice B t.subs.length c, .int .i64 t.hd.num, .int .i64 t.hd.min, .int .i64 t.hd.max, .bool t.hd.bare] 27)).alloc (.cells #[.int .i64 8, .int .u64 0, .int .u64 0, .int .u64 0, .int .u64 0, .slice (some ⟨W.heap.size, 0, none⟩) 1 1, .int .i64 0, .int .i64 u, .int .i64 v, .bool false] 27)) (fun b => q b ∧ b < ((W.alloc (.cells #[.int .i64 t.hd.kind, .int .u64 t.hd.s0, .int .u64 t.hd.s1, .int .u64 t.hd.s2, .int .u64 t.hd.s3, .slice B t.subs.length c, .int .i64 t.hd.num, .int .i64 t.hd.min, .int .i64 t.hd.max, .bool t.hd.bare] 27)).alloc (.cells #[.int .i64 8, .int .u64 0, .int .u64 0, .int .u64 0, .int .u64 0, .slice (some ⟨W.heap.size, 0, none⟩) 1 1, .int .i64 0, .int .i64 u, .int .i64 v, .bool false] 27)).heap.size ∧ ov.ownBlock ≠ some b ∧ b ≠ y.heap.size + 1) t B :=
  H0.out.2.2.2.2.same (fun b hb => (hal2.block b (by have h1 := hb.2.1; have h2 := HZW.out; omega)).trans (HAL.out.block b hb.2.1)) fun b hb => ⟨hb.1, by rw [World.size_alloc, World.size_alloc]; have h1 := hb.2.1; have h2 := HZW.out; omega, hb.2.2, by have := hb.2.1; omega⟩
 have hrw : ov.ownBlock ≠ some W.heap.size := fun e => by have := (H0.out.1.lt _ e).2; omega
 have htr := one_in (h := ⟨8, 0, 0, 0, 0, 0, u, v, false⟩) (ok := fun b => q b ∧ b < ((W.alloc (.cells #[.int .i64 t.hd.kind, .int .u64 t.hd.s0, .int .u64 t.hd.s1, .int .u64 t.hd.s2, .int .u64 t.hd.s3, .slice B t.subs.length c, .int .i64 t.hd.num, .int .i64 t.hd.min, .int .i64 t.hd.max, .bool t.hd.bare] 27)).alloc (.cells #[.int .i64 8, .int .u64 0, .int .u64 0, .int .u64 0, .int .u64 0, .slice (some ⟨W.heap.size, 0, none⟩) 1 1, .int .i64 0, .int .i64 u, .int .i64 v, .bool false] 27)).heap.size ∧ ov.ownBlock ≠ some b ∧ b ≠ y.heap.size + 1) hrow ⟨hq _ (by have h1 := HZW.out; omega), by rw [World.size_alloc, World.size_alloc]; omega, hrw, by have h1 := HZW.out; omega⟩ hin2
 have H1 := hide (And.intro (H0.out.1.next hal2) (And.intro (H0.out.2.1.next hB1 hal2) (And.intro (H0.out.2.2.1.next hal2) (And.intro hx htr))))
 have HZ2 := hide (show ((W.alloc (.cells #[.int .i64 t.hd.kind, .int .u64 t.hd.s0, .int .u64 t.hd.s1, .int .u64 t.hd.s2, .int .u64 t.hd.s3, .slice B t.subs.length c, .int .i64 t.hd.num, .int .i64 t.hd.min, .int .i64 t.hd.max, .bool t.hd.bare] 27)).alloc (.cells #[.int .i64 8, .int .u64 0, .int .u64 0, .int .u64 0, .int .u64 0, .slice (some ⟨W.heap.size, 0, none⟩) 1 1, .int .i64 0, .int .i64 u, .int .i64 v, .bool false] 27)).heap.size = W.heap.size + 2 from by rw [World.size_alloc, World.size_alloc])
 clear hal1 hal2 hrow hx hin2 hrw htr hB1 ct
 generalize ((W.alloc (.cells #[.int .i64 t.hd.kind, .int .u64 t.hd.s0, .int .u64 t.hd.s1, .int .u64 t.hd.s2, .int .u64 t.hd.s3, .slice B t.subs.length c, .int .i64 t.hd.num, .int .i64 t.hd.min, .int .i64 t.hd.max, .bool t.hd.bare] 27)).alloc (.cells #[.int .i64 8, .int .u64 0, .int .u64 0, .int .u64 0, .int .u64 0, .slice (some ⟨W.heap.size, 0, none⟩) 1 1, .int .i64 0, .int .i64 u, .int .i64 v, .bool false] 27)) = W2 at *
 have cx := H1.out.2.2.2.1.cell
 have HSz := hide (refSizeAll_gen (repT u v t) (some ⟨W.heap.size, 0, none⟩) 1 W2 (.inl (by simp only [repT, T.nodes, TL.nodes]; omega)) (H1.out.2.2.2.2.same (Same.refl _ _) fun b hb => hb.2.1))
 go_wp2_with fail
 refine HSz.out.mono ?_
 rintro e w3 ⟨rfl, hb3⟩
 have hBW : B0 ≤ W2.heap.size := by have h1 := HB.out; have h2 := HZW.out; have h3 := HZ2.out; omega
 have H3 := hide (And.intro (H1.out.1.next hb3) (And.intro (H1.out.2.1.next hBW hb3) (And.intro (H1.out.2.2.1.next hb3) (And.intro (H1.out.2.2.2.1.next hb3) (H1.out.2.2.2.2.same (ok' := fun b => q b ∧ b < w3.heap.size ∧ ov.ownBlock ≠ some b ∧ b ≠ y.heap.size + 1) ((same_of_below hb3).mono fun b hb => hb.2.1) fun b hb => ⟨hb.1, Nat.lt_of_lt_of_le hb.2.1 hb3.size, hb.2.2⟩)))))
 have hB3 := Nat.le_trans hBW hb3.size
 have HB3 := hide hB3
 clear hb3 hBW hB3 HSz cx
 generalize hfz : (repT u v t).fullSize = fz at *
 have HFZ := hide hfz
 clear hfz
 by_cases hbig : 2000 < fz
 ·have HE := hide (HRS.out.trans (if_pos hbig))
  have g1 : decide (2000 < fz) = true := decide_eq_true hbig
  have cx := H3.out.2.2.2.1.cell
  have HFt := hide (refFault_any (show RdS w3 gr B0 p (n : Int) fl (g : Int) ov d 0 0 from H3.out.1) HB3.out 10 (at_ : Int))
  go_wp2_with fail
  refine HFt.out.mono ?_
  rintro e w4 ⟨rfl, hE, hF⟩
  have hgr0 := H3.out.1.box.lt
  have H4 := hide (And.intro hE (And.intro (H3.out.2.1.trans hF) (And.intro (hF.blk_ H3.out.2.2.1 (blk_ne6 H3.out.2.2.1 H3.out.1.box (by decide)) (H3.out.1.apart H3.out.2.2.1 (by decide))) (hF.blk_ H3.out.2.2.2.1 (blk_ne6 H3.out.2.2.2.1 H3.out.1.box (by decide)) (H3.out.1.apart H3.out.2.2.2.1 (by decide))))))
  have HKF := hide hF
  clear hE hF HFt cx
  have cx := H4.out.2.2.2.cell
  go_wp2_with (refine wpList_store_node rfl _ _ rfl (y.heap.size + 1) _ (repT u v t).hd (some ⟨W.heap.size, 0, none⟩) 1 1 rfl rfl H4.out.2.2.1 rfl ?_; intro w9 hrow9 hg9 hz9)
  refine bodyPost_ret (node_result rfl _ _ (y.heap.size + 1) _ _ rfl hrow9) rfl ?_
  exact sbad (t := repT u v t) HE.out H4.out.1 H4.out.2.1 (H3.out.2.2.2.2.same (ok' := fun b => q b ∧ b < w4.heap.size ∧ ov.ownBlock ≠ some b ∧ b ≠ y.heap.size + 1) (HKF.out.same.mono fun b hb => ⟨hb.2.1, fun e => hgq (e ▸ hb.1), hb.2.2.1⟩) fun b hb => ⟨hb.1, Nat.lt_of_lt_of_le hb.2.1 HKF.out.below.size, hb.2.2⟩) hg9 H4.out.2.2.1 (by omega) HB.out
 ·have HE := hide (HRS.out.trans (if_neg hbig))
  have g1 : decide (2000 < fz) = false := decide_eq_false hbig
  have cx := H3.out.2.2.2.1.cell
  go_wp2_with (refine wpList_store_node rfl _ _ rfl (y.heap.size + 1) _ (repT u v t).hd (some ⟨W.heap.size, 0, none⟩) 1 1 rfl rfl H3.out.2.2.1 rfl ?_; intro w9 hrow9 hg9 hz9)
  refine bodyPost_ret (node_result rfl _ _ (y.heap.size + 1) _ _ rfl hrow9) rfl ?_
  exact sok (t := repT u v t) HE.out H3.out.1 H3.out.2.1 H3.out.2.2.2.2 hg9 H3.out.2.2.1 (by omega) HB.out
theorem ans_len (r : R5) : r.ans.length = 7 ∧ ∀ u ∈ r.ans, u.oneCell' = true := by
 cases r with
 | good S n => exact ⟨rfl, by simp [R5.ans, Value.oneCell']⟩
 | bad g y => exact ⟨rfl, by simp [R5.ans, Value.oneCell']⟩
set_option maxRecDepth 100000 in
set_option maxHeartbeats 4000000 in
theorem refSet_any {y : World} {gr B0 : Nat} {p : ByteArray} {i : Nat} {fl : Int} {g : Nat} {ov : Value} {d : Nat} (h : RdS y gr B0 p (i : Int) fl (g : Int) ov d 0 0) (hB0 : B0 ≤ y.heap.size) (hp : p.size ≤ 1024) (h91 : pb p i = 91) :
  Calls Tryz.prog 110 #[.pointer (some ⟨gr, 0, none⟩)] y (SPost B0 gr p fl d (fun b => y.heap.size ≤ b) ov y (setAt p (!decide (bits .and .i64 fl 2 = 0)) (!decide (bits .and .i64 fl 4 = 0)) i g)) := by
 obtain ⟨n6, hn8, hn6, hf2, hf4⟩ := flags6 fl
 have HRd := hide (fun (y' : World) => show Calls Tryz.prog 137 #[.string p, .int .i64 (i : Int), .int .i64 (bits .and .i64 fl 6)] y' fun e w' => e = .returned (.agg (readP p i (!decide (bits .and .i64 fl 2 = 0)) (!decide (bits .and .i64 fl 4 = 0))).ans.toArray) ∧ Below y'.heap.size y' w' from by
  have h1 := refRead_any p (i : Int) n6 hn8 (by omega) y'
  unfold refP at h1
  rw [if_pos ⟨by omega, by rw [Int.toNat_natCast]; exact h91⟩, Int.toNat_natCast, ← hf2, ← hf4, ← hn6] at h1
  exact h1)
 unfold setAt
 obtain ⟨r5, hr5⟩ : ∃ r5, r5 = readP p i (!decide (bits .and .i64 fl 2 = 0)) (!decide (bits .and .i64 fl 4 = 0)) := ⟨_, rfl⟩
 rw [← hr5] at HRd ⊢
 clear hr5 hn8 hn6 hf2 hf4 h91
 have hal := ans_len r5
 have HLA := hide (And.intro (show some 7 = some r5.ans.toArray.size from by simp [hal.1]) (And.intro hal.1 hal.2))
 clear hal
 have hz0 := Blk.new y 27 zeroCells
 have hbel := (Below.refl y.heap.size y).alloc (Nat.le_refl _) (.cells zeroCells 27)
 have H0 := hide (And.intro (h.next hbel) (And.intro (RdF.of_below (gr := gr) (x := ov.ownBlock) hB0 hbel) hz0))
 have HB := hide hB0
 have HB1 := hide (Nat.le_trans hB0 hbel.size)
 have HZ1 := hide (show y.heap.size < (y.alloc (.cells zeroCells 27)).heap.size from hz0.lt)
 clear hz0 hbel h hB0
 unfold zeroCells at *
 go_enter Tryz.func110, Tryz.ntmps110
 go_upto_region 1 with fail
 generalize (y.alloc (.cells #[.int .i64 0, .int .u64 0, .int .u64 0, .int .u64 0, .int .u64 0, .slice none 0 0, .int .i64 0, .int .i64 0, .int .i64 0, .bool false] 27)) = W at *
 go_cut [3] (fun v3 wx => ∃ ga, v3 = .pointer (some ⟨ga, 0, none⟩) ∧ W.heap.size ≤ ga ∧ RdS wx gr B0 p (i : Int) fl (g : Int) ov d 0 0 ∧ RdF gr B0 ov.ownBlock ov.ownBlock y wx ∧ Blk wx y.heap.size 27 #[.int .i64 0, .int .u64 0, .int .u64 0, .int .u64 0, .int .u64 0, .slice none 0 0, .int .i64 0, .int .i64 0, .int .i64 0, .bool false] ∧ Blk wx ga 177 r5.ans.toArray ∧ B0 ≤ wx.heap.size)
 case first =>
  refine wp_region_mix (fun z => Below W.heap.size W z) [] (by kernel_rfl) (fun hcl => ?_)
  generalize hz0 : W.drew = z0
  have hS : Below W.heap.size W z0 := by rw [← hz0]; exact (Below.refl _ _).drew
  clear hz0
  refine wpAnyT_free (i := 0) hcl rfl (by kernel_rfl) (v := ?_) (fun _ _ _ h => h) hS (Or.inl ⟨rfl, fun w' _ => ?_⟩) (fun hcl => ?_)
  rotate_left
  ·go_simp
   with_reducible rfl
  simp only [List.getElem_toArray, List.getElem_cons_zero, List.getElem_cons_succ, Act.put, List.setIfInBounds_toArray, List.set_cons_zero, List.set_cons_succ]
  refine wpAnyT_free (i := 1) hcl rfl (by kernel_rfl) (v := ?_) (fun _ _ _ h => h) hS (Or.inl ⟨rfl, fun w' _ => ?_⟩) (fun hcl => ?_)
  rotate_left
  ·go_simp
   with_reducible rfl
  simp only [List.getElem_toArray, List.getElem_cons_zero, List.getElem_cons_succ, Act.put, List.setIfInBounds_toArray, List.set_cons_zero, List.set_cons_succ]
  refine wpAnyT_free (i := 2) hcl rfl (by kernel_rfl) (v := ?_) (fun _ _ _ h => h) hS (Or.inl ⟨rfl, fun w' _ => ?_⟩) (fun hcl => ?_)
  rotate_left
  ·go_simp
   with_reducible rfl
  simp only [List.getElem_toArray, List.getElem_cons_zero, List.getElem_cons_succ, Act.put, List.setIfInBounds_toArray, List.set_cons_zero, List.set_cons_succ]
  refine wpAnyT_take (i := 3) hcl rfl (by kernel_rfl) (v := ?_) (fun _ _ _ h => h) hS (Or.inl ⟨rfl, fun w' hS => ?_⟩) (fun hcl => ?_)
  rotate_left
  ·skip
   have cr : ∀ i : Nat, _ = _ := (H0.out.1.next hS).box.cell
   go_simp
   with_reducible rfl
  simp only [List.getElem_toArray, List.getElem_cons_zero, List.getElem_cons_succ, Act.put, List.setIfInBounds_toArray, List.set_cons_zero, List.set_cons_succ]
  refine wpAnyT_free (i := 4) hcl rfl (by kernel_rfl) (v := ?_) (fun _ _ _ h => h) hS (Or.inl ⟨rfl, fun w' _ => ?_⟩) (fun hcl => ?_)
  rotate_left
  ·go_simp
   with_reducible rfl
  simp only [List.getElem_toArray, List.getElem_cons_zero, List.getElem_cons_succ, Act.put, List.setIfInBounds_toArray, List.set_cons_zero, List.set_cons_succ]
  refine wpAnyT_free (i := 5) hcl rfl (by kernel_rfl) (v := ?_) (fun _ _ _ h => h) hS (Or.inl ⟨rfl, fun w' _ => ?_⟩) (fun hcl => ?_)
  rotate_left
  ·go_simp
   with_reducible rfl
  simp only [List.getElem_toArray, List.getElem_cons_zero, List.getElem_cons_succ, Act.put, List.setIfInBounds_toArray, List.set_cons_zero, List.set_cons_succ]
  refine wpAnyT_free (i := 6) hcl rfl (by kernel_rfl) (v := ?_) (fun _ _ _ h => h) hS (Or.inl ⟨rfl, fun w' _ => ?_⟩) (fun hcl => ?_)
  rotate_left
  ·go_simp
   with_reducible rfl
  simp only [List.getElem_toArray, List.getElem_cons_zero, List.getElem_cons_succ, Act.put, List.setIfInBounds_toArray, List.set_cons_zero, List.set_cons_succ]
  refine wpAnyT_take (i := 7) hcl rfl (by kernel_rfl) (v := ?_) (fun _ _ _ h => h) hS (Or.inl ⟨rfl, fun w' hS => ?_⟩) (fun hcl => ?_)
  rotate_left
  ·skip
   have cr : ∀ i : Nat, _ = _ := (H0.out.1.next hS).box.cell
   go_simp
   with_reducible rfl
  simp only [List.getElem_toArray, List.getElem_cons_zero, List.getElem_cons_succ, Act.put, List.setIfInBounds_toArray, List.set_cons_zero, List.set_cons_succ]
  refine wpAnyT_free (i := 8) hcl rfl (by kernel_rfl) (v := ?_) (fun _ _ _ h => h) hS (Or.inl ⟨rfl, fun w' _ => ?_⟩) (fun hcl => ?_)
  rotate_left
  ·go_simp
   with_reducible rfl
  simp only [List.getElem_toArray, List.getElem_cons_zero, List.getElem_cons_succ, Act.put, List.setIfInBounds_toArray, List.set_cons_zero, List.set_cons_succ]
  refine wpAnyT_free (i := 9) hcl rfl (by kernel_rfl) (v := ?_) (fun _ _ _ h => h) hS (Or.inl ⟨rfl, fun w' _ => ?_⟩) (fun hcl => ?_)
  rotate_left
  ·go_simp
   with_reducible rfl
  simp only [List.getElem_toArray, List.getElem_cons_zero, List.getElem_cons_succ, Act.put, List.setIfInBounds_toArray, List.set_cons_zero, List.set_cons_succ]
  refine wpAnyT_free (i := 10) hcl rfl (by kernel_rfl) (v := ?_) (fun _ _ _ h => h) hS (Or.inl ⟨rfl, fun w' _ => ?_⟩) (fun hcl => ?_)
  rotate_left
  ·go_simp
   with_reducible rfl
  simp only [List.getElem_toArray, List.getElem_cons_zero, List.getElem_cons_succ, Act.put, List.setIfInBounds_toArray, List.set_cons_zero, List.set_cons_succ]
  refine wpAnyT_take (i := 11) hcl rfl (by kernel_rfl) (v := ?_) (fun _ _ _ h => h) hS (Or.inl ⟨rfl, fun w' hS => ?_⟩) (fun hcl => ?_)
  rotate_left
  ·skip
   have cr : ∀ i : Nat, _ = _ := (H0.out.1.next hS).box.cell
   go_simp
   with_reducible rfl
  simp only [List.getElem_toArray, List.getElem_cons_zero, List.getElem_cons_succ, Act.put, List.setIfInBounds_toArray, List.set_cons_zero, List.set_cons_succ]
  refine wpAnyT_free (i := 12) hcl rfl (by kernel_rfl) (v := ?_) (fun _ _ _ h => h) hS (Or.inl ⟨rfl, fun w' _ => ?_⟩) (fun hcl => ?_)
  rotate_left
  ·go_simp
   with_reducible rfl
  simp only [List.getElem_toArray, List.getElem_cons_zero, List.getElem_cons_succ, Act.put, List.setIfInBounds_toArray, List.set_cons_zero, List.set_cons_succ]
  have HS0 := hide hS
  clear hS
  refine wpAnyT_pick2 (i := 13) (j := 14) hcl rfl rfl (by kernel_rfl) (fun hcl => ?_) (fun hcl => ?_)
  ·simp only [List.getElem_toArray, List.getElem_cons_zero, List.getElem_cons_succ, Act.put, List.setIfInBounds_toArray, List.set_cons_zero, List.set_cons_succ]
   go_wp2_with fail
   refine (HRd.out _).mono ?_
   rintro e z1 ⟨rfl, hb⟩
   have HS1 := hide (HS0.out.trans (hb.mono HS0.out.size))
   clear hb
   go_wp2_with fail
   refine ⟨HS1.out, ?_⟩
   refine wpAnyT_step (i := 14) hcl rfl (by kernel_rfl) (fun hcl => ?_)
   simp only [List.getElem_toArray, List.getElem_cons_zero, List.getElem_cons_succ, Act.put, List.setIfInBounds_toArray, List.set_cons_zero, List.set_cons_succ]
   go_wp2_with fail
   have HS2 := hide (HS1.out.alloc HS1.out.size (.cells #[.int .u64 0, .int .u64 0, .int .u64 0, .int .u64 0, .int .i64 0, .int .i64 0, .int .i64 0] 177))
   refine ⟨HS2.out, ?_⟩
   have HBX := hide (Blk.new z1 177 #[.int .u64 0, .int .u64 0, .int .u64 0, .int .u64 0, .int .i64 0, .int .i64 0, .int .i64 0])
   have HG := hide (HS1.out.size)
   generalize (z1.alloc (.cells #[.int .u64 0, .int .u64 0, .int .u64 0, .int .u64 0, .int .i64 0, .int .i64 0, .int .i64 0] 177)) = z2 at *
   generalize z1.heap.size = ga at *
   refine wpAnyT_step (i := 15) hcl rfl (by kernel_rfl) (fun hcl => ?_)
   simp only [List.getElem_toArray, List.getElem_cons_zero, List.getElem_cons_succ, Act.put, List.setIfInBounds_toArray, List.set_cons_zero, List.set_cons_succ]
   refine wpList_store_row rfl _ _ _ rfl ga 0 _ _ _ rfl rfl HBX.out (by rw [Tryz.sizeAns]; exact HLA.out.1) (by have := HLA.out.2.1; simp; omega) HLA.out.2.2 ?_
   intro w8 hrow2 hg9 hz9
   refine wpList_nil ?_
   have hrow := hrow2.out
   rw [splice_full (by simpa using HLA.out.2.1)] at hrow
   have HGy := HG.out
   have hltR := HZ1.out
   have hb9 := HS2.out
   have q1 := RdG.next H0.out.1 hb9
   have q2 := H0.out.2.1.next HB1.out hb9
   have q3 := H0.out.2.2.next hb9
   have HF := hide (And.intro (q1.grown hg9 (fun e => (blk_ne6 HBX.out q1.box (by decide)) (Option.some.inj e)) (.inr (q1.apart HBX.out (by decide)))) (And.intro (q2.grown hg9 (fun q hq => by rw [← Option.some.inj hq]; omega) HB.out) (And.intro (q3.grown hg9 (fun e => by have := Option.some.inj e; omega)) (And.intro hrow (show B0 ≤ w8.heap.size from Nat.le_trans HB1.out (Nat.le_trans hb9.size (Nat.le_of_eq hz9.symm)))))))
   have hS : Below W.heap.size W w8 := below_grew hb9 hg9 (Nat.le_refl _) (fun q hq => by rw [← Option.some.inj hq]; omega)
   refine ⟨hS, ?_⟩
   clear hrow hrow2 hg9 hz9 HGy hltR hb9 q1 q2 q3 hS
   refine wpAnyT_done (by kernel_rfl) ?_ _
   go_wp2_with fail
   go_meet
   case rel => exact ⟨_, rfl, HG.out, HF.out⟩
  ·simp only [List.getElem_toArray, List.getElem_cons_zero, List.getElem_cons_succ, Act.put, List.setIfInBounds_toArray, List.set_cons_zero, List.set_cons_succ]
   go_wp2_with fail
   have HS1 := hide (HS0.out.alloc HS0.out.size (.cells #[.int .u64 0, .int .u64 0, .int .u64 0, .int .u64 0, .int .i64 0, .int .i64 0, .int .i64 0] 177))
   refine ⟨HS1.out, ?_⟩
   have HBX := hide (Blk.new z0 177 #[.int .u64 0, .int .u64 0, .int .u64 0, .int .u64 0, .int .i64 0, .int .i64 0, .int .i64 0])
   have HG := hide (HS0.out.size)
   generalize (z0.alloc (.cells #[.int .u64 0, .int .u64 0, .int .u64 0, .int .u64 0, .int .i64 0, .int .i64 0, .int .i64 0] 177)) = z1 at *
   generalize z0.heap.size = ga at *
   refine wpAnyT_step (i := 13) hcl rfl (by kernel_rfl) (fun hcl => ?_)
   simp only [List.getElem_toArray, List.getElem_cons_zero, List.getElem_cons_succ, Act.put, List.setIfInBounds_toArray, List.set_cons_zero, List.set_cons_succ]
   go_wp2_with fail
   refine (HRd.out _).mono ?_
   rintro e z2 ⟨rfl, hb⟩
   have HS2 := hide (HS1.out.trans (hb.mono HS1.out.size))
   replace HBX := hide (HBX.out.next hb)
   clear hb
   go_wp2_with fail
   refine ⟨HS2.out, ?_⟩
   refine wpAnyT_step (i := 15) hcl rfl (by kernel_rfl) (fun hcl => ?_)
   simp only [List.getElem_toArray, List.getElem_cons_zero, List.getElem_cons_succ, Act.put, List.setIfInBounds_toArray, List.set_cons_zero, List.set_cons_succ]
   refine wpList_store_row rfl _ _ _ rfl ga 0 _ _ _ rfl rfl HBX.out (by rw [Tryz.sizeAns]; exact HLA.out.1) (by have := HLA.out.2.1; simp; omega) HLA.out.2.2 ?_
   intro w8 hrow2 hg9 hz9
   refine wpList_nil ?_
   have hrow := hrow2.out
   rw [splice_full (by simpa using HLA.out.2.1)] at hrow
   have HGy := HG.out
   have hltR := HZ1.out
   have hb9 := HS2.out
   have q1 := RdG.next H0.out.1 hb9
   have q2 := H0.out.2.1.next HB1.out hb9
   have q3 := H0.out.2.2.next hb9
   have HF := hide (And.intro (q1.grown hg9 (fun e => (blk_ne6 HBX.out q1.box (by decide)) (Option.some.inj e)) (.inr (q1.apart HBX.out (by decide)))) (And.intro (q2.grown hg9 (fun q hq => by rw [← Option.some.inj hq]; omega) HB.out) (And.intro (q3.grown hg9 (fun e => by have := Option.some.inj e; omega)) (And.intro hrow (show B0 ≤ w8.heap.size from Nat.le_trans HB1.out (Nat.le_trans hb9.size (Nat.le_of_eq hz9.symm)))))))
   have hS : Below W.heap.size W w8 := below_grew hb9 hg9 (Nat.le_refl _) (fun q hq => by rw [← Option.some.inj hq]; omega)
   refine ⟨hS, ?_⟩
   clear hrow hrow2 hg9 hz9 HGy hltR hb9 q1 q2 q3 hS
   refine wpAnyT_done (by kernel_rfl) ?_ _
   go_wp2_with fail
   go_meet
   case rel => exact ⟨_, rfl, HG.out, HF.out⟩
 case rest =>
 rename World => W3
 obtain ⟨ga, hv3, hga, hst⟩ := hcut
 subst hv3
 have H3 := hide hst
 have HZ3 := hide (Nat.lt_of_lt_of_le HZ1.out hga)
 have hne : y.heap.size < ga := HZ3.out
 clear hst HRd hga HLA H0
 cases r5 with
 | good S n =>
  have c3 := H3.out.2.2.2.1.cell
  have cb := H3.out.1.box.cell
  have fb := H3.out.1.box.frozen
  simp only [R5.ans] at c3
  go_upto_region 6 with fail
  have H4 := hide (And.intro (show RdS (W3.setCell ⟨gr, 1, none⟩ (.int .i64 (n : Int))) gr B0 p (n : Int) fl (g : Int) ov d 0 0 from H3.out.1.set 1 _) (And.intro (H3.out.2.1.set H3.out.1.base 1 (.int .i64 (n : Int))) (And.intro (H3.out.2.2.1.far (blk_ne6 H3.out.2.2.1 H3.out.1.box (by decide)) (p := ⟨gr, 1, none⟩) (.int .i64 (n : Int))) (H3.out.2.2.2.1.far (blk_ne6 H3.out.2.2.2.1 H3.out.1.box (by decide)) (p := ⟨gr, 1, none⟩) (.int .i64 (n : Int))))))
  generalize (W3.setCell ⟨gr, 1, none⟩ (.int .i64 (n : Int))) = W4 at *
  clear c3 cb fb
  have c4 := H4.out.2.2.2.cell
  simp only [R5.ans] at c4
  go_wp2_with (refine wpList_store_node rfl _ _ rfl y.heap.size _ (bytT S).hd none 0 0 rfl rfl H4.out.2.2.1 rfl ?_; intro w9 hrow9 hg9 hz9)
  refine bodyPost_ret (node_result rfl _ _ y.heap.size _ _ rfl hrow9) rfl ?_
  exact sok (t := bytT S) rfl H4.out.1 H4.out.2.1 (T.In_iff.2 trivial) hg9 H4.out.2.2.1 (Nat.le_refl _) HB.out
 | bad q pl =>
  have c3 := H3.out.2.2.2.1.cell
  simp only [R5.ans] at c3
  have gq : (((q + 1 : Nat) : Int) != 0) = true := by rw [bne_iff_ne]; omega
  have HFt := hide (refFault_any H3.out.1 H3.out.2.2.2.2 ((q + 1 : Nat) : Int) pl)
  obtain ⟨q1, hq1⟩ : ∃ q1 : Nat, q1 = q + 1 := ⟨_, rfl⟩
  rw [← hq1] at c3 gq HFt
  have HQ1 := hide hq1
  clear hq1
  go_wp2_with fail
  refine HFt.out.mono ?_
  rintro e w4 ⟨rfl, hE, hF⟩
  have H4 := hide (And.intro hE (And.intro (H3.out.2.1.trans hF) (hF.blk_ H3.out.2.2.1 (blk_ne6 H3.out.2.2.1 H3.out.1.box (by decide)) (H3.out.1.apart H3.out.2.2.1 (by decide)))))
  clear hE hF HFt c3 gq
  go_wp2_with (refine wpList_store_node rfl _ _ rfl y.heap.size _ ⟨0, 0, 0, 0, 0, 0, 0, 0, false⟩ none 0 0 rfl rfl H4.out.2.2 rfl ?_; intro w9 hrow9 hg9 hz9)
  refine bodyPost_ret (node_result rfl _ _ y.heap.size _ _ rfl hrow9) rfl ?_
  exact sbad (t := nilT) rfl (by rw [← HQ1.out]; exact H4.out.1) H4.out.2.1 (T.In_iff.2 trivial) hg9 H4.out.2.2 (Nat.le_refl _) HB.out
end Go.Proofs.YtpkcklpjbeginaaGreatDoor

/-! ## RefEreD -/
namespace Go.Proofs.YtpkcklpjbeginaaGreatDoor
open Go.RowKit
theorem refIsZ_any {y : World} {gr B0 : Nat} {p : ByteArray} {I fl g : Int} {ov : Value} {d : Nat} {code pl : Int} (h : RdS y gr B0 p I fl g ov d code pl) (i c : Nat) (hc : c < 256) (hp : p.size ≤ 1024) (z : Int) (hz : z = (c : Int)) (b : Bool) (hb : decide (pb p i = c) = b) :
  Calls Tryz.prog 73 #[.pointer (some ⟨gr, 0, none⟩), .int .i64 (i : Int), .int .u8 z] y fun e y' => e = .returned (.bool b) ∧ y' = y := by
 subst hz hb
 exact refIs_any h i c hc hp
end Go.Proofs.YtpkcklpjbeginaaGreatDoor

/-! ## RefEreE -/
namespace Go.Proofs.YtpkcklpjbeginaaGreatDoor
open Go.RowKit
end Go.Proofs.YtpkcklpjbeginaaGreatDoor
