/- bracket.named. -/
import Derived.Test.YtpkcklpjbeginaaGreatDoorRefBr
import Derived.Test.YtpkcklpjbeginaaGreatDoorAsFault
set_option linter.unusedSimpArgs false
set_option linter.unusedVariables false
namespace Go.Proofs.YtpkcklpjbeginaaGreatDoor
open Go.RowKit

/-- What a reading answers: a set and the place behind, or an error and its place. -/
inductive R5 where
 | good (S : Nat → Bool) (n : Nat)
 | bad (g : Nat) (pl : Int)
/-- What the laws of this chapter ask of the program's variables. -/
structure B5 (w : World) (a : Nat → Addr) (m : Int) : Prop where
 errs : Errs w a
 ml : w.cell? ⟨22, 0, none⟩ = some (.int .i64 m)
theorem B5.below {w w' : World} {a : Nat → Addr} {m : Int} (h : B5 w a m) (hb : Below w.heap.size w w') : B5 w' a m := ⟨h.errs.below hb, (hb.cell (World.block_lt_of_cell? w _ h.ml)).trans h.ml⟩
def R5.Is (r : R5) (a : Nat → Addr) (w : World) (e : Ending) (w' : World) : Prop := match r with
 | .good S n => e = .returned (.tuple #[setV S, .int .i64 (n : Int), .nilIface]) ∧ Below w.heap.size w w'
 | .bad g pl => ∃ gf, e = .returned (.tuple #[setV (fun _ => false), .int .i64 0, faultV gf]) ∧ w.heap.size ≤ gf ∧ Blk w' gf 87 #[.int .i64 pl, errV (a (sentVar g))] ∧ Below w.heap.size w w'
/-- The contract of class.Named. -/
def Named5Ok (a : Nat → Addr) : Prop := ∀ (s : ByteArray) (w : World), w.cell? ⟨8, 0, none⟩ = some (errV (a 8)) → Calls Tryz.prog 149 #[.string s] w fun e w' => e = .returned (.tuple #[setV (memb5 s), if (cls5 s.toList).isSome then .nilIface else errV (a 8)]) ∧ Below w.heap.size w w'
/-- What a named class answers. -/
def namedP (p : ByteArray) (i : Nat) (pl : Int) : R5 :=
 if clo p (i + 2) < 0 then .bad 0 pl
 else if (cls5 (p.extract (i + 2) (clo p (i + 2)).toNat).toList).isSome then .good (memb5 (p.extract (i + 2) (clo p (i + 2)).toNat)) ((clo p (i + 2)).toNat + 2)
 else .bad 5 (i : Int)
theorem zeroC : (setC fun _ => false).toArray = #[.int .u64 0, .int .u64 0, .int .u64 0, .int .u64 0] := by unfold setC; rw [wd_none, wd_none, wd_none, wd_none]; rfl
set_option maxRecDepth 100000 in
set_option maxHeartbeats 1000000 in
theorem named_any (p : ByteArray) (i : Nat) (pl : Int) (hi : i + 1 < p.size) (hs : p.size < 4294967281) (a : Nat → Addr) (m : Int) (hN : Named5Ok a) (w : World) (hB : B5 w a m) : Calls Tryz.prog 167 #[.string p, .int .i64 (i : Int), .int .i64 pl] w (R5.Is (namedP p i pl) a w) := by
 obtain ⟨r, hr⟩ : ∃ r, r = namedP p i pl := ⟨_, rfl⟩
 rw [← hr]
 have HR := hide hr
 clear hr
 have hb := (Below.refl w.heap.size w).alloc (Nat.le_refl _) (.cells #[.int .u64 0, .int .u64 0, .int .u64 0, .int .u64 0] 24)
 have h1 := Blk.new w 24 #[.int .u64 0, .int .u64 0, .int .u64 0, .int .u64 0]
 have H0 := hide (And.intro h1 (And.intro hb (hB.below hb)))
 clear hb h1 hB
 have hw2 : IntKind.i64.wrap ((i : Int) + 2) = (i : Int) + 2 := by simp [IntKind.wrap, IntKind.bits, IntKind.signed]; omega
 have hn2 : ((i : Int) + 2).toNat = i + 2 := by omega
 have hc2 : (0 : Int) ≤ (i : Int) + 2 ∧ (i : Int) + 2 ≤ (p.size : Int) := by omega
 have HI := hide hi
 have HS := hide hs
 have HN := hide hN
 clear hi hs hN
 go_enter Tryz.func167, Tryz.ntmps167
 go_upto_region 1 with fail
 generalize (w.alloc (.cells #[.int .u64 0, .int .u64 0, .int .u64 0, .int .u64 0] 24)) = W at *
 go_wp2_with fail
 refine (index_any _ _ m W ?_ H0.out.2.2.ml).mono ?_
 ·have := HS.out
  simp
  omega
 rintro e w1 ⟨rfl, hw⟩
 subst hw
 have hx : (p.extract (i + 2) p.size).data.toList = p.data.toList.drop (i + 2) := by
  simp
  apply List.take_of_length_le
  simp
 rw [hx, show ({ data := #[58, 93] } : ByteArray).data.toList = [58, 93] from rfl]
 clear hx
 have hge := Lib.index_ge (p.data.toList.drop (i + 2)) [58, 93]
 have HC := hide (show clo p (i + 2) = if Lib.index (p.data.toList.drop (i + 2)) [58, 93] = -1 then -1 else ((i + 2 : Nat) : Int) + Lib.index (p.data.toList.drop (i + 2)) [58, 93] from rfl)
 generalize Lib.index (p.data.toList.drop (i + 2)) [58, 93] = n at *
 by_cases hn : n = -1
 ·have HR2 := hide (show r = .bad 0 pl by rw [HR.out]; unfold namedP; rw [HC.out, if_pos hn, if_pos (by decide)])
  clear HC HR hge
  subst hn
  have ce := H0.out.2.2.errs.var 3 (by decide)
  go_wp2_with fail
  refine (fault_any pl (a 3) w1).mono ?_
  rintro e w2 ⟨gf, rfl, hgf, hbf, hb2⟩
  have H2 := hide (And.intro (H0.out.1.below hb2 (by have := H0.out.1.lt; omega)) (And.intro (H0.out.2.1.trans (hb2.mono H0.out.2.1.size)) hbf))
  have HG := hide (And.intro hgf hbf.lt)
  have hz2 := hb2.size
  have hz1 := H0.out.2.1.size
  have hne := H0.out.1.lt
  clear hgf hbf hb2
  unfold faultV
  go_wp2_with (refine wpList_store_row rfl _ _ _ rfl w.heap.size 0 _ _ _ rfl rfl H2.out.1 Tryz.sizeSetO (by simp) (by simp [Value.oneCell']) ?_)
  intro w9 hrow2 hg9 hz9
  have hrow := hrow2.out
  rw [splice_full (by rfl)] at hrow
  have hb9 := below_grew H2.out.2.1 hg9 (Nat.le_refl _) (fun q hq => by rw [← Option.some.inj hq]; exact Nat.le_refl _)
  have HF := hide (And.intro hrow (And.intro hb9 (H2.out.2.2.grown hg9 (fun e => by have := Option.some.inj e; have := HG.out.1; omega))))
  clear hrow hrow2 hg9 hz9 hb9
  go_wp2_with fail
  have c9 : ∀ i : Nat, _ = _ := HF.out.1.cell
  refine bodyPost_ret (v := .tuple #[setV (fun _ => false), .int .i64 0, faultV gf]) (by rw [setV_none]; unfold faultV; simp [results, Tryz.results167, go_sem, c9]) rfl ?_
  rw [HR2.out]
  exact ⟨gf, rfl, by have := HG.out.1; omega, HF.out.2.2, HF.out.2.1⟩
 ·have hn0 : 0 ≤ n := by omega
  have hc := HC.out
  rw [if_neg hn] at hc
  have hin := clo_in (p := p) (k := i + 2) (by rw [hc]; omega)
  rw [hc] at hin
  obtain ⟨k, rfl⟩ : ∃ k : Nat, n = k := ⟨n.toNat, by omega⟩
  have HR2 := hide (show r = if (cls5 (p.extract (i + 2) (i + 2 + k)).toList).isSome then .good (memb5 (p.extract (i + 2) (i + 2 + k))) (i + 2 + k + 2) else .bad 5 (i : Int) by
   rw [HR.out]; unfold namedP
   rw [hc, if_neg (by omega), show (((i + 2 : Nat) : Int) + (k : Int)).toNat = i + 2 + k by omega])
  clear HC HR hge hc hn hn0
  have hk2 : i + 2 + k + 2 ≤ p.size := by omega
  have hlt : ¬ (k : Int) < 0 := by omega
  have hw3 : IntKind.i64.wrap ((i : Int) + 2 + (k : Int)) = (i : Int) + 2 + (k : Int) := by have := HS.out; simp [IntKind.wrap, IntKind.bits, IntKind.signed]; omega
  have hn3 : ((i : Int) + 2 + (k : Int)).toNat = i + 2 + k := by omega
  have hc3 : (0 : Int) ≤ (i : Int) + 2 + (k : Int) ∧ (i : Int) + 2 + (k : Int) ≤ (p.size : Int) := by omega
  have hc4 : (i : Int) + 2 ≤ (i : Int) + 2 + (k : Int) := by omega
  go_wp2_with fail
  have ce := H0.out.2.2.errs.var 8 (by decide)
  refine (HN.out _ w1 ce).mono ?_
  rintro e w2 ⟨rfl, hb2⟩
  have H2 := hide (And.intro (H0.out.1.below hb2 H0.out.1.lt) (H0.out.2.1.trans (hb2.mono H0.out.2.1.size)))
  clear hb2 ce H0
  generalize memb5 (p.extract (i + 2) (i + 2 + k)) = R at *
  generalize (cls5 (p.extract (i + 2) (i + 2 + k)).toList).isSome = sm at *
  have hal := (Below.refl w2.heap.size w2).alloc (Nat.le_refl _) (.cells #[.int .u64 0, .int .u64 0, .int .u64 0, .int .u64 0] 24)
  have hzb := Blk.new w2 24 #[.int .u64 0, .int .u64 0, .int .u64 0, .int .u64 0]
  have hz1 := H2.out.2.size
  have hz2 := H2.out.1.lt
  unfold setV setC
  cases sm with
  | true =>
   simp only [if_true] at HR2
   go_wp2_with (refine wpList_store_row rfl _ _ _ rfl w2.heap.size 0 _ _ _ rfl rfl hzb Tryz.sizeSetO (by simp) (by simp [Value.oneCell']) ?_)
   intro w3 hrow2 hg9 hz9
   have hrow := hrow2.out
   rw [splice_full (by rfl)] at hrow
   have hbE : Below w2.heap.size w2 w3 := below_grew hal hg9 (Nat.le_refl _) (fun q hq => by rw [← Option.some.inj hq]; exact Nat.le_refl _)
   have H3 := hide (And.intro (H2.out.1.below hbE hz2) (And.intro (H2.out.2.trans (hbE.mono hz1)) (show Blk w3 w2.heap.size 24 (setC R).toArray from hrow)))
   have hz3 := hbE.size
   clear hrow hrow2 hg9 hz9 hbE hal hzb H2
   have hw4 : IntKind.i64.wrap ((i : Int) + (k : Int)) = (i : Int) + (k : Int) := by have := HS.out; simp [IntKind.wrap, IntKind.bits, IntKind.signed]; omega
   have hw5 : IntKind.i64.wrap ((i : Int) + (k : Int) + 4) = (i : Int) + (k : Int) + 4 := by have := HS.out; simp [IntKind.wrap, IntKind.bits, IntKind.signed]; omega
   have cb : ∀ i : Nat, _ = _ := H3.out.2.2.cell
   simp only [setC] at cb
   go_wp2_with (refine wpList_store_row rfl _ _ _ rfl w.heap.size 0 _ _ _ rfl rfl H3.out.1 Tryz.sizeSetO (by simp) (by simp [Value.oneCell']) ?_)
   intro w9 hrow2 hg9 hz9
   have hrow := hrow2.out
   rw [splice_full (by rfl)] at hrow
   have hb9 := below_grew H3.out.2.1 hg9 (Nat.le_refl _) (fun q hq => by rw [← Option.some.inj hq]; exact Nat.le_refl _)
   have HF := hide (And.intro (show Blk w9 w.heap.size 24 (setC R).toArray from hrow) hb9)
   clear hrow hrow2 hg9 hz9 hb9 cb
   go_wp2_with fail
   have c9 : ∀ i : Nat, _ = _ := HF.out.1.cell
   simp only [setC] at c9
   refine bodyPost_ret (v := .tuple #[setV R, .int .i64 ((i + 2 + k + 2 : Nat) : Int), .nilIface]) (by unfold setV setC; simp [results, Tryz.results167, go_sem, c9]; try omega) rfl ?_
   rw [HR2.out]
   exact ⟨rfl, HF.out.2⟩
  | false =>
   have hev : errV (a 8) = .iface 211 (.pointer (some (a 8))) := rfl
   go_wp2_with (refine wpList_store_row rfl _ _ _ rfl w2.heap.size 0 _ _ _ rfl rfl hzb Tryz.sizeSetO (by simp) (by simp [Value.oneCell']) ?_)
   intro w3 hrow2 hg9 hz9
   have hrow := hrow2.out
   rw [splice_full (by rfl)] at hrow
   have hbE : Below w2.heap.size w2 w3 := below_grew hal hg9 (Nat.le_refl _) (fun q hq => by rw [← Option.some.inj hq]; exact Nat.le_refl _)
   have H3 := hide (And.intro (H2.out.1.below hbE hz2) (And.intro (H2.out.2.trans (hbE.mono hz1)) (show Blk w3 w2.heap.size 24 (setC R).toArray from hrow)))
   have hz3 := hbE.size
   clear hrow hrow2 hg9 hz9 hbE hal hzb H2
   have hw4 : IntKind.i64.wrap ((i : Int) + (k : Int)) = (i : Int) + (k : Int) := by have := HS.out; simp [IntKind.wrap, IntKind.bits, IntKind.signed]; omega
   have hw5 : IntKind.i64.wrap ((i : Int) + (k : Int) + 4) = (i : Int) + (k : Int) + 4 := by have := HS.out; simp [IntKind.wrap, IntKind.bits, IntKind.signed]; omega
   simp only [Bool.false_eq_true, if_false] at HR2
   have hnn := fun w => run_eql_iface_nil (P := Tryz.prog) (w := w) 32 (by kernel_rfl) 211 (.pointer (some (a 8)))
   go_wp2_with fail
   refine (fault_any (i : Int) (a 8) w3).mono ?_
   rintro e w4 ⟨gf, rfl, hgf, hbf, hb4⟩
   have H4 := hide (And.intro (H3.out.1.below hb4 (by have := H3.out.1.lt; omega)) (And.intro (H3.out.2.1.trans (hb4.mono H3.out.2.1.size)) hbf))
   have HG := hide (And.intro hgf hbf.lt)
   have hz4 := hb4.size
   have hz5 := H3.out.2.1.size
   have hne := H3.out.1.lt
   clear hgf hbf hb4
   unfold faultV
   go_wp2_with (refine wpList_store_row rfl _ _ _ rfl w.heap.size 0 _ _ _ rfl rfl H4.out.1 Tryz.sizeSetO (by simp) (by simp [Value.oneCell']) ?_)
   intro w9 hrow2 hg9 hz9
   have hrow := hrow2.out
   rw [splice_full (by rfl)] at hrow
   have hb9 := below_grew H4.out.2.1 hg9 (Nat.le_refl _) (fun q hq => by rw [← Option.some.inj hq]; exact Nat.le_refl _)
   have HF := hide (And.intro hrow (And.intro hb9 (H4.out.2.2.grown hg9 (fun e => by have := Option.some.inj e; have := HG.out.1; omega))))
   clear hrow hrow2 hg9 hz9 hb9
   go_wp2_with fail
   have c9 : ∀ i : Nat, _ = _ := HF.out.1.cell
   refine bodyPost_ret (v := .tuple #[setV (fun _ => false), .int .i64 0, faultV gf]) (by rw [setV_none]; unfold faultV; simp [results, Tryz.results167, go_sem, c9]) rfl ?_
   rw [HR2.out]
   exact ⟨gf, rfl, by have := HG.out.1; omega, HF.out.2.2, HF.out.2.1⟩
end Go.Proofs.YtpkcklpjbeginaaGreatDoor
