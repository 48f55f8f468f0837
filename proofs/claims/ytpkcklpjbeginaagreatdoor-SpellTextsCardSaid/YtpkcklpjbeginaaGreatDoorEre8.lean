/- Nest8: spell.nest and trawlref08.Nest: how many groups stand in one another. (Printed by gen_nest8.py.)
Ref8: trawlref08.fits, kinds, numbers: is a tree tidy? (Printed by gen_ref8.py.)
Write8: spell.write: a tree's text, written into a builder. (Printed by gen_write8.py.)
Tidy8: spell.tidy: is a node tidy, and what is below it? a counter of groups behind a pointer. (Printed by gen_tidy8.py.)
Ere8: spell.Tidy, spell.Ere. (Printed by gen_ere8.py.)
Lives8: trawllaw08.lives: what the chapter's laws look at ahead. -/
import Derived.Test.YtpkcklpjbeginaaGreatDoorSpellP
import Derived.Test.YtpkcklpjbeginaaGreatDoorInts
import Derived.Test.YtpkcklpjbeginaaGreatDoorMake2
import Derived.Laws.AppendOwnNone
import Derived.Test.YtpkcklpjbeginaaGreatDoorSet8
import Derived.Test.YtpkcklpjbeginaaGreatDoorRep8
import Derived.Test.YtpkcklpjbeginaaGreatDoorTxtBack8
import Derived.Deep.DeepCutAuto
import Derived.Test.YtpkcklpjbeginaaGreatDoorCheck
import Derived.Test.YtpkcklpjbeginaaGreatDoorText
set_option linter.unusedSimpArgs false
set_option linter.unusedVariables false
set_option linter.unnecessarySimpa false

/-! ## Nest8 -/
namespace Go.Proofs.YtpkcklpjbeginaaGreatDoor
open Go.RowKit

theorem TL.nest_take (l : List T) (k : Nat) : 0 ≤ (l.take k).foldl (fun n s => mx2 n s.nest) 0 ∧ (l.take k).foldl (fun n s => mx2 n s.nest) 0 ≤ TL.nodes l := by
 rw [← TL.nest_eq]
 have h1 := TL.nest_bd (l.take k) 0
 have h2 : TL.nodes (l.take k) ≤ TL.nodes l := by
  have : ∀ (l : List T) (k : Nat), TL.nodes (l.take k) ≤ TL.nodes l := by
   intro l
   induction l with
   | nil => intro k; simp [TL.nodes]
   | cons t ts ih => intro k; cases k with
    | zero => simp [TL.nodes]
    | succ k => simp only [List.take_succ_cons, TL.nodes]; have := ih k; omega
  exact this l k
 omega
set_option maxRecDepth 100000 in
set_option maxHeartbeats 1000000 in
theorem nest8_any (N : Nat) : ∀ (t : T) (A : Option Addr) (c : Nat) (w : World), t.nodes ≤ N → N ≤ 1000000 → T.In w (· < w.heap.size) t A →
  Calls Tryz.prog 31 #[.agg (t.hd.cells (.slice A t.subs.length c)).toArray] w fun e w' => e = .returned (.int .i64 t.nest) ∧ Below w.heap.size w w' := by
 induction N with
 | zero => intro t A c w h; have := t.nodes_pos; omega
 | succ N ih =>
  intro t A c w hN hM hin
  obtain ⟨h, l⟩ := t
  obtain ⟨kind, s0, s1, s2, s3, num, mn, mx, bare⟩ := h
  have hlen := T.length_lt (T.mk ⟨kind, s0, s1, s2, s3, num, mn, mx, bare⟩ l)
  simp only [T.nodes] at hN
  simp only [T.nodes, T.hd, T.subs, Hd.cells] at hlen ⊢
  have hgoal : (T.mk ⟨kind, s0, s1, s2, s3, num, mn, mx, bare⟩ l).nest = l.foldl (fun n s => mx2 n s.nest) 0 + (if kind = 7 then 1 else 0) := by rw [T.nest, TL.nest_eq]
  obtain ⟨res, hres⟩ : ∃ r, r = (T.mk ⟨kind, s0, s1, s2, s3, num, mn, mx, bare⟩ l).nest := ⟨_, rfl⟩
  rw [← hres]
  have HR := hide (hres.trans hgoal)
  clear hgoal hres
  go_enter Tryz.func31, Tryz.ntmps31
  go_wp2_with fail
  go_loopw [3, 9] (fun cv kv wr => ∃ (k : Nat) (cur : Int), kv = .int .i64 k ∧ cv = .int .i64 cur ∧ FoldInv l (fun n s => mx2 n s.nest) w wr w.heap.size #[.int .i64 kind, .int .u64 s0, .int .u64 s1, .int .u64 s2, .int .u64 s3, .slice A l.length c, .int .i64 num, .int .i64 mn, .int .i64 mx, .bool bare] k 0 cur)
   (fun _ kv _ => l.length - (intOf kv).toNat)
  case atStart => exact ⟨0, 0, rfl, rfl, ⟨Nat.zero_le _, rfl, Blk.new _ _ _, (Below.refl _ _).alloc (Nat.le_refl _) _⟩⟩
  case round =>
   obtain ⟨k, cur, rfl, rfl, hinv⟩ := hrel
   have hk := hinv.le
   have c0 := hinv.box.cell
   have z0 := hinv.box.lt
   by_cases hlt : k < l.length
   ·have g1 : decide ((k : Int) < (l.length : Int)) = true := by simp; omega
    have hs := List.getElem?_eq_getElem hlt
    obtain ⟨b, o, B, c', rfl, hbk, hcs, hsub⟩ := TL.In.at_ (T.In_iff.1 hin) hs
    have hmem := List.getElem_mem hlt
    have hsn := TL.nodes_mem hmem
    generalize l[k] = s at *
    obtain ⟨n0, n1, n2, n3, n4, n5, n6, n7, n8, n9⟩ := (hcs.same (same_of_below hinv.below) hbk).node
    have HS := hide hs
    have HI := hide hinv
    have hbx := hide (hinv.below)
    have HX := hide (fun y hy => ih s B c' y (by omega) (by omega) hy)
    have HB := hide (hsub.same (ok' := (· < wr.heap.size)) (same_of_below hinv.below) (fun x hx => Nat.lt_of_lt_of_le hx hinv.below.size))
    clear hs hcs hinv
    go_wp2_with fail
    refine (HX.out _ (HB.out.same (fun b hb => Below.heap_alloc _ _ _ hb) (fun b hb => by simp; omega))).mono ?_
    rintro e w1 ⟨rfl, hb1⟩
    have hb1' : Below wr.heap.size wr w1 := ((Below.refl _ _).alloc (Nat.le_refl _) _).trans (hb1.mono (by simp))
    have hm : max cur s.nest = mx2 cur s.nest := by unfold mx2; split <;> omega
    obtain ⟨nxt, hn⟩ : ∃ n, n = mx2 cur s.nest := ⟨_, rfl⟩
    have HN := hide hn
    rw [← hn] at hm
    clear hn
    have HH := hide hb1'
    clear hb1 hb1'
    go_wp2_with fail
    go_roundw
    case rel => exact ⟨k + 1, nxt, by go_num, rfl, ⟨hlt, by rw [fold_take HS.out, ← HI.out.eq]; exact HN.out, HI.out.box.below HH.out z0, hbx.out.trans (HH.out.mono hbx.out.size)⟩⟩
    case measure => simp [intOf]; omega
   ·have g1 : decide ((k : Int) < (l.length : Int)) = false := by simp; omega
    have hc := TL.nest_take l k
    rw [← hinv.eq] at hc
    have hce : cur = l.foldl (fun n s => mx2 n s.nest) 0 := by rw [hinv.eq, List.take_of_length_le (by omega)]
    have HE := hide hce
    have hcb : 0 ≤ cur ∧ cur ≤ 2000000 := by omega
    have HI := hide hinv.below
    clear hce hc hinv
    by_cases k7 : kind = 7
    ·subst k7
     go_wp2_with fail
     go_ret
     exact ⟨by rw [HR.out, ← HE.out]; rfl, HI.out⟩
    ·have e7 : (kind == 7) = false := by simp [k7]
     go_wp2_with fail
     go_ret
     exact ⟨by rw [HR.out, ← HE.out, if_neg k7, Int.add_zero]; rfl, HI.out⟩
set_option maxRecDepth 100000 in
set_option maxHeartbeats 1000000 in
theorem refNest8_any (N : Nat) : ∀ (t : T) (A : Option Addr) (c : Nat) (w : World), t.nodes ≤ N → N ≤ 1000000 → T.In w (· < w.heap.size) t A →
  Calls Tryz.prog 36 #[.agg (t.hd.cells (.slice A t.subs.length c)).toArray] w fun e w' => e = .returned (.int .i64 t.nest) ∧ Below w.heap.size w w' := by
 induction N with
 | zero => intro t A c w h; have := t.nodes_pos; omega
 | succ N ih =>
  intro t A c w hN hM hin
  obtain ⟨h, l⟩ := t
  obtain ⟨kind, s0, s1, s2, s3, num, mn, mx, bare⟩ := h
  have hlen := T.length_lt (T.mk ⟨kind, s0, s1, s2, s3, num, mn, mx, bare⟩ l)
  simp only [T.nodes] at hN
  simp only [T.nodes, T.hd, T.subs, Hd.cells] at hlen ⊢
  have hgoal : (T.mk ⟨kind, s0, s1, s2, s3, num, mn, mx, bare⟩ l).nest = l.foldl (fun n s => mx2 n s.nest) 0 + (if kind = 7 then 1 else 0) := by rw [T.nest, TL.nest_eq]
  obtain ⟨res, hres⟩ : ∃ r, r = (T.mk ⟨kind, s0, s1, s2, s3, num, mn, mx, bare⟩ l).nest := ⟨_, rfl⟩
  rw [← hres]
  have HR := hide (hres.trans hgoal)
  clear hgoal hres
  go_enter Tryz.func36, Tryz.ntmps36
  go_wp2_with fail
  go_loopw [3, 4] (fun cv kv wr => ∃ (k : Nat) (cur : Int), kv = .int .i64 k ∧ cv = .int .i64 cur ∧ FoldInv l (fun n s => mx2 n s.nest) w wr w.heap.size #[.int .i64 kind, .int .u64 s0, .int .u64 s1, .int .u64 s2, .int .u64 s3, .slice A l.length c, .int .i64 num, .int .i64 mn, .int .i64 mx, .bool bare] k 0 cur)
   (fun _ kv _ => l.length - (intOf kv).toNat)
  case atStart => exact ⟨0, 0, rfl, rfl, ⟨Nat.zero_le _, rfl, Blk.new _ _ _, (Below.refl _ _).alloc (Nat.le_refl _) _⟩⟩
  case round =>
   obtain ⟨k, cur, rfl, rfl, hinv⟩ := hrel
   have hk := hinv.le
   have c0 := hinv.box.cell
   have z0 := hinv.box.lt
   by_cases hlt : k < l.length
   ·have g1 : decide ((k : Int) < (l.length : Int)) = true := by simp; omega
    have hs := List.getElem?_eq_getElem hlt
    obtain ⟨b, o, B, c', rfl, hbk, hcs, hsub⟩ := TL.In.at_ (T.In_iff.1 hin) hs
    have hmem := List.getElem_mem hlt
    have hsn := TL.nodes_mem hmem
    generalize l[k] = s at *
    obtain ⟨n0, n1, n2, n3, n4, n5, n6, n7, n8, n9⟩ := (hcs.same (same_of_below hinv.below) hbk).node
    have HS := hide hs
    have HI := hide hinv
    have hbx := hide (hinv.below)
    have HX := hide (fun y hy => ih s B c' y (by omega) (by omega) hy)
    have HB := hide (hsub.same (ok' := (· < wr.heap.size)) (same_of_below hinv.below) (fun x hx => Nat.lt_of_lt_of_le hx hinv.below.size))
    clear hs hcs hinv
    go_wp2_with fail
    refine (HX.out _ HB.out).mono ?_
    rintro e w1 ⟨rfl, hb1⟩
    have hb1' : Below wr.heap.size wr w1 := hb1
    have hm : max cur s.nest = mx2 cur s.nest := by unfold mx2; split <;> omega
    obtain ⟨nxt, hn⟩ : ∃ n, n = mx2 cur s.nest := ⟨_, rfl⟩
    have HN := hide hn
    rw [← hn] at hm
    clear hn
    have HH := hide hb1'
    clear hb1 hb1'
    go_wp2_with fail
    go_roundw
    case rel => exact ⟨k + 1, nxt, by go_num, rfl, ⟨hlt, by rw [fold_take HS.out, ← HI.out.eq]; exact HN.out, HI.out.box.below HH.out z0, hbx.out.trans (HH.out.mono hbx.out.size)⟩⟩
    case measure => simp [intOf]; omega
   ·have g1 : decide ((k : Int) < (l.length : Int)) = false := by simp; omega
    have hc := TL.nest_take l k
    rw [← hinv.eq] at hc
    have hce : cur = l.foldl (fun n s => mx2 n s.nest) 0 := by rw [hinv.eq, List.take_of_length_le (by omega)]
    have HE := hide hce
    have hcb : 0 ≤ cur ∧ cur ≤ 2000000 := by omega
    have HI := hide hinv.below
    clear hce hc hinv
    by_cases k7 : kind = 7
    ·subst k7
     go_wp2_with fail
     go_ret
     exact ⟨by rw [HR.out, ← HE.out]; rfl, HI.out⟩
    ·have e7 : (kind == 7) = false := by simp [k7]
     go_wp2_with fail
     go_ret
     exact ⟨by rw [HR.out, ← HE.out, if_neg k7, Int.add_zero]; rfl, HI.out⟩
end Go.Proofs.YtpkcklpjbeginaaGreatDoor

/-! ## Ref8 -/
namespace Go.Proofs.YtpkcklpjbeginaaGreatDoor
open Go.RowKit

theorem below_grown8 {B : Nat} {w wr w' : World} {row : Option Nat} (h : Below B w wr) (hg : wr.grownBy w' row) (hB : B ≤ w.heap.size) (hr : ∀ g, row = some g → B ≤ g) : Below B w w' :=
 ⟨hg.os.trans h.os, hg.tape.trans h.tape, hg.output.trans h.output, Nat.le_trans h.size hg.size, fun b hb => (hg.block b (by have := h.size; omega) (fun e => by have := hr b e.symm; omega)).trans (h.block b hb)⟩
theorem ownInts_mono {b b' : Nat} {w : World} {v : Value} {l : List Int} (h : OwnInts b w v l) (hb : b' ≤ b) : OwnInts b' w v l := by
 refine ⟨h.1, ?_⟩
 rcases h.2 with h | ⟨g, cap, cur, e, hg, r⟩
 ·exact .inl h
 ·exact .inr ⟨g, cap, cur, e, Nat.le_trans hb hg, r⟩
theorem fits8_any (a b : Int) (w : World) : Calls Tryz.prog 69 #[.int .i64 a, .int .i64 b] w fun e w' => e = .returned (.bool (fitsK a b)) ∧ Below w.heap.size w w' := by
 by_cases a5 : a = 5
 ·subst a5
  have HE := hide (show fitsK 5 b = !(b == 1 || b == 5 || b == 6) from rfl)
  by_cases b1 : b = 1
  ·subst b1
   go_enter Tryz.func69, Tryz.ntmps69
   go_wp2_with fail
   go_ret
   exact ⟨by rw [HE.out]; rfl, Below.refl _ _⟩
  have n1 : (b == 1) = false := by rw [beq_eq_false_iff_ne]; omega
  by_cases b5 : b = 5
  ·subst b5
   go_enter Tryz.func69, Tryz.ntmps69
   go_wp2_with fail
   go_ret
   exact ⟨by rw [HE.out]; rfl, Below.refl _ _⟩
  have n5 : (b == 5) = false := by rw [beq_eq_false_iff_ne]; omega
  by_cases b6 : b = 6
  ·subst b6
   go_enter Tryz.func69, Tryz.ntmps69
   go_wp2_with fail
   go_ret
   exact ⟨by rw [HE.out]; rfl, Below.refl _ _⟩
  have n6 : (b == 6) = false := by rw [beq_eq_false_iff_ne]; omega
  have HR := hide (show fitsK 5 b = true by rw [HE.out, n1, n5, n6]; rfl)
  go_enter Tryz.func69, Tryz.ntmps69
  go_wp2_with fail
  refine bodyPost_ret (v := .bool true) (by simp [results, Tryz.results69, go_sem, n1, n5, n6, bne]) rfl ?_
  exact ⟨by rw [HR.out], Below.refl _ _⟩
 have m5 : (a == 5) = false := by rw [beq_eq_false_iff_ne]; omega
 by_cases a6 : a = 6
 ·subst a6
  have HE := hide (show fitsK 6 b = !(b == 6) from rfl)
  by_cases b6 : b = 6
  ·subst b6
   go_enter Tryz.func69, Tryz.ntmps69
   go_wp2_with fail
   go_ret
   exact ⟨by rw [HE.out]; rfl, Below.refl _ _⟩
  have n6 : (b == 6) = false := by rw [beq_eq_false_iff_ne]; omega
  have HR := hide (show fitsK 6 b = true by rw [HE.out, n6]; rfl)
  go_enter Tryz.func69, Tryz.ntmps69
  go_wp2_with fail
  refine bodyPost_ret (v := .bool true) (by simp [results, Tryz.results69, go_sem, n6, bne]) rfl ?_
  exact ⟨by rw [HR.out], Below.refl _ _⟩
 have m6 : (a == 6) = false := by rw [beq_eq_false_iff_ne]; omega
 by_cases a8 : a = 8
 ·subst a8
  have HE := hide (show fitsK 8 b = (b == 2 || b == 7) from rfl)
  by_cases b2 : b = 2
  ·subst b2
   go_enter Tryz.func69, Tryz.ntmps69
   go_wp2_with fail
   go_ret
   exact ⟨by rw [HE.out]; rfl, Below.refl _ _⟩
  have n2 : (b == 2) = false := by rw [beq_eq_false_iff_ne]; omega
  by_cases b7 : b = 7
  ·subst b7
   go_enter Tryz.func69, Tryz.ntmps69
   go_wp2_with fail
   go_ret
   exact ⟨by rw [HE.out]; rfl, Below.refl _ _⟩
  have n7 : (b == 7) = false := by rw [beq_eq_false_iff_ne]; omega
  have HR := hide (show fitsK 8 b = false by rw [HE.out, n2, n7]; rfl)
  go_enter Tryz.func69, Tryz.ntmps69
  go_wp2_with fail
  refine bodyPost_ret (v := .bool false) (by simp [results, Tryz.results69, go_sem, n2, n7]) rfl ?_
  exact ⟨by rw [HR.out], Below.refl _ _⟩
 have m8 : (a == 8) = false := by rw [beq_eq_false_iff_ne]; omega
 have HR := hide (show fitsK a b = true by unfold fitsK; rw [if_neg a5, if_neg a6, if_neg a8])
 go_enter Tryz.func69, Tryz.ntmps69
 go_wp2_with fail
 go_ret
 exact ⟨by rw [HR.out]; rfl, Below.refl _ _⟩
set_option maxRecDepth 100000 in
set_option maxHeartbeats 2000000 in
theorem refKinds8_any (N : Nat) : ∀ (t : T) (A : Option Addr) (c : Nat) (w : World), t.nodes ≤ N → N ≤ 1000000 → T.In w (· < w.heap.size) t A →
  Calls Tryz.prog 39 #[.agg (t.hd.cells (.slice A t.subs.length c)).toArray] w fun e w' => e = .returned (.bool t.kindsOk) ∧ Below w.heap.size w w' := by
 induction N with
 | zero => intro t A c w h; have := t.nodes_pos; omega
 | succ N ih =>
  intro t A c w hN hM hin
  obtain ⟨h, l⟩ := t
  have hlen0 := T.length_lt (T.mk h l)
  obtain ⟨kind, s0, s1, s2, s3, num, mn, mx, bare⟩ := h
  obtain ⟨res, hres⟩ : ∃ r, r = (T.mk ⟨kind, s0, s1, s2, s3, num, mn, mx, bare⟩ l).kindsOk := ⟨_, rfl⟩
  rw [← hres]
  rw [T.kindsOk] at hres
  simp only [T.nodes, T.hd, T.subs, Hd.cells] at hlen0 hN hres ⊢
  have hbel := (Below.refl w.heap.size w).alloc (Nat.le_refl _) (.cells #[.int .i64 kind, .int .u64 s0, .int .u64 s1, .int .u64 s2, .int .u64 s3, .slice A l.length c, .int .i64 num, .int .i64 mn, .int .i64 mx, .bool bare] 27)
  have hb0 := Blk.new w 27 #[.int .i64 kind, .int .u64 s0, .int .u64 s1, .int .u64 s2, .int .u64 s3, .slice A l.length c, .int .i64 num, .int .i64 mn, .int .i64 mx, .bool bare]
  have H0 := hide (And.intro hb0 hbel)
  have hin2 := hin.next hbel
  have c0 := hb0.cell
  have HIH := hide (fun (s : T) (hs : s ∈ l) (B : Option Addr) (c' : Nat) (y : World) (hi : T.In y (· < y.heap.size) s B) => ih s B c' y (by have := TL.nodes_mem hs; omega) (by omega) hi)
  clear ih hin hb0 hbel
  go_enter Tryz.func39, Tryz.ntmps39
  go_upto_region 1 with fail
  generalize (w.alloc (.cells #[.int .i64 kind, .int .u64 s0, .int .u64 s1, .int .u64 s2, .int .u64 s3, .slice A l.length c, .int .i64 num, .int .i64 mn, .int .i64 mx, .bool bare] 27)) = W at *
  cases bare with
  | true =>
   have HE := hide (show res = false by rw [hres]; rfl)
   clear hres
   go_wp2_with fail
   refine bodyPost_ret (v := .bool false) (by simp [results, Tryz.results39, go_sem]) rfl ?_
   exact ⟨by rw [HE.out], H0.out.2⟩
  | false =>
   have HR := hide (show res = TL.kindsOk kind l by rw [hres]; rfl)
   clear hres
   go_wp2_with fail
   have HIN := hide hin2
   clear hin2 c0
   go_loopw [3, 4] (fun kv ov wr => ∃ k : Nat, kv = .int .i64 (k : Int) ∧ k ≤ l.length ∧ TL.kindsOk kind (l.drop k) = res ∧ Blk wr w.heap.size 27 #[.int .i64 kind, .int .u64 s0, .int .u64 s1, .int .u64 s2, .int .u64 s3, .slice A l.length c, .int .i64 num, .int .i64 mn, .int .i64 mx, .bool false] ∧ Below W.heap.size W wr) (fun kv _ _ => l.length - (intOf kv).toNat)
   case atStart => exact ⟨0, rfl, Nat.zero_le _, by rw [List.drop_zero, ← HR.out], H0.out.1, Below.refl _ _⟩
   case round =>
    obtain ⟨k, rfl, hk, hinv, hbx, hbel⟩ := hrel
    have HH := hide (And.intro hbx hbel)
    have HV := hide hinv
    have hzb0 := hbx.lt
    have c0 := fun (x : Later wr) => (hbx.below x.2 hzb0).cell
    have q0 := hbx.cell 0
    have q5 := hbx.cell 5
    clear hinv
    by_cases hlt : k < l.length
    case neg =>
     have g1 : decide ((k : Int) < (l.length : Int)) = false := decide_eq_false (by omega)
     have hke : k = l.length := by omega
     subst hke
     have HE := hide (show res = true by rw [← HV.out, List.drop_eq_nil_of_le (Nat.le_refl _), TL.kindsOk])
     clear hbx hbel c0
     go_wp2_with fail
     refine bodyPost_ret (v := .bool true) (by simp [results, Tryz.results39, go_sem]) rfl ?_
     exact ⟨by rw [HE.out], H0.out.2.trans (HH.out.2.mono H0.out.2.size)⟩
    case pos =>
     have g1 : decide ((k : Int) < (l.length : Int)) = true := decide_eq_true (by omega)
     have hs := List.getElem?_eq_getElem hlt
     obtain ⟨b, ofs, B, c', rfl, hbk, hcs, hsub⟩ := TL.In.at_ (T.In_iff.1 HIN.out) hs
     have hmem := List.getElem_mem hlt
     have hdrop : l.drop k = l[k] :: l.drop (k + 1) := List.drop_eq_getElem_cons hlt
     have heq := HV.out
     have HX := hide (fun (x : Later wr) => HIH.out (l[k]'hlt) hmem B c' x.val (hsub.next (hbel.trans (x.2.mono hbel.size))))
     rw [hdrop, TL.kindsOk] at heq
     generalize l[k] = s at *
     have nn := fun (x : Later wr) => (hcs.same (same_of_below (hbel.trans (x.2.mono hbel.size))) hbk).node
     have n0 := fun x => (nn x).1
     have n1 := fun x => (nn x).2.1
     have n2 := fun x => (nn x).2.2.1
     have n3 := fun x => (nn x).2.2.2.1
     have n4 := fun x => (nn x).2.2.2.2.1
     have n5 := fun x => (nn x).2.2.2.2.2.1
     have n6 := fun x => (nn x).2.2.2.2.2.2.1
     have n7 := fun x => (nn x).2.2.2.2.2.2.2.1
     have n8 := fun x => (nn x).2.2.2.2.2.2.2.2.1
     have n9 := fun x => (nn x).2.2.2.2.2.2.2.2.2
     have HF := hide (fun (x : Later wr) => fits8_any kind s.hd.kind x.val)
     have HQ := hide heq
     simp only [Hd.cells] at HX
     clear hs hcs heq hdrop hmem hsub HV hbx hbel nn
     generalize fitsK kind s.hd.kind = fb at *
     generalize s.kindsOk = kb at *
     cases fb with
     | false =>
      have HE := hide (show res = false by rw [← HQ.out]; rfl)
      go_upto_region 6 with fail
      refine wp_region_later (by kernel_rfl) (by kernel_rfl) ?_
      repeat (go_big_quiet_step (first | exact calls_later (HF.out _) | exact calls_later (HX.out _)))
      refine wpQuiet_nil ?_
      intro w6 hw6
      obtain ⟨x, hxe⟩ := hw6
      have hx : Below wr.heap.size wr w6 := hxe ▸ x.2
      have HB6 := hide (And.intro (HH.out.1.next hx) (HH.out.2.trans (hx.mono HH.out.2.size)))
      clear hxe x hx n0 n1 n2 n3 n4 n5 n6 n7 n8 n9 q0 q5 c0 HH HF HX
      go_wp2_with fail
      refine bodyPost_ret (v := .bool false) (by simp [results, Tryz.results39, go_sem]) rfl ?_
      exact ⟨by rw [HE.out], H0.out.2.trans (HB6.out.2.mono H0.out.2.size)⟩
     | true =>
      cases kb with
      | false =>
       have HE := hide (show res = false by rw [← HQ.out]; rfl)
       go_upto_region 6 with fail
       refine wp_region_later (by kernel_rfl) (by kernel_rfl) ?_
       repeat (go_big_quiet_step (first | exact calls_later (HF.out _) | exact calls_later (HX.out _)))
       refine wpQuiet_nil ?_
       intro w6 hw6
       obtain ⟨x, hxe⟩ := hw6
       have hx : Below wr.heap.size wr w6 := hxe ▸ x.2
       have HB6 := hide (And.intro (HH.out.1.next hx) (HH.out.2.trans (hx.mono HH.out.2.size)))
       clear hxe x hx n0 n1 n2 n3 n4 n5 n6 n7 n8 n9 q0 q5 c0 HH HF HX
       go_wp2_with fail
       refine bodyPost_ret (v := .bool false) (by simp [results, Tryz.results39, go_sem]) rfl ?_
       exact ⟨by rw [HE.out], H0.out.2.trans (HB6.out.2.mono H0.out.2.size)⟩
      | true =>
       have HE := hide (show TL.kindsOk kind (l.drop (k + 1)) = res by rw [← HQ.out]; rfl)
       go_upto_region 6 with fail
       refine wp_region_later (by kernel_rfl) (by kernel_rfl) ?_
       repeat (go_big_quiet_step (first | exact calls_later (HF.out _) | exact calls_later (HX.out _)))
       refine wpQuiet_nil ?_
       intro w6 hw6
       obtain ⟨x, hxe⟩ := hw6
       have hx : Below wr.heap.size wr w6 := hxe ▸ x.2
       have HB6 := hide (And.intro (HH.out.1.next hx) (HH.out.2.trans (hx.mono HH.out.2.size)))
       clear hxe x hx n0 n1 n2 n3 n4 n5 n6 n7 n8 n9 q0 q5 c0 HH HF HX
       go_wp2_with fail
       go_roundw
       case rel => exact ⟨k + 1, by go_num, hlt, HE.out, HB6.out.1, HB6.out.2⟩
       case measure => simp [intOf]; omega
section
variable {w : World} {ops : Array Oper} {rest : List Oper} {o : Oper} {a : Act} {Q : Exit → Act → World → Prop}
theorem wpList_append_ints (hgd : o.guard = none) (s x : Operand) (ho : o.op = .call { callee := .builtin .append, args := #[s, x], argTypes := #[68, 68] })
  (base : Nat) (v : Value) (l : List Int) (hs : a.eval s = v) (hg : OwnInts base w v l) (b2 : Nat) (v2 : Value) (l2 : List Int)
  (hx : a.eval x = v2) (hg2 : OwnInts b2 w v2 l2) (hl : l.length + l2.length ≤ 1000000) (hbase : base ≤ w.heap.size)
  (h : ∀ v' w', OwnInts base w' v' (l ++ l2) → w.grownBy w' v.ownBlock → wpList Tryz.prog ops Q rest (a.put o.dst v') w') : wpList Tryz.prog ops Q (o :: rest) a w := by
 obtain ⟨i, hi, hz0, hz1, hz2⟩ := info_parts Tryz.infoInt
 have hg2' := hg2
 rcases hg2 with ⟨hl2, ⟨e2, n2⟩ | ⟨g, cap, cur, e2, hb, hgb, hn, hc, hr⟩⟩
 ·have : l2 = [] := List.eq_nil_of_length_eq_zero n2
  subst this
  refine wpList_append_own_none hgd s x 68 ho base 3 i 1 Tryz.underlying68 hi v l.length _ hs hg (by rw [hx, e2]) ?_
  refine h v w (by simpa using hg) ?_
  exact World.grownBy.refl _ _
 ·have hcl := World.ownsRow.cells hg2' (g := g) (by rw [e2]; rfl)
  refine wpList_append_own_at w hgd s x 68 ho base 3 i _ 1 8 Tryz.underlying68 hi hz0 hz1 hz2 rfl (by decide) v l.length _ hs hg ⟨g, 0, none⟩ l2.length cap (l2.map fun n => Value.int .i64 n) (by rw [hx, e2]) (by simp) ?_ (by simp [Value.oneCell']) (by simp only [maxLen]; omega) (by omega) hbase ?_
  ·intro j u hu
   exact hcl j u hu
  intro v' w' hown hgr _ _
  refine h v' w' ?_ hgr
  simpa [OwnInts] using hown
end
theorem TL.numbers_take {l : List T} {k : Nat} {s : T} (hs : l[k]? = some s) : TL.numbers (l.take (k + 1)) = TL.numbers (l.take k) ++ s.numbers := by
 rw [List.take_add_one, hs]
 have : ∀ x : List T, TL.numbers (x ++ [s]) = TL.numbers x ++ s.numbers := by
  intro x
  induction x with
  | nil => simp [TL.numbers]
  | cons y ys ih => simp [TL.numbers, ih]
 exact this _
theorem TL.numbers_pre (l : List T) (k : Nat) : (TL.numbers (l.take k)).length ≤ (TL.numbers l).length := by
 induction l generalizing k with
 | nil => simp
 | cons t ts ih => cases k with
  | zero => simp [TL.numbers]
  | succ k => simp only [List.take_succ_cons, TL.numbers, List.length_append]; have := ih k; omega
mutual
theorem T.numbers_len : ∀ t : T, t.numbers.length ≤ t.nodes
 | .mk h l => by
  have := TL.numbers_len l
  rw [T.numbers, T.nodes, List.length_append]
  split <;> simp <;> omega
theorem TL.numbers_len : ∀ l : List T, (TL.numbers l).length ≤ TL.nodes l
 | [] => by simp [TL.numbers]
 | t :: r => by
  have h1 := T.numbers_len t
  have h2 := TL.numbers_len r
  rw [TL.numbers, TL.nodes, List.length_append]
  omega
end
set_option maxRecDepth 100000 in
set_option maxHeartbeats 2000000 in
theorem refNumbers8_any (N : Nat) : ∀ (t : T) (A : Option Addr) (c : Nat) (w : World), t.nodes ≤ N → N ≤ 1000000 → T.In w (· < w.heap.size) t A →
  Calls Tryz.prog 40 #[.agg (t.hd.cells (.slice A t.subs.length c)).toArray] w fun e w' => ∃ v, e = .returned v ∧ OwnInts w.heap.size w' v t.numbers ∧ Below w.heap.size w w' := by
 induction N with
 | zero => intro t A c w h; have := t.nodes_pos; omega
 | succ N ih =>
  intro t A c w hN hM hin
  obtain ⟨h, l⟩ := t
  have hlen0 := T.length_lt (T.mk h l)
  obtain ⟨kind, s0, s1, s2, s3, num, mn, mx, bare⟩ := h
  obtain ⟨res, hres⟩ : ∃ r, r = (T.mk ⟨kind, s0, s1, s2, s3, num, mn, mx, bare⟩ l).numbers := ⟨_, rfl⟩
  rw [← hres]
  rw [T.numbers] at hres
  simp only [T.nodes, T.hd, T.subs, Hd.cells] at hlen0 hN hres ⊢
  have hbel := (Below.refl w.heap.size w).alloc (Nat.le_refl _) (.cells #[.int .i64 kind, .int .u64 s0, .int .u64 s1, .int .u64 s2, .int .u64 s3, .slice A l.length c, .int .i64 num, .int .i64 mn, .int .i64 mx, .bool bare] 27)
  have hb0 := Blk.new w 27 #[.int .i64 kind, .int .u64 s0, .int .u64 s1, .int .u64 s2, .int .u64 s3, .slice A l.length c, .int .i64 num, .int .i64 mn, .int .i64 mx, .bool bare]
  have HzW := hide (show w.heap.size + 1 ≤ (w.alloc (.cells #[.int .i64 kind, .int .u64 s0, .int .u64 s1, .int .u64 s2, .int .u64 s3, .slice A l.length c, .int .i64 num, .int .i64 mn, .int .i64 mx, .bool bare] 27)).heap.size by simp)
  have H0 := hide (And.intro hb0 hbel)
  have hin2 := hin
  have HIH := hide (fun (s : T) (hs : s ∈ l) (B : Option Addr) (c' : Nat) (y : World) (hi : T.In y (· < y.heap.size) s B) => ih s B c' y (by have := TL.nodes_mem hs; omega) (by omega) hi)
  have HIN := hide hin2
  have c0 := hb0.cell
  clear ih hin hb0 hbel hin2
  go_enter Tryz.func40, Tryz.ntmps40
  go_upto_region 1 with fail
  generalize (w.alloc (.cells #[.int .i64 kind, .int .u64 s0, .int .u64 s1, .int .u64 s2, .int .u64 s3, .slice A l.length c, .int .i64 num, .int .i64 mn, .int .i64 mx, .bool bare] 27)) = W at *
  by_cases k7 : kind = 7
  ·have HR := hide (show res = [num] ++ TL.numbers l by rw [hres, if_pos k7])
   subst k7
   clear hres
   have hws := HzW.out
   go_upto_region 3 with fail
   have hown0 := OwnInts.nil (w.heap.size + 1) (W.alloc (.cells #[.int .i64 num] 3))
   have hob : (Value.slice none 0 0).ownBlock = none := rfl
   generalize Value.slice none 0 0 = v0 at *
   go_wp2_with (at_builtin; refine wpList_append_int rfl _ _ rfl (w.heap.size + 1) _ [] rfl hown0 num _ _ rfl (Blk.new _ _ _) (by simp) (by simp; omega) ?_)
   intro v5 w5 hown5 hg5
   have HI := hide (And.intro (show OwnInts (w.heap.size + 1) w5 v5 [num] from hown5) (And.intro ((H0.out.1.alloc (.cells #[.int .i64 num] 3)).grown hg5 (by simp)) (below_grown8 (H0.out.2.alloc (by omega) (.cells #[.int .i64 num] 3)) hg5 (Nat.le_refl _) (by intro g hg; cases hg))))
   clear hown5 hg5 c0 hown0 hob
   go_wp2_with fail
   go_loopw [3, 4] (fun lv kv wr => ∃ (k : Nat) (done : List Int), kv = .int .i64 (k : Int) ∧ k ≤ l.length ∧ OwnInts (w.heap.size + 1) wr lv done ∧ done = [num] ++ TL.numbers (l.take k) ∧ Blk wr w.heap.size 27 #[.int .i64 7, .int .u64 s0, .int .u64 s1, .int .u64 s2, .int .u64 s3, .slice A l.length c, .int .i64 num, .int .i64 mn, .int .i64 mx, .bool bare] ∧ Below w.heap.size w wr) (fun _ kv _ => l.length - (intOf kv).toNat)
   case atStart => exact ⟨0, [num], rfl, Nat.zero_le _, HI.out.1, by simp [TL.numbers], HI.out.2.1, HI.out.2.2⟩
   case round =>
    obtain ⟨k, done, rfl, hk, hown, hdn, hbx, hbel⟩ := hrel
    have HH := hide (And.intro hbx hbel)
    have hzb0 := hbx.lt
    have c0 := hbx.cell
    have HO := hide (And.intro hown hdn)
    have hdl : done.length ≤ N + 1 := by
     have h1 := TL.numbers_pre l k
     have h2 := TL.numbers_len l
     rw [hdn]
     simp
     omega
    by_cases hlt : k < l.length
    case neg =>
     have g1 : decide ((k : Int) < (l.length : Int)) = false := decide_eq_false (by omega)
     have hke : k = l.length := by omega
     subst hke
     have HE := hide (show done = res by rw [HR.out, HO.out.2, List.take_length])
     clear hbx hbel hown hdn
     go_wp2_with fail
     refine bodyPost_ret (v := _) (by simp [results, Tryz.results40, go_sem]; rfl) rfl ?_
     exact ⟨_, rfl, HE.out ▸ ownInts_mono HO.out.1 (Nat.le_succ _), HH.out.2⟩
    case pos =>
     have g1 : decide ((k : Int) < (l.length : Int)) = true := decide_eq_true (by omega)
     have hs := List.getElem?_eq_getElem hlt
     obtain ⟨b, ofs, B, c', rfl, hbk, hcs, hsub⟩ := TL.In.at_ (T.In_iff.1 HIN.out) hs
     have hmem := List.getElem_mem hlt
     have HX := hide (HIH.out (l[k]'hlt) hmem B c' wr (hsub.next hbel))
     have hnl : (l[k]'hlt).numbers.length + done.length ≤ N + 1 := by
      have h1 := TL.numbers_pre l (k + 1)
      rw [TL.numbers_take hs, List.length_append] at h1
      have h2 := TL.numbers_len l
      rw [hdn]
      simp
      omega
     have HT := hide (TL.numbers_take hs)
     generalize l[k] = s at *
     obtain ⟨n0, n1, n2, n3, n4, n5, n6, n7, n8, n9⟩ := (hcs.same (same_of_below hbel) hbk).node
     simp only [Hd.cells] at HX
     clear hs hcs hmem hsub hbx hbel hown hdn
     go_wp2_with fail
     refine HX.out.mono ?_
     rintro e w6 ⟨v6, rfl, hown6, hb6⟩
     have HH6 := hide (And.intro (HH.out.1.next hb6) (HH.out.2.trans (hb6.mono HH.out.2.size)))
     have hown5 := HO.out.1.below hb6 (Nat.le_refl _)
     have hw6 := hb6.size
     have hww := Nat.lt_of_lt_of_le (Nat.lt_succ_self _) (Nat.succ_le_of_lt hzb0)
     clear hb6 HX c0 n0 n1 n2 n3 n4 n5 n6 n7 n8 n9
     go_wp2_with (at_builtin; refine wpList_append_ints rfl _ _ rfl (w.heap.size + 1) _ done rfl hown5 wr.heap.size _ s.numbers rfl hown6 (by omega) (by omega) ?_)
     intro v7 w7 hown7 hg7
     have hlo := hown5
     have HG := hide (And.intro hg7 hown7)
     clear hg7 hown7
     go_wp2_with fail
     go_roundw
     case rel =>
      refine ⟨k + 1, done ++ s.numbers, by go_num, hlt, HG.out.2, by rw [HO.out.2, HT.out]; simp, HH6.out.1.grown HG.out.1 ?_, below_grown8 HH6.out.2 HG.out.1 (Nat.le_refl _) (fun g hg => Nat.le_trans (Nat.le_succ _) (World.ownsRow.lt hlo g hg).1)⟩
      exact fun e => by have := (World.ownsRow.lt hlo w.heap.size (by rw [← e])).1; omega
     case measure => simp [intOf]; omega
  ·have e7 : (kind == 7) = false := by simp [k7]
   have HR := hide (show res = [] ++ TL.numbers l by rw [hres, if_neg k7])
   clear hres
   go_wp2_with fail
   go_loopw [3, 4] (fun lv kv wr => ∃ (k : Nat) (done : List Int), kv = .int .i64 (k : Int) ∧ k ≤ l.length ∧ OwnInts (w.heap.size + 1) wr lv done ∧ done = [] ++ TL.numbers (l.take k) ∧ Blk wr w.heap.size 27 #[.int .i64 kind, .int .u64 s0, .int .u64 s1, .int .u64 s2, .int .u64 s3, .slice A l.length c, .int .i64 num, .int .i64 mn, .int .i64 mx, .bool bare] ∧ Below w.heap.size w wr) (fun _ kv _ => l.length - (intOf kv).toNat)
   case atStart => exact ⟨0, [], rfl, Nat.zero_le _, OwnInts.nil _ _, by simp [TL.numbers], H0.out.1, H0.out.2⟩
   case round =>
    obtain ⟨k, done, rfl, hk, hown, hdn, hbx, hbel⟩ := hrel
    have HH := hide (And.intro hbx hbel)
    have hzb0 := hbx.lt
    have c0 := hbx.cell
    have HO := hide (And.intro hown hdn)
    have hdl : done.length ≤ N + 1 := by
     have h1 := TL.numbers_pre l k
     have h2 := TL.numbers_len l
     rw [hdn]
     simp
     omega
    by_cases hlt : k < l.length
    case neg =>
     have g1 : decide ((k : Int) < (l.length : Int)) = false := decide_eq_false (by omega)
     have hke : k = l.length := by omega
     subst hke
     have HE := hide (show done = res by rw [HR.out, HO.out.2, List.take_length])
     clear hbx hbel hown hdn
     go_wp2_with fail
     refine bodyPost_ret (v := _) (by simp [results, Tryz.results40, go_sem]; rfl) rfl ?_
     exact ⟨_, rfl, HE.out ▸ ownInts_mono HO.out.1 (Nat.le_succ _), HH.out.2⟩
    case pos =>
     have g1 : decide ((k : Int) < (l.length : Int)) = true := decide_eq_true (by omega)
     have hs := List.getElem?_eq_getElem hlt
     obtain ⟨b, ofs, B, c', rfl, hbk, hcs, hsub⟩ := TL.In.at_ (T.In_iff.1 HIN.out) hs
     have hmem := List.getElem_mem hlt
     have HX := hide (HIH.out (l[k]'hlt) hmem B c' wr (hsub.next hbel))
     have hnl : (l[k]'hlt).numbers.length + done.length ≤ N + 1 := by
      have h1 := TL.numbers_pre l (k + 1)
      rw [TL.numbers_take hs, List.length_append] at h1
      have h2 := TL.numbers_len l
      rw [hdn]
      simp
      omega
     have HT := hide (TL.numbers_take hs)
     generalize l[k] = s at *
     obtain ⟨n0, n1, n2, n3, n4, n5, n6, n7, n8, n9⟩ := (hcs.same (same_of_below hbel) hbk).node
     simp only [Hd.cells] at HX
     clear hs hcs hmem hsub hbx hbel hown hdn
     go_wp2_with fail
     refine HX.out.mono ?_
     rintro e w6 ⟨v6, rfl, hown6, hb6⟩
     have HH6 := hide (And.intro (HH.out.1.next hb6) (HH.out.2.trans (hb6.mono HH.out.2.size)))
     have hown5 := HO.out.1.below hb6 (Nat.le_refl _)
     have hw6 := hb6.size
     have hww := Nat.lt_of_lt_of_le (Nat.lt_succ_self _) (Nat.succ_le_of_lt hzb0)
     clear hb6 HX c0 n0 n1 n2 n3 n4 n5 n6 n7 n8 n9
     go_wp2_with (at_builtin; refine wpList_append_ints rfl _ _ rfl (w.heap.size + 1) _ done rfl hown5 wr.heap.size _ s.numbers rfl hown6 (by omega) (by omega) ?_)
     intro v7 w7 hown7 hg7
     have hlo := hown5
     have HG := hide (And.intro hg7 hown7)
     clear hg7 hown7
     go_wp2_with fail
     go_roundw
     case rel =>
      refine ⟨k + 1, done ++ s.numbers, by go_num, hlt, HG.out.2, by rw [HO.out.2, HT.out]; simp, HH6.out.1.grown HG.out.1 ?_, below_grown8 HH6.out.2 HG.out.1 (Nat.le_refl _) (fun g hg => Nat.le_trans (Nat.le_succ _) (World.ownsRow.lt hlo g hg).1)⟩
      exact fun e => by have := (World.ownsRow.lt hlo w.heap.size (by rw [← e])).1; omega
     case measure => simp [intOf]; omega
end Go.Proofs.YtpkcklpjbeginaaGreatDoor

/-! ## Write8 -/
namespace Go.Proofs.YtpkcklpjbeginaaGreatDoor
open Go.RowKit

/-- A builder that holds these bytes, in memory from block B on. -/
def BldIs (B b : Nat) (l : List UInt8) (w : World) : Prop := Lib.IsBuilderF 61 5 B b (Lib.byteCells l) w
/-- All but the builder and rows of bytes lies as it lay. -/
def Kpt (b : Nat) (w w' : World) : Prop := Lib.OthersKept 5 (some b) w w'
theorem BldIs.next {B b : Nat} {l : List UInt8} {w w' : World} (h : BldIs B b l w) (hb : Below w.heap.size w w') : BldIs B b l w' := by
 have hk : ∀ {p}, Lib.BuilderAtF 61 5 B b p (Lib.byteCells l) w → Lib.BuilderAtF 61 5 B b p (Lib.byteCells l) w' := fun {p} h => by
  have hlt := Lib.BuilderAtF.lt h
  obtain ⟨h1, v, h2, h3, h4⟩ := h
  exact ⟨h1, v, (hb.block b hlt).trans h2, h3.kept (grownBy_none hb) (by
   cases hv : v.ownBlock with
   | none => exact .inl rfl
   | some k => exact .inr (by simp)), h4⟩
 exact h.elim (fun x => .inl (hk x)) (fun x => .inr (hk x))
theorem BldIs.lt {B b : Nat} {l : List UInt8} {w : World} (h : BldIs B b l w) : B ≤ b ∧ b < w.heap.size := h.elim (fun x => ⟨x.1, Lib.BuilderAtF.lt x⟩) (fun x => ⟨x.1, Lib.BuilderAtF.lt x⟩)
theorem Kpt.refl (b : Nat) (w : World) : Kpt b w w := Lib.OthersKept.refl _ _ _
theorem Kpt.trans {b : Nat} {w w1 w2 : World} (h : Kpt b w w1) (k : Kpt b w1 w2) : Kpt b w w2 := Lib.OthersKept.trans h k
theorem Kpt.below {b : Nat} {w w' : World} (h : Below w.heap.size w w') : Kpt b w w' := fun k o hk _ _ => (h.block k (Array.getElem?_eq_some_iff.1 hk).1).trans hk
theorem Kpt.blk {b g : Nat} {w w' : World} {t : TypeId} {cs : Array Value} (h : Kpt b w w') (hb : Blk w g t cs) (hg : g ≠ b) (ht : t ≠ 5) : Blk w' g t cs :=
 h g _ hb (by simp [hg]) (fun c fz e => by injection e with _ e2 _; exact ht e2)
theorem byteCells_app (a b : List UInt8) : Lib.byteCells (a ++ b) = Lib.byteCells a ++ Lib.byteCells b := by simp [Lib.byteCells]
theorem wb8_any (c B b : Nat) (l : List UInt8) (w : World) (hc : c < 256) (h : BldIs B b l w) (hl : l.length ≤ 100000000000) (hB : B ≤ w.heap.size) : Calls Tryz.prog 58 #[.pointer (some ⟨b, 0, none⟩), .int .u8 (c : Int)] w fun e w' => e = .returned .nilIface ∧ BldIs B b (l ++ [c.toUInt8]) w' ∧ Below B w w' ∧ Kpt b w w' := by
 refine (Any.Builder_WriteByte_k wbLays8 bldExtra8 B b (Lib.byteCells l) (c : Int) w h (by rw [Lib.byteCells_length]; omega) hB).mono ?_
 rintro e w' ⟨rfl, h1, h2, h3⟩
 refine ⟨rfl, ?_, h2, h3⟩
 unfold BldIs
 rw [byteCells_app, show Lib.byteCells [c.toUInt8] = [.int .u8 (c : Int)] from by show [Value.int .u8 (c.toUInt8.toNat : Int)] = _; rw [u8n8 hc]]
 exact .inr h1
theorem ws8_any (s : ByteArray) (B b : Nat) (l : List UInt8) (w : World) (h : BldIs B b l w) (hl : l.length + s.size ≤ 100000000000) (hB : B ≤ w.heap.size) : Calls Tryz.prog 59 #[.pointer (some ⟨b, 0, none⟩), .string s] w fun e w' => e = .returned (.tuple #[.int .i64 s.size, .nilIface]) ∧ BldIs B b (l ++ s.data.toList) w' ∧ Below B w w' ∧ Kpt b w w' := by
 refine (Any.Builder_WriteString_k wsLays8 bldExtra8 B b (Lib.byteCells l) s w h (by rw [Lib.byteCells_length]; omega) hB).mono ?_
 rintro e w' ⟨rfl, h1, h2, h3⟩
 refine ⟨rfl, ?_, h2, h3⟩
 unfold BldIs
 rw [byteCells_app]
 exact .inr h1
/-! ### How long a text is -/
theorem txt_snoc (bar : Bool) (l : List T) (s : T) : (TL.txt bar (l ++ [s])).data.toList = (TL.txt bar l).data.toList ++ ((if bar = true ∧ l ≠ [] then [124] else []) ++ s.txt.data.toList) := by
 have hcat : ∀ l : List T, catL (l ++ [s]) = catL l ++ s.txt.data.toList := fun l => by
  induction l with
  | nil => simp [catL]
  | cons t l ih => simp only [List.cons_append, catL, ih, List.append_assoc]
 have hbar : ∀ l : List T, barL (l ++ [s]) = barL l ++ 124 :: s.txt.data.toList := fun l => by
  induction l with
  | nil => simp [barL]
  | cons t l ih => simp only [List.cons_append, barL, ih, List.append_assoc]
 cases bar with
 | false => rw [txt_cat, txt_cat, hcat, if_neg (by rintro ⟨e, _⟩; cases e)]; rfl
 | true =>
  cases l with
  | nil => rw [if_neg (fun e => e.2 rfl)]; show (TL.txt true [s]).data.toList = [] ++ ([] ++ _); rw [txt_bar]; simp [barL]
  | cons t l => rw [List.cons_append, txt_bar, txt_bar, hbar, if_pos ⟨rfl, by simp⟩]; simp
theorem setP_len (S : Nat → Bool) : (setP S).size ≤ 900 := by
 have h1 := items_len8 S
 have h2 := items_len8 (fun b => !S b)
 unfold setP
 split
 ·exact (by decide : (1 : Nat) ≤ 900)
 split
 ·unfold quote1; split
  ·exact (by decide : (2 : Nat) ≤ 900)
  ·exact (by decide : (1 : Nat) ≤ 900)
 split
 ·rw [ByteArray.size_append, ByteArray.size_append, byS_size, show (⟨#[91, 94]⟩ : ByteArray).size = 2 from rfl]; omega
 split
 ·exact (by decide : (4 : Nat) ≤ 900)
 ·rw [ByteArray.size_append, ByteArray.size_append, byS_size, byS_size]; omega
theorem repP_len (a : Nat) (b : Int) (ha : a ≤ 255) (hb : b = -1 ∨ ((a : Int) ≤ b ∧ b ≤ 255)) : (repP (a : Int) b).size ≤ 900 := by
 have h1 := decP_size a
 have h2 := decP_size b.toNat
 unfold repP
 rw [Int.toNat_natCast]
 split
 ·split
  ·exact (by decide : (1 : Nat) ≤ 900)
  split
  ·exact (by decide : (1 : Nat) ≤ 900)
  ·rw [ByteArray.size_append, ByteArray.size_append, byS_size, show (⟨#[44, 125]⟩ : ByteArray).size = 2 from rfl]; omega
 split
 ·exact (by decide : (1 : Nat) ≤ 900)
 split
 ·rw [ByteArray.size_append, ByteArray.size_append, byS_size, byS_size]; omega
 ·rw [ByteArray.size_append, ByteArray.size_append, ByteArray.size_append, ByteArray.size_append, byS_size, byS_size, byS_size]; omega
theorem TL.nodes_split : ∀ {l : List T} {k : Nat} (h : k < l.length), TL.nodes (l.take k) + (l[k]'h).nodes ≤ TL.nodes l
 | t :: l, 0, h => by simp [TL.nodes]
 | t :: l, k + 1, h => by
  have := TL.nodes_split (l := l) (k := k) (by simpa using h)
  rw [List.take_succ_cons, TL.nodes, TL.nodes, List.getElem_cons_succ]
  omega
mutual
/-- All words of sets are words. -/
def T.w64 : T → Prop
 | .mk h l => (IsU64 h.s0 ∧ IsU64 h.s1 ∧ IsU64 h.s2 ∧ IsU64 h.s3) ∧ TL.w64 l
def TL.w64 : List T → Prop
 | [] => True
 | t :: l => t.w64 ∧ TL.w64 l
end
theorem TL.w64_mem : ∀ {l : List T} {t : T}, TL.w64 l → t ∈ l → t.w64
 | s :: l, t, h, hm => by
  rw [TL.w64] at h
  rcases List.mem_cons.1 hm with e | hm
  ·subst e; exact h.1
  ·exact TL.w64_mem h.2 hm
theorem set_words (h : Hd) (h0 : IsU64 h.s0) (h1 : IsU64 h.s1) (h2 : IsU64 h.s2) (h3 : IsU64 h.s3) : setV (fun b => h.has b) = .agg #[.int .u64 h.s0, .int .u64 h.s1, .int .u64 h.s2, .int .u64 h.s3] := by
 have hk : ∀ (k : Nat) (s : Int), k < 4 → h.word k = s → IsU64 s → ((wd (fun b => h.has b) k : Nat) : Int) = s := fun k s hk4 hw hs => by
  unfold IsU64 at hs
  have : s.toNat = wd (fun b => h.has b) k := wd_eq (by omega) fun j hj => by
   unfold Hd.has
   rw [show (64 * k + j) / 64 = k by omega, show (64 * k + j) % 64 = j by omega, hw]
  omega
 unfold setV setC
 rw [hk 0 _ (by decide) rfl h0, hk 1 _ (by decide) rfl h1, hk 2 _ (by decide) rfl h2, hk 3 _ (by decide) rfl h3]
 rfl
/-- What a right node has. -/
theorem form_kind {h : Hd} {n : Int} (hf : h.formed n = true) : (h.kind = 3 ∨ h.kind = 4 ∨ h.kind = 2) ∨ (h.kind = 7 ∧ n = 1) ∨ (h.kind = 8 ∧ n = 1 ∧ 0 ≤ h.min ∧ h.min ≤ 255 ∧ (h.max = -1 ∨ (h.min ≤ h.max ∧ h.max ≤ 255))) ∨ (h.kind = 1 ∨ h.kind = 5 ∨ h.kind = 6) := by
 by_cases k8 : h.kind = 8
 ·have hb := Hd.rep_bd hf k8
  unfold Hd.formed at hf
  rw [k8] at hf
  simp at hf
  refine .inr (.inr (.inl ⟨k8, ?_, hb.1, hb.2.1, hb.2.2⟩))
  omega
 unfold Hd.formed at hf
 split at hf
 ·omega
 split at hf
 ·omega
 split at hf
 ·omega
 split at hf
 ·simp at hf; omega
 ·cases hf
theorem rep_nat {a : Int} {b : Int} (h1 : 0 ≤ a) (h2 : a ≤ 255) (h3 : b = -1 ∨ (a ≤ b ∧ b ≤ 255)) : ∃ n : Nat, a = (n : Int) ∧ n ≤ 255 ∧ (b = -1 ∨ ((n : Int) ≤ b ∧ b ≤ 255)) := ⟨a.toNat, by omega, by omega, by omega⟩
mutual
theorem T.txt_len : ∀ t : T, t.form = true → t.txt.size + 1 ≤ 1000 * t.nodes
 | .mk h l, hf => by
  have hf2 := hf
  rw [T.form_eq, Bool.and_eq_true] at hf2
  have hl := fun bar => TL.txt_len bar l hf2.2
  have hk := form_kind hf2.1
  rw [T.nodes]
  rw [T.txt]
  split
  ·rw [byS_size]; omega
  split
  ·rw [byS_size]; omega
  split
  ·have := setP_len (fun b => h.has b); omega
  split
  ·have := hl false
   rw [ByteArray.size_append, ByteArray.size_append, byS_size, byS_size]; omega
  split
  ·rename_i k3 k4 k2 k7 k8
   have := hl false
   obtain ⟨_, h1, h2, h3⟩ : h.kind = 8 ∧ 0 ≤ h.min ∧ h.min ≤ 255 ∧ (h.max = -1 ∨ (h.min ≤ h.max ∧ h.max ≤ 255)) := by
    have hb := Hd.rep_bd hf2.1 k8
    exact ⟨k8, hb⟩
   obtain ⟨n, e1, e2, e3⟩ := rep_nat h1 h2 h3
   have h4 := repP_len n h.max e2 e3
   rw [ByteArray.size_append, e1]; omega
  ·have := hl (h.kind == 6); omega
theorem TL.txt_len (bar : Bool) : ∀ l : List T, TL.form l = true → (TL.txt bar l).size ≤ 1000 * TL.nodes l
 | [], _ => by rw [TL.txt]; exact Nat.zero_le _
 | t :: l, hf => by
  rw [TL.form, Bool.and_eq_true] at hf
  have h1 := T.txt_len t hf.1
  have h2 := TL.txt2_len bar l hf.2
  rw [TL.txt, ByteArray.size_append, TL.nodes]
  omega
theorem TL.txt2_len (bar : Bool) : ∀ l : List T, TL.form l = true → (TL.txt2 bar l).size ≤ 1000 * TL.nodes l
 | [], _ => by rw [TL.txt2]; exact Nat.zero_le _
 | t :: l, hf => by
  rw [TL.form, Bool.and_eq_true] at hf
  have h1 := T.txt_len t hf.1
  have h2 := TL.txt2_len bar l hf.2
  have h3 : (if bar = true then byS 124 else (⟨#[]⟩ : ByteArray)).size ≤ 1 := by cases bar <;> first | exact Nat.zero_le _ | exact Nat.le_refl 1
  rw [TL.txt2, ByteArray.size_append, ByteArray.size_append, TL.nodes]
  omega
end
set_option maxRecDepth 100000 in
set_option maxHeartbeats 8000000 in
theorem write8_any (N : Nat) : ∀ (t : T) (A : Option Addr) (c B b : Nat) (bs : List UInt8) (w : World), t.nodes ≤ N → N ≤ 1000000 → t.form = true → t.w64 → T.In w (· < B) t A → BldIs B b bs w → B ≤ w.heap.size → (∀ y, Below B w y → Tab y ∧ Tab8 y) → bs.length + 1000 * t.nodes ≤ 50000000000 →
  Calls Tryz.prog 32 #[.pointer (some ⟨b, 0, none⟩), .agg (t.hd.cells (.slice A t.subs.length c)).toArray] w fun e w' => e = .returned (.tuple #[]) ∧ BldIs B b (bs ++ t.txt.data.toList) w' ∧ Below B w w' ∧ Kpt b w w' := by
 induction N with
 | zero => intro t A c B b bs w h; have := t.nodes_pos; omega
 | succ N ih =>
  intro t A c B b bs w hN hM hform hw64 hin hbld hB htab hlen
  have hfm := hform
  obtain ⟨h, l⟩ := t
  rw [T.w64] at hw64
  rw [T.form_eq, Bool.and_eq_true] at hfm
  have hlen0 := T.length_lt (T.mk h l)
  obtain ⟨kind, s0, s1, s2, s3, num, mn, mx, bare⟩ := h
  obtain ⟨res, hres⟩ : ∃ r, r = (T.mk ⟨kind, s0, s1, s2, s3, num, mn, mx, bare⟩ l).txt.data.toList := ⟨_, rfl⟩
  rw [← hres]
  rw [T.txt] at hres
  have hkinds := form_kind hfm.1
  simp only [T.hd, T.subs] at hkinds hfm hres
  simp only [T.nodes, T.hd, T.subs, Hd.cells] at hlen0 hN hlen ⊢
  have hb0 := Blk.new w 27 #[.int .i64 kind, .int .u64 s0, .int .u64 s1, .int .u64 s2, .int .u64 s3, .slice A l.length c, .int .i64 num, .int .i64 mn, .int .i64 mx, .bool bare]
  have hbel := (Below.refl B w).alloc hB (.cells #[.int .i64 kind, .int .u64 s0, .int .u64 s1, .int .u64 s2, .int .u64 s3, .slice A l.length c, .int .i64 num, .int .i64 mn, .int .i64 mx, .bool bare] 27)
  have hbel0 := (Below.refl w.heap.size w).alloc (Nat.le_refl _) (.cells #[.int .i64 kind, .int .u64 s0, .int .u64 s1, .int .u64 s2, .int .u64 s3, .slice A l.length c, .int .i64 num, .int .i64 mn, .int .i64 mx, .bool bare] 27)
  have H0 := hide (And.intro (hbld.next hbel0) (And.intro hbel (And.intro (Kpt.below (b := b) hbel0) hb0)))
  have HLT := hide (show b < w.heap.size ∧ B ≤ w.heap.size from ⟨hbld.lt.2, hB⟩)
  have HT := hide htab
  have HIN := hide hin
  have HFL := hide hfm.2
  have HIH := hide (fun (s : T) (hs : s ∈ l) (A' : Option Addr) (c' : Nat) (bs' : List UInt8) (y : World) (hi : T.In y (· < B) s A') (hb' : BldIs B b bs' y) (hy : Below B w y) (hl : bs'.length + 1000 * s.nodes ≤ 50000000000) => ih s A' c' B b bs' y (by have := TL.nodes_mem hs; omega) (by omega) (TL.form_mem hfm.2 hs) (TL.w64_mem hw64.2 hs) hi hb' (Nat.le_trans hB hy.size) (fun z hz => htab z (hy.trans hz)) hl)
  have HW := hide (fun (n : Nat) (hn : n < 256) (bs' : List UInt8) (y : World) (hb' : BldIs B b bs' y) (hl : bs'.length ≤ 100000000000) (hy : Below B w y) => wb8_any n B b bs' y hn hb' hl (Nat.le_trans hB hy.size))
  have HS := hide (fun (s : ByteArray) (bs' : List UInt8) (y : World) (hb' : BldIs B b bs' y) (hl : bs'.length + s.size ≤ 100000000000) (hy : Below B w y) => ws8_any s B b bs' y hb' hl (Nat.le_trans hB hy.size))
  have HLen := hide hlen
  have HW64 := hide hw64.1
  have HGt := hide (show w.heap.size ≠ b from fun e => by have := HLT.out.1; omega)
  clear ih hin hb0 hbel hbel0 hbld hB htab hlen hfm hform hw64
  go_enter Tryz.func32, Tryz.ntmps32
  go_upto_region 1 with fail
  have HG := hide (show w.heap.size < (w.alloc (.cells #[.int .i64 kind, .int .u64 s0, .int .u64 s1, .int .u64 s2, .int .u64 s3, .slice A l.length c, .int .i64 num, .int .i64 mn, .int .i64 mx, .bool bare] 27)).heap.size by simp)
  generalize (w.alloc (.cells #[.int .i64 kind, .int .u64 s0, .int .u64 s1, .int .u64 s2, .int .u64 s3, .slice A l.length c, .int .i64 num, .int .i64 mn, .int .i64 mx, .bool bare] 27)) = W at *
  have HBW := hide (show B ≤ W.heap.size from Nat.le_trans HLT.out.2 H0.out.2.1.size)
  have c0 := H0.out.2.2.2.cell
  rcases hkinds with (rfl | rfl | rfl) | ⟨rfl, hl1⟩ | ⟨rfl, hl1, hmn, hmn2, hmx⟩ | hk
  ·have HR := hide (show res = [94] from by rw [hres, if_pos rfl]; rfl)
   clear hres
   have HW1 := hide (HW.out 94 (by decide) bs W H0.out.1 (by have := HLen.out; omega) H0.out.2.1)
   go_wp2_with fail
   refine HW1.out.mono ?_
   rintro e w1 ⟨rfl, k1, k2, k3⟩
   have HE := hide (And.intro k1 (And.intro (H0.out.2.1.trans k2) (H0.out.2.2.1.trans k3)))
   clear k1 k2 k3
   go_wp2_with fail
   go_end0
   exact ⟨rfl, by rw [HR.out]; exact HE.out.1, HE.out.2.1, HE.out.2.2⟩
  ·have HR := hide (show res = [36] from by rw [hres, if_neg (by intro e; cases e), if_pos rfl]; rfl)
   clear hres
   have HW1 := hide (HW.out 36 (by decide) bs W H0.out.1 (by have := HLen.out; omega) H0.out.2.1)
   go_wp2_with fail
   refine HW1.out.mono ?_
   rintro e w1 ⟨rfl, k1, k2, k3⟩
   have HE := hide (And.intro k1 (And.intro (H0.out.2.1.trans k2) (H0.out.2.2.1.trans k3)))
   clear k1 k2 k3
   go_wp2_with fail
   go_end0
   exact ⟨rfl, by rw [HR.out]; exact HE.out.1, HE.out.2.1, HE.out.2.2⟩
  ·have HR := hide (show res = (setP (fun b => Hd.has ⟨2, s0, s1, s2, s3, num, mn, mx, bare⟩ b)).data.toList from by rw [hres, if_neg (by intro e; cases e), if_neg (by intro e; cases e), if_pos rfl])
   clear hres
   obtain ⟨q0, q1, q2, q3⟩ := HW64.out
   have HSt := hide (set8_any (fun b => Hd.has ⟨2, s0, s1, s2, s3, num, mn, mx, bare⟩ b) W (fun y hy => (HT.out y (H0.out.2.1.trans (hy.mono HBW.out))).1))
   rw [set_words ⟨2, s0, s1, s2, s3, num, mn, mx, bare⟩ q0 q1 q2 q3] at HSt
   have HSL := hide (setP_len (fun b => Hd.has ⟨2, s0, s1, s2, s3, num, mn, mx, bare⟩ b))
   obtain ⟨st, hst⟩ : ∃ st, st = setP (fun b => Hd.has ⟨2, s0, s1, s2, s3, num, mn, mx, bare⟩ b) := ⟨_, rfl⟩
   rw [← hst] at HR HSt HSL
   clear hst q0 q1 q2 q3
   go_wp2_with fail
   refine HSt.out.mono ?_
   rintro e w1 ⟨rfl, hb1⟩
   have H1 := hide (And.intro (H0.out.1.next hb1) (And.intro (H0.out.2.1.trans (hb1.mono HBW.out)) (H0.out.2.2.1.trans (Kpt.below hb1))))
   clear hb1 HSt c0
   have HS1 := hide (HS.out st bs w1 H1.out.1 (by have := HLen.out; have := HSL.out; omega) H1.out.2.1)
   go_wp2_with fail
   refine HS1.out.mono ?_
   rintro e w2 ⟨rfl, k1, k2, k3⟩
   have HE := hide (And.intro k1 (And.intro (H1.out.2.1.trans k2) (H1.out.2.2.trans k3)))
   clear k1 k2 k3
   go_wp2_with fail
   go_end0
   exact ⟨rfl, by rw [HR.out]; exact HE.out.1, HE.out.2.1, HE.out.2.2⟩
  ·have HR0 := hide (show res = (byS 40 ++ TL.txt false l ++ byS 41).data.toList from by rw [hres, if_neg (by intro e; cases e), if_neg (by intro e; cases e), if_neg (by intro e; cases e), if_pos rfl])
   clear hres
   have hs := List.getElem?_eq_getElem (l := l) (i := 0) (by omega)
   have hmem := List.getElem_mem (l := l) (n := 0) (by omega)
   have hsn := TL.nodes_mem hmem
   have hl2 : l = [l[0]'(by omega)] := by
    match l, hl1 with
    | [x], _ => rfl
   generalize l[0]'(by omega) = s at *
   obtain ⟨bk, o, B', c', rfl, hbk, hcs, hsub⟩ := TL.In.at_ (T.In_iff.1 HIN.out) hs
   rw [Nat.zero_mul, Nat.add_zero] at hcs
   have HL2 := hide hl2
   have HR := hide (show res = [(40 : Nat).toUInt8] ++ s.txt.data.toList ++ [(41 : Nat).toUInt8] from by rw [HR0.out, app_toList, app_toList, hl2, txt_cat, catL, catL, List.append_nil]; rfl)
   have HC := hide hcs
   have HSU := hide hsub
   have HBK := hide hbk
   have HX := hide (HIH.out s hmem B' c')
   have HSN := hide hsn
   have hll : l.length = 1 := by omega
   rw [hll] at c0 H0 ⊢
   clear hs hmem hsn hl2 hcs hsub hbk HR0 HIH hl1
   have HW1 := hide (HW.out 40 (by decide) bs W H0.out.1 (by have := HLen.out; omega) H0.out.2.1)
   go_wp2_with fail
   refine HW1.out.mono ?_
   rintro e w1 ⟨rfl, k1, k2, k3⟩
   have H1 := hide (And.intro k1 (And.intro (H0.out.2.1.trans k2) (And.intro (H0.out.2.2.1.trans k3) (k3.blk H0.out.2.2.2 HGt.out (by decide)))))
   clear k1 k2 k3 c0 HW1
   have c1 := H1.out.2.2.2.cell
   obtain ⟨n0, n1, n2, n3, n4, n5, n6, n7, n8, n9⟩ := (HC.out.same (same_of_below H1.out.2.1) HBK.out).node
   have HX1 := hide (HX.out (bs ++ [(40 : Nat).toUInt8]) w1 (HSU.out.same (ok' := (· < B)) (same_of_below H1.out.2.1) (fun x hx => hx)) H1.out.1 H1.out.2.1 (by have := HLen.out; have := HSN.out; rw [List.length_append, List.length_singleton]; omega))
   simp only [Hd.cells] at HX1
   go_wp2_with fail
   refine HX1.out.mono ?_
   rintro e w2 ⟨rfl, k1, k2, k3⟩
   have H2 := hide (And.intro k1 (And.intro (H1.out.2.1.trans k2) (H1.out.2.2.1.trans k3)))
   have htl : s.txt.data.toList.length ≤ 1000 * s.nodes := by have := T.txt_len s (TL.form_mem HFL.out (by rw [HL2.out]; simp)); rw [data_len]; omega
   have HTL := hide htl
   clear k1 k2 k3 c1 n0 n1 n2 n3 n4 n5 n6 n7 n8 n9 HX1 HX H1 htl
   have HW2 := hide (HW.out 41 (by decide) _ w2 H2.out.1 (by have := HLen.out; have := HSN.out; have := HTL.out; rw [List.length_append, List.length_append, List.length_singleton]; omega) H2.out.2.1)
   go_wp2_with fail
   refine HW2.out.mono ?_
   rintro e w3 ⟨rfl, k1, k2, k3⟩
   have HE := hide (And.intro k1 (And.intro (H2.out.2.1.trans k2) (H2.out.2.2.trans k3)))
   clear k1 k2 k3
   go_wp2_with fail
   go_end0
   exact ⟨rfl, by rw [HR.out]; simpa only [List.append_assoc] using HE.out.1, HE.out.2.1, HE.out.2.2⟩
  ·obtain ⟨a, ha1, ha2, ha3⟩ := rep_nat hmn hmn2 hmx
   have HR0 := hide (show res = (TL.txt false l ++ repP mn mx).data.toList from by rw [hres, if_neg (by intro e; cases e), if_neg (by intro e; cases e), if_neg (by intro e; cases e), if_neg (by intro e; cases e), if_pos rfl])
   clear hres
   have hs := List.getElem?_eq_getElem (l := l) (i := 0) (by omega)
   have hmem := List.getElem_mem (l := l) (n := 0) (by omega)
   have hsn := TL.nodes_mem hmem
   have hl2 : l = [l[0]'(by omega)] := by
    match l, hl1 with
    | [x], _ => rfl
   generalize l[0]'(by omega) = s at *
   obtain ⟨bk, o, B', c', rfl, hbk, hcs, hsub⟩ := TL.In.at_ (T.In_iff.1 HIN.out) hs
   rw [Nat.zero_mul, Nat.add_zero] at hcs
   have HL2 := hide hl2
   have HR := hide (show res = s.txt.data.toList ++ (repP mn mx).data.toList from by rw [HR0.out, app_toList, hl2, txt_cat, catL, catL, List.append_nil])
   have HC := hide hcs
   have HSU := hide hsub
   have HBK := hide hbk
   have HX := hide (HIH.out s hmem B' c')
   have HSN := hide hsn
   have hll : l.length = 1 := by omega
   subst ha1
   have HRL := hide (repP_len a mx ha2 ha3)
   have HRep := hide (fun (y : World) (hy : Below B w y) => repeat8_any a mx (by omega) (by rcases ha3 with e | e; exact .inl e; exact .inr ⟨mx.toNat, by omega, by omega⟩) y (fun z hz => (HT.out z (hy.trans (hz.mono (Nat.le_trans HLT.out.2 (hy.size))))).2))
   rw [hll] at c0 H0 ⊢
   clear hs hmem hsn hl2 hcs hsub hbk HR0 HIH hl1 ha2 ha3 hmn hmn2 hmx
   obtain ⟨n0, n1, n2, n3, n4, n5, n6, n7, n8, n9⟩ := (HC.out.same (same_of_below H0.out.2.1) HBK.out).node
   have HX1 := hide (HX.out bs W (HSU.out.same (ok' := (· < B)) (same_of_below H0.out.2.1) (fun x hx => hx)) H0.out.1 H0.out.2.1 (by have := HLen.out; have := HSN.out; omega))
   simp only [Hd.cells] at HX1
   go_wp2_with fail
   refine HX1.out.mono ?_
   rintro e w2 ⟨rfl, k1, k2, k3⟩
   have H2 := hide (And.intro k1 (And.intro (H0.out.2.1.trans k2) (And.intro (H0.out.2.2.1.trans k3) (k3.blk H0.out.2.2.2 HGt.out (by decide)))))
   have htl : s.txt.data.toList.length ≤ 1000 * s.nodes := by have := T.txt_len s (TL.form_mem HFL.out (by rw [HL2.out]; simp)); rw [data_len]; omega
   have HTL := hide htl
   clear k1 k2 k3 n0 n1 n2 n3 n4 n5 n6 n7 n8 n9 HX1 HX c0 htl
   have c1 := H2.out.2.2.2.cell
   have HRp := hide (HRep.out w2 H2.out.2.1)
   obtain ⟨rp, hrp⟩ : ∃ rp, rp = repP (a : Int) mx := ⟨_, rfl⟩
   rw [← hrp] at HRp HRL HR
   clear hrp HRep
   go_wp2_with fail
   refine HRp.out.mono ?_
   rintro e w3 ⟨rfl, hb3⟩
   have H3 := hide (And.intro (H2.out.1.next hb3) (And.intro (H2.out.2.1.trans (hb3.mono (Nat.le_trans HLT.out.2 H2.out.2.1.size))) (H2.out.2.2.1.trans (Kpt.below hb3))))
   clear hb3 c1 HRp H2
   have HS1 := hide (HS.out rp _ w3 H3.out.1 (by have := HLen.out; have := HRL.out; have := HSN.out; have := HTL.out; rw [List.length_append]; omega) H3.out.2.1)
   go_wp2_with fail
   refine HS1.out.mono ?_
   rintro e w4 ⟨rfl, k1, k2, k3⟩
   have HE := hide (And.intro k1 (And.intro (H3.out.2.1.trans k2) (H3.out.2.2.trans k3)))
   clear k1 k2 k3
   go_wp2_with fail
   go_end0
   exact ⟨rfl, by rw [HR.out]; simpa only [List.append_assoc] using HE.out.1, HE.out.2.1, HE.out.2.2⟩
  ·have HR := hide (show res = (TL.txt (kind == 6) l).data.toList from by rw [hres, if_neg (by omega), if_neg (by omega), if_neg (by omega), if_neg (by omega), if_neg (by omega)])
   have z3 : (kind == 3) = false := beq_eq_false_iff_ne.2 (by omega)
   have z4 : (kind == 4) = false := beq_eq_false_iff_ne.2 (by omega)
   have z2 : (kind == 2) = false := beq_eq_false_iff_ne.2 (by omega)
   have z7 : (kind == 7) = false := beq_eq_false_iff_ne.2 (by omega)
   have z8 : (kind == 8) = false := beq_eq_false_iff_ne.2 (by omega)
   obtain ⟨bar, hbar⟩ : ∃ bar, bar = (kind == 6) := ⟨_, rfl⟩
   rw [← hbar] at HR
   have HBar := hide hbar
   clear hres hbar hk
   go_wp2_with fail
   clear c0
   go_loopw [11] (fun kv wr => ∃ k : Nat, kv = .int .i64 (k : Int) ∧ k ≤ l.length ∧ BldIs B b (bs ++ (TL.txt bar (l.take k)).data.toList) wr ∧ Below B w wr ∧ Kpt b w wr ∧ Blk wr w.heap.size 27 #[.int .i64 kind, .int .u64 s0, .int .u64 s1, .int .u64 s2, .int .u64 s3, .slice A l.length c, .int .i64 num, .int .i64 mn, .int .i64 mx, .bool bare]) (fun kv _ => l.length - (intOf kv).toNat)
   case atStart => exact ⟨0, rfl, Nat.zero_le _, by rw [List.take_zero, show (TL.txt bar []).data.toList = [] from rfl, List.append_nil]; exact H0.out.1, H0.out.2.1, H0.out.2.2.1, H0.out.2.2.2⟩
   case round =>
    obtain ⟨k, rfl, hk, r1, r2, r3, r4⟩ := hrel
    have hRR := hide (And.intro r1 (And.intro r2 (And.intro r3 r4)))
    clear r1 r2 r3 r4
    by_cases hlt : k < l.length
    ·have g1 : decide ((k : Int) < (l.length : Int)) = true := decide_eq_true (by omega)
     have hs := List.getElem?_eq_getElem hlt
     obtain ⟨bk, o, B', c', hA, hbk, hcs, hsub⟩ := TL.In.at_ (T.In_iff.1 HIN.out) hs
     have hmem := List.getElem_mem hlt
     have hsn := TL.nodes_mem hmem
     have htk : l.take (k + 1) = l.take k ++ [l[k]] := List.take_succ_eq_append_getElem hlt
     have hpl : (TL.txt bar (l.take k)).data.toList.length + 1000 * (l[k]).nodes ≤ 1000 * TL.nodes l := by
      have h1 := TL.txt_len bar (l.take k) (TL.form_take l k HFL.out)
      have h2 := TL.nodes_split hlt
      rw [data_len]; omega
     generalize l[k] = s at *
     have HTK := hide htk
     have HPL := hide hpl
     have HSN := hide hsn
     have HC := hide hcs
     have HSU := hide hsub
     have HBK := hide hbk
     have HX := hide (HIH.out s hmem B' c')
     clear hs hmem hsn htk hpl hcs hsub hbk
     subst hA
     have c0 := hRR.out.2.2.2.cell
     obtain ⟨n0, n1, n2, n3, n4, n5, n6, n7, n8, n9⟩ := (HC.out.same (same_of_below hRR.out.2.1) HBK.out).node
     have hal := (Below.refl wr.heap.size wr).alloc (Nat.le_refl _) (.cells #[.int .i64 s.hd.kind, .int .u64 s.hd.s0, .int .u64 s.hd.s1, .int .u64 s.hd.s2, .int .u64 s.hd.s3, .slice B' s.subs.length c', .int .i64 s.hd.num, .int .i64 s.hd.min, .int .i64 s.hd.max, .bool s.hd.bare] 27)
     have HP := hide (And.intro (hRR.out.1.next hal) (And.intro (hRR.out.2.1.trans (hal.mono (Nat.le_trans HLT.out.2 hRR.out.2.1.size))) (And.intro (hRR.out.2.2.1.trans (Kpt.below hal)) (And.intro (hRR.out.2.2.2.below hal hRR.out.2.2.2.lt) (Blk.new wr 27 #[.int .i64 s.hd.kind, .int .u64 s.hd.s0, .int .u64 s.hd.s1, .int .u64 s.hd.s2, .int .u64 s.hd.s3, .slice B' s.subs.length c', .int .i64 s.hd.num, .int .i64 s.hd.min, .int .i64 s.hd.max, .bool s.hd.bare])))))
     have hg5 : wr.heap.size ≠ b := fun e => by have := hRR.out.1.lt; omega
     have HG5 := hide hg5
     clear hal hg5
     go_upto_region 5 with fail
     clear n0 n1 n2 n3 n4 n5 n6 n7 n8 n9 c0
     generalize (wr.alloc (.cells #[.int .i64 s.hd.kind, .int .u64 s.hd.s0, .int .u64 s.hd.s1, .int .u64 s.hd.s2, .int .u64 s.hd.s3, .slice B' s.subs.length c', .int .i64 s.hd.num, .int .i64 s.hd.min, .int .i64 s.hd.max, .bool s.hd.bare] 27)) = w2 at *
     generalize wr.heap.size = g5 at *
     have c0 := HP.out.2.2.2.1.cell
     have hkinds : (k = 0) ∨ (0 < k ∧ bar = false) ∨ (0 < k ∧ bar = true) := by
      rcases Nat.eq_zero_or_pos k with e | e
      ·exact .inl e
      ·cases bar
       ·exact .inr (.inl ⟨e, rfl⟩)
       ·exact .inr (.inr ⟨e, rfl⟩)
     rcases hkinds with hk0 | ⟨hk0, hb⟩ | ⟨hk0, hb⟩
     ·have gk : decide ((0 : Int) < (k : Int)) = false := decide_eq_false (by omega)
      have gk2 : ¬ (0 : Int) < (k : Int) := by omega
      have gk3 : ¬ 0 < k := by omega
      have HEQ := hide (show (if bar = true ∧ l.take k ≠ [] then [124] else []) = ([] : List UInt8) from by rw [hk0, if_neg (by rintro ⟨_, e⟩; exact e rfl)])
      clear hk0
      go_upto_region 7 with fail
      clear gk gk2 gk3 c0
      have c5 := HP.out.2.2.2.2.cell
      have HX1 := hide (HX.out (bs ++ (TL.txt bar (l.take k)).data.toList) w2 (HSU.out.same (ok' := (· < B)) (same_of_below HP.out.2.1) (fun x hx => hx)) HP.out.1 HP.out.2.1 (by have := HLen.out; have := HPL.out; have := HSN.out; simp only [List.length_append, List.length_cons, List.length_nil] at *; omega))
      simp only [Hd.cells] at HX1
      go_wp2_with fail
      refine HX1.out.mono ?_
      rintro e w9 ⟨rfl, k1, k2, k3⟩
      have HE := hide (And.intro k1 (And.intro (HP.out.2.1.trans k2) (And.intro (HP.out.2.2.1.trans k3) (k3.blk HP.out.2.2.2.1 HGt.out (by decide)))))
      clear k1 k2 k3 HX1 c5
      go_wp2_with fail
      go_roundw
      case rel => exact ⟨k + 1, by go_num, hlt, by rw [HTK.out, txt_snoc]; rw [HEQ.out, List.nil_append, ← List.append_assoc]; exact HE.out.1, HE.out.2.1, HE.out.2.2.1, HE.out.2.2.2⟩
      case measure => simp [intOf]; omega
     ·have gk : decide ((0 : Int) < (k : Int)) = true := decide_eq_true (by omega)
      have gk3 : 0 < k := by omega
      have g6 : (kind == 6) = false := by rw [← HBar.out]; exact hb
      have HEQ := hide (show (if bar = true ∧ l.take k ≠ [] then [124] else []) = ([] : List UInt8) from by rw [hb, if_neg (by rintro ⟨e, _⟩; cases e)])
      clear hk0 hb
      go_upto_region 7 with fail
      clear gk gk3 g6 c0
      have c5 := HP.out.2.2.2.2.cell
      have HX1 := hide (HX.out (bs ++ (TL.txt bar (l.take k)).data.toList) w2 (HSU.out.same (ok' := (· < B)) (same_of_below HP.out.2.1) (fun x hx => hx)) HP.out.1 HP.out.2.1 (by have := HLen.out; have := HPL.out; have := HSN.out; simp only [List.length_append, List.length_cons, List.length_nil] at *; omega))
      simp only [Hd.cells] at HX1
      go_wp2_with fail
      refine HX1.out.mono ?_
      rintro e w9 ⟨rfl, k1, k2, k3⟩
      have HE := hide (And.intro k1 (And.intro (HP.out.2.1.trans k2) (And.intro (HP.out.2.2.1.trans k3) (k3.blk HP.out.2.2.2.1 HGt.out (by decide)))))
      clear k1 k2 k3 HX1 c5
      go_wp2_with fail
      go_roundw
      case rel => exact ⟨k + 1, by go_num, hlt, by rw [HTK.out, txt_snoc]; rw [HEQ.out, List.nil_append, ← List.append_assoc]; exact HE.out.1, HE.out.2.1, HE.out.2.2.1, HE.out.2.2.2⟩
      case measure => simp [intOf]; omega
     ·have gk : decide ((0 : Int) < (k : Int)) = true := decide_eq_true (by omega)
      have gk3 : 0 < k := by omega
      have g6 : (kind == 6) = true := by rw [← HBar.out]; exact hb
      have HEQ := hide (show (if bar = true ∧ l.take k ≠ [] then [124] else []) = ([124] : List UInt8) from by rw [hb, if_pos ⟨rfl, fun e => by have := congrArg List.length e; rw [List.length_take, List.length_nil] at this; omega⟩])
      have HW1 := hide (HW.out 124 (by decide) _ w2 HP.out.1 (by have := HLen.out; have := HPL.out; have := HSN.out; rw [List.length_append]; omega) HP.out.2.1)
      clear hk0 hb
      go_wp2_with fail
      refine HW1.out.mono ?_
      rintro e w3 ⟨rfl, k1, k2, k3⟩
      have HP2 := hide (And.intro k1 (And.intro (HP.out.2.1.trans k2) (And.intro (HP.out.2.2.1.trans k3) (And.intro (k3.blk HP.out.2.2.2.1 HGt.out (by decide)) (k3.blk HP.out.2.2.2.2 HG5.out (by decide))))))
      clear k1 k2 k3 HW1 gk gk3 g6 c0
      have c5 := HP2.out.2.2.2.2.cell
      have HX1 := hide (HX.out (bs ++ (TL.txt bar (l.take k)).data.toList ++ [(124 : Nat).toUInt8]) w3 (HSU.out.same (ok' := (· < B)) (same_of_below HP2.out.2.1) (fun x hx => hx)) HP2.out.1 HP2.out.2.1 (by have := HLen.out; have := HPL.out; have := HSN.out; simp only [List.length_append, List.length_cons, List.length_nil] at *; omega))
      simp only [Hd.cells] at HX1
      go_wp2_with fail
      refine HX1.out.mono ?_
      rintro e w9 ⟨rfl, k1, k2, k3⟩
      have HE := hide (And.intro k1 (And.intro (HP2.out.2.1.trans k2) (And.intro (HP2.out.2.2.1.trans k3) (k3.blk HP2.out.2.2.2.1 HGt.out (by decide)))))
      clear k1 k2 k3 HX1 c5
      go_wp2_with fail
      go_roundw
      case rel => exact ⟨k + 1, by go_num, hlt, by rw [HTK.out, txt_snoc]; rw [HEQ.out, ← List.append_assoc, ← List.append_assoc]; exact HE.out.1, HE.out.2.1, HE.out.2.2.1, HE.out.2.2.2⟩
      case measure => simp [intOf]; omega
    ·have g1 : decide ((k : Int) < (l.length : Int)) = false := decide_eq_false (by omega)
     have hfin := hRR.out.1
     rw [List.take_of_length_le (by omega), ← HR.out] at hfin
     have HF := hide hfin
     clear hfin
     go_wp2_with fail
     go_end0
     exact ⟨rfl, HF.out, hRR.out.2.1, hRR.out.2.2.1⟩
end Go.Proofs.YtpkcklpjbeginaaGreatDoor

/-! ## Tidy8 -/
namespace Go.Proofs.YtpkcklpjbeginaaGreatDoor
open Go.RowKit

theorem T.tidyN_bd {t : T} {g x : Int} (hf : t.form = true) (h : t.tidyN g = some x) : g ≤ x ∧ x ≤ g + t.nodes := by
 rw [T.tidyN_is t g hf] at h
 split at h
 ·have := T.numbers_len t
  have := Option.some.inj h
  omega
 ·cases h
/-- What stands right below does not fit. -/
def badK (k s : Int) : Bool := (k == 5 && (s == 1 || s == 5 || s == 6)) || (k == 6 && s == 6)
theorem fitsK_bad {k s : Int} (h : k ≠ 8) : fitsK k s = !badK k s := by
 unfold fitsK badK
 by_cases e5 : k = 5
 ·subst e5; simp
 by_cases e6 : k = 6
 ·subst e6; simp
 ·rw [if_neg e5, if_neg e6, if_neg h, beq_eq_false_iff_ne.2 e5, beq_eq_false_iff_ne.2 e6]; rfl
theorem tidyN_cons (k : Int) (t : T) (r : List T) (g : Int) : TL.tidyN k (t :: r) g = if fitsK k t.hd.kind = false then none else match t.tidyN g with
  | none => none
  | some g' => TL.tidyN k r g' := by rw [TL.tidyN]; rfl
theorem grownBy_below {w w' : World} {g : Nat} (h : Below w.heap.size w w') : w.grownBy w' (some g) := ⟨h.os, h.tape, h.output, h.size, fun k hk _ => h.block k hk⟩
theorem grownBy_tr {w w1 w2 : World} {g : Nat} (h : w.grownBy w1 (some g)) (k : w1.grownBy w2 (some g)) : w.grownBy w2 (some g) := ⟨k.os.trans h.os, k.tape.trans h.tape, k.output.trans h.output, Nat.le_trans h.size k.size, fun b hb hn => (k.block b (Nat.lt_of_lt_of_le hb h.size) hn).trans (h.block b hb hn)⟩
theorem grownBy_set {w : World} {g i : Nat} (v : Value) : w.grownBy (w.setCell ⟨g, i, none⟩ v) (some g) := by
 have h := (Below.refl g w).setCell (p := ⟨g, i, none⟩) (Nat.le_refl _) v
 exact ⟨h.os, h.tape, h.output, h.size, fun b hb hn => Below.heap_setCell w ⟨g, i, none⟩ v b (fun e => hn (by rw [e]))⟩
theorem grownBy_dn {w w' : World} {g : Nat} (h : w.grownBy w' (some g)) (n : Nat) : w.grownBy (w'.drewN n) (some g) := ⟨h.os, h.tape, h.output, h.size, h.block⟩
theorem grownBy_same {w w' : World} {g : Nat} (h : w.grownBy w' (some g)) : Same (fun b => b < w.heap.size ∧ b ≠ g) w w' := fun b hb => h.block b hb.1 (fun e => hb.2 (Option.some.inj e))
set_option maxRecDepth 100000 in
set_option maxHeartbeats 8000000 in
theorem tidy8_any (N : Nat) : ∀ (t : T) (A : Option Addr) (c gq : Nat) (g : Int) (w : World), t.nodes ≤ N → N ≤ 1000000 → t.form = true → T.In w (fun b => b < w.heap.size ∧ b ≠ gq) t A → Blk w gq 3 #[.int .i64 g] → 0 ≤ g ∧ g + t.nodes ≤ 2000000 →
  Calls Tryz.prog 30 #[.agg (t.hd.cells (.slice A t.subs.length c)).toArray, .pointer (some ⟨gq, 0, none⟩)] w fun e w' => e = .returned (.bool (t.tidyN g).isSome) ∧ (∃ g', Blk w' gq 3 #[.int .i64 g'] ∧ ∀ x, t.tidyN g = some x → g' = x) ∧ w.grownBy w' (some gq) := by
 induction N with
 | zero => intro t A c gq g w h; have := t.nodes_pos; omega
 | succ N ih =>
  intro t A c gq g w hN hM hform hin hq hg
  have hfm := hform
  obtain ⟨h, l⟩ := t
  rw [T.form_eq, Bool.and_eq_true] at hfm
  have hlen0 := T.length_lt (T.mk h l)
  obtain ⟨kind, s0, s1, s2, s3, num, mn, mx, bare⟩ := h
  obtain ⟨res, hres⟩ : ∃ r, r = (T.mk ⟨kind, s0, s1, s2, s3, num, mn, mx, bare⟩ l).tidyN g := ⟨_, rfl⟩
  rw [← hres]
  rw [T.tidyN] at hres
  have hkinds := form_kind hfm.1
  simp only [T.hd, T.subs] at hkinds hfm hres
  simp only [T.nodes, T.hd, T.subs, Hd.cells] at hlen0 hN hg ⊢
  have hb0 := Blk.new w 27 #[.int .i64 kind, .int .u64 s0, .int .u64 s1, .int .u64 s2, .int .u64 s3, .slice A l.length c, .int .i64 num, .int .i64 mn, .int .i64 mx, .bool bare]
  have hbel0 := (Below.refl w.heap.size w).alloc (Nat.le_refl _) (.cells #[.int .i64 kind, .int .u64 s0, .int .u64 s1, .int .u64 s2, .int .u64 s3, .slice A l.length c, .int .i64 num, .int .i64 mn, .int .i64 mx, .bool bare] 27)
  have hgt : gq ≠ w.heap.size := fun e => by have := hq.lt; omega
  have H0 := hide (And.intro (hq.below hbel0 hq.lt) (And.intro (grownBy_below (g := gq) hbel0) hb0))
  have HIN := hide hin
  have HFL := hide hfm.2
  have HGt := hide hgt
  have HGB := hide hg
  have HIH := hide (fun (s : T) (hs : s ∈ l) (A' : Option Addr) (c' : Nat) (g' : Int) (y : World) (hi : T.In y (fun b => b < y.heap.size ∧ b ≠ gq) s A') (hq' : Blk y gq 3 #[.int .i64 g']) (hg' : 0 ≤ g' ∧ g' + s.nodes ≤ 2000000) => ih s A' c' gq g' y (by have := TL.nodes_mem hs; omega) (by omega) (TL.form_mem hfm.2 hs) hi hq' hg')
  clear ih hin hb0 hbel0 hq hfm hform hgt hg
  go_enter Tryz.func30, Tryz.ntmps30
  go_upto_region 1 with fail
  generalize (w.alloc (.cells #[.int .i64 kind, .int .u64 s0, .int .u64 s1, .int .u64 s2, .int .u64 s3, .slice A l.length c, .int .i64 num, .int .i64 mn, .int .i64 mx, .bool bare] 27)) = W at *
  have c0 := H0.out.2.2.cell
  have hkk : kind = 8 ∨ kind = 7 ∨ (kind ≠ 8 ∧ kind ≠ 7 ∧ 1 ≤ kind) := by omega
  rcases hkk with rfl | rfl | ⟨k8, k7, k1⟩
  ·have hl1 : (l.length : Int) = 1 := by omega
   clear hkinds
   have hs := List.getElem?_eq_getElem (l := l) (i := 0) (by omega)
   have hmem := List.getElem_mem (l := l) (n := 0) (by omega)
   have hl2 : l = [l[0]'(by omega)] := by
    match l, hl1 with
    | [x], _ => rfl
   generalize l[0]'(by omega) = s at *
   obtain ⟨bk0, o0, B0, c0', hA, hbk, hcs, hsub⟩ := TL.In.at_ (T.In_iff.1 HIN.out) hs
   rw [Nat.zero_mul, Nat.add_zero] at hcs
   subst hA
   obtain ⟨n0, n1, n2, n3, n4, n5, n6, n7, n8, n9⟩ := (hcs.same (grownBy_same H0.out.2.1) hbk).node
   have HL2 := hide hl2
   obtain ⟨sk, hsk⟩ : ∃ sk, sk = s.hd.kind := ⟨_, rfl⟩
   rw [← hsk] at n0
   have HSK := hide hsk
   clear hs hmem hl2 hcs hsub hbk hsk
   by_cases hb : bare = true
   ·subst hb
    have HN := hide (show res = none from by rw [hres, if_pos ⟨rfl, rfl⟩])
    clear hres
    go_wp2_with fail
    go_ret
    exact ⟨by rw [HN.out]; rfl, ⟨_, H0.out.1, fun x hx => by rw [HN.out] at hx; cases hx⟩, H0.out.2.1⟩
   have hb2 : bare = false := by cases bare <;> simp_all
   subst hb2
   rw [if_neg (by rintro ⟨_, e⟩; cases e), if_neg (by rintro ⟨e, _⟩; cases e), if_neg (by intro e; cases e)] at hres
   have HRes := hide hres
   clear hres hb
   by_cases a2 : sk = 2 ∨ sk = 7
   ·have HF8 := hide (show ∀ s ∈ l, fitsK 8 s.hd.kind = true from fun u hu => by
     rw [HL2.out] at hu
     rw [List.mem_singleton.1 hu, ← HSK.out]
     rcases a2 with e | e <;> rw [e] <;> rfl)
    have HH := hide H0.out
    go_upto_region 4 with fail
    go_cut [26] (fun z wx => z = .bool false ∧ wx = W)
    case first =>
     by_cases b2 : sk = 2
     ·have y2 : (sk != 2) = false := by rw [b2]; rfl
      clear a2
      go_wp2_with fail
      go_meet
      case rel => exact ⟨rfl, rfl⟩
     ·have b7 : sk = 7 := a2.resolve_left b2
      have y2 : (sk != 2) = true := by rw [b7]; rfl
      have y7 : (sk != 7) = false := by rw [b7]; rfl
      clear a2 b2 b7
      go_wp2_with fail
      go_meet
      case rel => exact ⟨rfl, rfl⟩
    case rest =>
    obtain ⟨hv8, hwc⟩ := hcut
    obtain rfl := hwc.symm
    subst hv8
    clear n0 n1 n2 n3 n4 n5 n6 n7 n8 n9 a2
    go_wp2_with fail
    clear c0
    go_loopw [43] (fun kv wr => ∃ (k : Nat) (gk : Int), kv = .int .i64 (k : Int) ∧ k ≤ l.length ∧ Blk wr gq 3 #[.int .i64 gk] ∧ w.grownBy wr (some gq) ∧ Blk wr w.heap.size 27 #[.int .i64 8, .int .u64 s0, .int .u64 s1, .int .u64 s2, .int .u64 s3, .slice (some ⟨bk0, o0, none⟩) l.length c, .int .i64 num, .int .i64 mn, .int .i64 mx, .bool false] ∧ res = TL.tidyN 8 (l.drop k) gk ∧ 0 ≤ gk ∧ gk + TL.nodes (l.drop k) ≤ 2000000) (fun kv _ => l.length - (intOf kv).toNat)
    case atStart => exact ⟨0, g, rfl, Nat.zero_le _, HH.out.1, HH.out.2.1, HH.out.2.2, HRes.out, by have := HGB.out; omega, by have := HGB.out; rw [List.drop_zero]; omega⟩
    case round =>
     obtain ⟨k, gk, rfl, hk, r1, r2, r3, r4, r5, r6⟩ := hrel
     have hR := hide (And.intro r1 (And.intro r2 r3))
     have HRr := hide r4
     have HGk := hide (And.intro r5 r6)
     clear r1 r2 r3 r4 r5 r6
     by_cases hlt : k < l.length
     ·have g1 : decide ((k : Int) < (l.length : Int)) = true := decide_eq_true (by omega)
      have hs := List.getElem?_eq_getElem hlt
      obtain ⟨bk, o, B', c', hA, hbk, hcs, hsub⟩ := TL.In.at_ (T.In_iff.1 HIN.out) hs
      have hmem := List.getElem_mem hlt
      have hsn := TL.nodes_mem hmem
      have hdr : l.drop k = l[k] :: l.drop (k + 1) := List.drop_eq_getElem_cons hlt
      generalize l[k] = s at *
      have hres2 := HRr.out
      have hgk := HGk.out
      rw [hdr] at hres2 hgk
      rw [TL.nodes] at hgk
      have HR3 := hide hres2
      have HG3 := hide hgk
      have HMem := hide hmem
      have HC := hide hcs
      have HSU := hide hsub
      have HBK := hide hbk
      have HX := hide (HIH.out s hmem B' c' gk)
      have HFs := hide (TL.form_mem HFL.out hmem)
      have HFit := hide (show fitsK 8 s.hd.kind = !badK 8 s.hd.kind from by rw [HF8.out s hmem]; simp [badK])
      clear hs hmem hsn hdr hcs hsub hbk hres2 hgk
      cases hA
      obtain ⟨n0, n1, n2, n3, n4, n5, n6, n7, n8, n9⟩ := (HC.out.same (grownBy_same hR.out.2.1) HBK.out).node
      have hal := (Below.refl wr.heap.size wr).alloc (Nat.le_refl _) (.cells #[.int .i64 s.hd.kind, .int .u64 s.hd.s0, .int .u64 s.hd.s1, .int .u64 s.hd.s2, .int .u64 s.hd.s3, .slice B' s.subs.length c', .int .i64 s.hd.num, .int .i64 s.hd.min, .int .i64 s.hd.max, .bool s.hd.bare] 27)
      have HQ2 := hide (And.intro (hR.out.1.below hal hR.out.1.lt) (And.intro (grownBy_tr hR.out.2.1 (grownBy_below hal)) (And.intro (hR.out.2.2.below hal hR.out.2.2.lt) (Blk.new wr 27 #[.int .i64 s.hd.kind, .int .u64 s.hd.s0, .int .u64 s.hd.s1, .int .u64 s.hd.s2, .int .u64 s.hd.s3, .slice B' s.subs.length c', .int .i64 s.hd.num, .int .i64 s.hd.min, .int .i64 s.hd.max, .bool s.hd.bare]))))
      have c0 := hR.out.2.2.cell
      clear hal
      go_upto_region 13 with fail
      clear n0 n1 n2 n3 n4 n5 n6 n7 n8 n9 c0
      generalize (wr.alloc (.cells #[.int .i64 s.hd.kind, .int .u64 s.hd.s0, .int .u64 s.hd.s1, .int .u64 s.hd.s2, .int .u64 s.hd.s3, .slice B' s.subs.length c', .int .i64 s.hd.num, .int .i64 s.hd.min, .int .i64 s.hd.max, .bool s.hd.bare] 27)) = w2 at *
      have hg7 : wr.heap.size ≠ gq := fun e => by have := hR.out.1.lt; omega
      have HG7 := hide hg7
      clear hg7
      generalize wr.heap.size = g7 at *
      have c0 := HQ2.out.2.2.1.cell
      have c7 := HQ2.out.2.2.2.cell
      go_cut [74] (fun z wx => z = .bool (badK 8 s.hd.kind) ∧ wx = w2)
      case first =>
       have HBD := hide (show (.bool false : Value) = .bool (badK 8 s.hd.kind) from by simp [badK])
       go_wp2_with fail
       go_meet
       case rel => exact ⟨HBD.out, rfl⟩
      case rest =>
      obtain ⟨hv8, hwc⟩ := hcut
      obtain rfl := hwc.symm
      subst hv8
      cases hbad : badK 8 s.hd.kind with
      | true =>
       have HN := hide (show res = none from by rw [HR3.out, tidyN_cons, HFit.out, hbad]; rfl)
       clear hbad
       go_wp2_with fail
       go_ret
       exact ⟨by rw [HN.out]; rfl, ⟨_, HQ2.out.1, fun x hx => by rw [HN.out] at hx; cases hx⟩, HQ2.out.2.1⟩
      | false =>
       have HN := hide (show res = match s.tidyN gk with
        | none => none
        | some g' => TL.tidyN 8 (l.drop (k + 1)) g' from by rw [HR3.out, tidyN_cons, HFit.out, hbad]; rfl)
       have HX1 := hide (HX.out w2 (HSU.out.same (ok' := fun b => b < w2.heap.size ∧ b ≠ gq) (grownBy_same HQ2.out.2.1) (fun x hx => ⟨Nat.lt_of_lt_of_le hx.1 HQ2.out.2.1.size, hx.2⟩)) HQ2.out.1 (by have := HG3.out; omega))
       simp only [Hd.cells] at HX1
       clear hbad
       go_wp2_with fail
       refine HX1.out.mono ?_
       rintro e w3 ⟨rfl, ⟨g9, q1, q2⟩, q3⟩
       have HE := hide (And.intro q1 (And.intro (grownBy_tr HQ2.out.2.1 q3) ((q3.block w.heap.size HQ2.out.2.2.1.lt (fun e => HGt.out (Option.some.inj e).symm)).trans HQ2.out.2.2.1)))
       cases htd : s.tidyN gk with
       | none =>
        have HN2 := hide (show res = none from by rw [HN.out, htd])
        clear q1 q2 q3 HX1 htd c0 c7
        go_wp2_with fail
        go_ret
        exact ⟨by rw [HN2.out]; rfl, ⟨_, HE.out.1, fun x hx => by rw [HN2.out] at hx; cases hx⟩, HE.out.2.1⟩
       | some x =>
        have hx := q2 x htd
        have hbd := T.tidyN_bd HFs.out htd
        have HN2 := hide (show res = TL.tidyN 8 (l.drop (k + 1)) g9 from by rw [HN.out, htd, hx])
        have HB9 := hide (show 0 ≤ g9 ∧ g9 + TL.nodes (l.drop (k + 1)) ≤ 2000000 from by have := HG3.out; omega)
        clear q1 q2 q3 HX1 htd hx hbd c0 c7
        go_wp2_with fail
        go_roundw
        case rel => exact ⟨k + 1, g9, by go_num, hlt, HE.out.1, HE.out.2.1, HE.out.2.2, HN2.out, HB9.out.1, HB9.out.2⟩
        case measure => simp [intOf]; omega
     ·have g1 : decide ((k : Int) < (l.length : Int)) = false := decide_eq_false (by omega)
      have hfin := HRr.out
      rw [List.drop_eq_nil_of_le (by omega)] at hfin
      have HF := hide (show res = some gk from hfin)
      clear hfin
      go_wp2_with fail
      go_ret
      exact ⟨by rw [HF.out]; rfl, ⟨gk, hR.out.1, fun x hx => by rw [HF.out] at hx; exact Option.some.inj hx⟩, hR.out.2.1⟩
   ·have HN := hide (show res = none from by
     have : l = [s] := HL2.out
     rw [HRes.out, this, tidyN_cons, if_pos]
     rw [← HSK.out]
     unfold fitsK
     rw [if_neg (by decide), if_neg (by decide), if_pos rfl, beq_eq_false_iff_ne.2 (fun e => a2 (.inl e)), beq_eq_false_iff_ne.2 (fun e => a2 (.inr e))]
     rfl)
    have y2 : (sk != 2) = true := by simp only [bne_iff_ne]; exact fun e => a2 (.inl e)
    have y7 : (sk != 7) = true := by simp only [bne_iff_ne]; exact fun e => a2 (.inr e)
    clear a2
    go_wp2_with fail
    go_ret
    exact ⟨by rw [HN.out]; rfl, ⟨_, H0.out.1, fun x hx => by rw [HN.out] at hx; cases hx⟩, H0.out.2.1⟩
  ·clear hkinds
   rw [if_neg (by rintro ⟨e, _⟩; cases e)] at hres
   have cq := H0.out.1.cell
   have fq := H0.out.1.frozen
   have hw1 : IntKind.i64.wrap (g + 1) = g + 1 := wrapI (by have := HGB.out; omega) (by have := HGB.out; omega)
   have hw2 : wrap64 (g + 1) = g + 1 := by have := HGB.out; unfold wrap64; omega
   go_upto_region 8 with fail
   have hset := H0.out.1.set_ 0 (.int .i64 (g + 1))
   have HH := hide (And.intro (show Blk (W.setCell ⟨gq, 0, none⟩ (.int .i64 (g + 1))) gq 3 #[.int .i64 (g + 1)] from hset) (And.intro (grownBy_tr H0.out.2.1 (grownBy_set (i := 0) (.int .i64 (g + 1)))) (Blk.far (p := ⟨gq, 0, none⟩) H0.out.2.2 (fun e => HGt.out e.symm) (.int .i64 (g + 1)))))
   clear hset cq fq c0 hw1 hw2
   generalize (W.setCell ⟨gq, 0, none⟩ (.int .i64 (g + 1))) = w5 at *
   have c0 := HH.out.2.2.cell
   have cq := HH.out.1.cell
   by_cases hnum : num = g + 1
   ·rw [if_neg (by rintro ⟨_, e⟩; exact e hnum), if_pos rfl] at hres
    have HRes := hide hres
    have yn : (num != g + 1) = false := by rw [hnum]; simp
    have HNum := hide hnum
    clear hres hnum
    go_quiet (fail)
    go_wp2_with fail
    clear c0
    go_loopw [43] (fun kv wr => ∃ (k : Nat) (gk : Int), kv = .int .i64 (k : Int) ∧ k ≤ l.length ∧ Blk wr gq 3 #[.int .i64 gk] ∧ w.grownBy wr (some gq) ∧ Blk wr w.heap.size 27 #[.int .i64 7, .int .u64 s0, .int .u64 s1, .int .u64 s2, .int .u64 s3, .slice A l.length c, .int .i64 num, .int .i64 mn, .int .i64 mx, .bool bare] ∧ res = TL.tidyN 7 (l.drop k) gk ∧ 0 ≤ gk ∧ gk + TL.nodes (l.drop k) ≤ 2000000) (fun kv _ => l.length - (intOf kv).toNat)
    case atStart => exact ⟨0, (g + 1), rfl, Nat.zero_le _, HH.out.1, grownBy_dn HH.out.2.1 _, HH.out.2.2, HRes.out, by have := HGB.out; omega, by have := HGB.out; rw [List.drop_zero]; omega⟩
    case round =>
     obtain ⟨k, gk, rfl, hk, r1, r2, r3, r4, r5, r6⟩ := hrel
     have hR := hide (And.intro r1 (And.intro r2 r3))
     have HRr := hide r4
     have HGk := hide (And.intro r5 r6)
     clear r1 r2 r3 r4 r5 r6
     by_cases hlt : k < l.length
     ·have g1 : decide ((k : Int) < (l.length : Int)) = true := decide_eq_true (by omega)
      have hs := List.getElem?_eq_getElem hlt
      obtain ⟨bk, o, B', c', hA, hbk, hcs, hsub⟩ := TL.In.at_ (T.In_iff.1 HIN.out) hs
      have hmem := List.getElem_mem hlt
      have hsn := TL.nodes_mem hmem
      have hdr : l.drop k = l[k] :: l.drop (k + 1) := List.drop_eq_getElem_cons hlt
      generalize l[k] = s at *
      have hres2 := HRr.out
      have hgk := HGk.out
      rw [hdr] at hres2 hgk
      rw [TL.nodes] at hgk
      have HR3 := hide hres2
      have HG3 := hide hgk
      have HMem := hide hmem
      have HC := hide hcs
      have HSU := hide hsub
      have HBK := hide hbk
      have HX := hide (HIH.out s hmem B' c' gk)
      have HFs := hide (TL.form_mem HFL.out hmem)
      have HFit := hide (show fitsK 7 s.hd.kind = !badK 7 s.hd.kind from fitsK_bad (by decide))
      clear hs hmem hsn hdr hcs hsub hbk hres2 hgk
      cases hA
      obtain ⟨n0, n1, n2, n3, n4, n5, n6, n7, n8, n9⟩ := (HC.out.same (grownBy_same hR.out.2.1) HBK.out).node
      have hal := (Below.refl wr.heap.size wr).alloc (Nat.le_refl _) (.cells #[.int .i64 s.hd.kind, .int .u64 s.hd.s0, .int .u64 s.hd.s1, .int .u64 s.hd.s2, .int .u64 s.hd.s3, .slice B' s.subs.length c', .int .i64 s.hd.num, .int .i64 s.hd.min, .int .i64 s.hd.max, .bool s.hd.bare] 27)
      have HQ2 := hide (And.intro (hR.out.1.below hal hR.out.1.lt) (And.intro (grownBy_tr hR.out.2.1 (grownBy_below hal)) (And.intro (hR.out.2.2.below hal hR.out.2.2.lt) (Blk.new wr 27 #[.int .i64 s.hd.kind, .int .u64 s.hd.s0, .int .u64 s.hd.s1, .int .u64 s.hd.s2, .int .u64 s.hd.s3, .slice B' s.subs.length c', .int .i64 s.hd.num, .int .i64 s.hd.min, .int .i64 s.hd.max, .bool s.hd.bare]))))
      have c0 := hR.out.2.2.cell
      clear hal
      go_upto_region 13 with fail
      clear n0 n1 n2 n3 n4 n5 n6 n7 n8 n9 c0
      generalize (wr.alloc (.cells #[.int .i64 s.hd.kind, .int .u64 s.hd.s0, .int .u64 s.hd.s1, .int .u64 s.hd.s2, .int .u64 s.hd.s3, .slice B' s.subs.length c', .int .i64 s.hd.num, .int .i64 s.hd.min, .int .i64 s.hd.max, .bool s.hd.bare] 27)) = w2 at *
      have hg7 : wr.heap.size ≠ gq := fun e => by have := hR.out.1.lt; omega
      have HG7 := hide hg7
      clear hg7
      generalize wr.heap.size = g7 at *
      have c0 := HQ2.out.2.2.1.cell
      have c7 := HQ2.out.2.2.2.cell
      go_cut [74] (fun z wx => z = .bool (badK 7 s.hd.kind) ∧ wx = w2)
      case first =>
       have HBD := hide (show (.bool false : Value) = .bool (badK 7 s.hd.kind) from by simp [badK])
       go_wp2_with fail
       go_meet
       case rel => exact ⟨HBD.out, rfl⟩
      case rest =>
      obtain ⟨hv8, hwc⟩ := hcut
      obtain rfl := hwc.symm
      subst hv8
      cases hbad : badK 7 s.hd.kind with
      | true =>
       have HN := hide (show res = none from by rw [HR3.out, tidyN_cons, HFit.out, hbad]; rfl)
       clear hbad
       go_wp2_with fail
       go_ret
       exact ⟨by rw [HN.out]; rfl, ⟨_, HQ2.out.1, fun x hx => by rw [HN.out] at hx; cases hx⟩, HQ2.out.2.1⟩
      | false =>
       have HN := hide (show res = match s.tidyN gk with
        | none => none
        | some g' => TL.tidyN 7 (l.drop (k + 1)) g' from by rw [HR3.out, tidyN_cons, HFit.out, hbad]; rfl)
       have HX1 := hide (HX.out w2 (HSU.out.same (ok' := fun b => b < w2.heap.size ∧ b ≠ gq) (grownBy_same HQ2.out.2.1) (fun x hx => ⟨Nat.lt_of_lt_of_le hx.1 HQ2.out.2.1.size, hx.2⟩)) HQ2.out.1 (by have := HG3.out; omega))
       simp only [Hd.cells] at HX1
       clear hbad
       go_wp2_with fail
       refine HX1.out.mono ?_
       rintro e w3 ⟨rfl, ⟨g9, q1, q2⟩, q3⟩
       have HE := hide (And.intro q1 (And.intro (grownBy_tr HQ2.out.2.1 q3) ((q3.block w.heap.size HQ2.out.2.2.1.lt (fun e => HGt.out (Option.some.inj e).symm)).trans HQ2.out.2.2.1)))
       cases htd : s.tidyN gk with
       | none =>
        have HN2 := hide (show res = none from by rw [HN.out, htd])
        clear q1 q2 q3 HX1 htd c0 c7
        go_wp2_with fail
        go_ret
        exact ⟨by rw [HN2.out]; rfl, ⟨_, HE.out.1, fun x hx => by rw [HN2.out] at hx; cases hx⟩, HE.out.2.1⟩
       | some x =>
        have hx := q2 x htd
        have hbd := T.tidyN_bd HFs.out htd
        have HN2 := hide (show res = TL.tidyN 7 (l.drop (k + 1)) g9 from by rw [HN.out, htd, hx])
        have HB9 := hide (show 0 ≤ g9 ∧ g9 + TL.nodes (l.drop (k + 1)) ≤ 2000000 from by have := HG3.out; omega)
        clear q1 q2 q3 HX1 htd hx hbd c0 c7
        go_wp2_with fail
        go_roundw
        case rel => exact ⟨k + 1, g9, by go_num, hlt, HE.out.1, HE.out.2.1, HE.out.2.2, HN2.out, HB9.out.1, HB9.out.2⟩
        case measure => simp [intOf]; omega
     ·have g1 : decide ((k : Int) < (l.length : Int)) = false := decide_eq_false (by omega)
      have hfin := HRr.out
      rw [List.drop_eq_nil_of_le (by omega)] at hfin
      have HF := hide (show res = some gk from hfin)
      clear hfin
      go_wp2_with fail
      go_ret
      exact ⟨by rw [HF.out]; rfl, ⟨gk, hR.out.1, fun x hx => by rw [HF.out] at hx; exact Option.some.inj hx⟩, hR.out.2.1⟩
   ·rw [if_pos ⟨rfl, hnum⟩] at hres
    have HN := hide hres
    have yn : (num != g + 1) = true := by simp only [bne_iff_ne]; exact hnum
    clear hres hnum
    go_quiet (fail)
    go_wp2_with fail
    go_ret
    exact ⟨by rw [HN.out]; rfl, ⟨_, HH.out.1, fun x hx => by rw [HN.out] at hx; cases hx⟩, grownBy_dn HH.out.2.1 _⟩
  ·rw [if_neg (by rintro ⟨e, _⟩; exact k8 e), if_neg (by rintro ⟨e, _⟩; exact k7 e), if_neg k7] at hres
   have HRes := hide hres
   have HH := hide H0.out
   have z8 : (kind == 8) = false := beq_eq_false_iff_ne.2 k8
   have z7 : (kind == 7) = false := beq_eq_false_iff_ne.2 k7
   clear hres hkinds
   go_wp2_with fail
   clear c0
   go_loopw [43] (fun kv wr => ∃ (k : Nat) (gk : Int), kv = .int .i64 (k : Int) ∧ k ≤ l.length ∧ Blk wr gq 3 #[.int .i64 gk] ∧ w.grownBy wr (some gq) ∧ Blk wr w.heap.size 27 #[.int .i64 kind, .int .u64 s0, .int .u64 s1, .int .u64 s2, .int .u64 s3, .slice A l.length c, .int .i64 num, .int .i64 mn, .int .i64 mx, .bool bare] ∧ res = TL.tidyN kind (l.drop k) gk ∧ 0 ≤ gk ∧ gk + TL.nodes (l.drop k) ≤ 2000000) (fun kv _ => l.length - (intOf kv).toNat)
   case atStart => exact ⟨0, g, rfl, Nat.zero_le _, HH.out.1, HH.out.2.1, HH.out.2.2, HRes.out, by have := HGB.out; omega, by have := HGB.out; rw [List.drop_zero]; omega⟩
   case round =>
    obtain ⟨k, gk, rfl, hk, r1, r2, r3, r4, r5, r6⟩ := hrel
    have hR := hide (And.intro r1 (And.intro r2 r3))
    have HRr := hide r4
    have HGk := hide (And.intro r5 r6)
    clear r1 r2 r3 r4 r5 r6
    by_cases hlt : k < l.length
    ·have g1 : decide ((k : Int) < (l.length : Int)) = true := decide_eq_true (by omega)
     have hs := List.getElem?_eq_getElem hlt
     obtain ⟨bk, o, B', c', hA, hbk, hcs, hsub⟩ := TL.In.at_ (T.In_iff.1 HIN.out) hs
     have hmem := List.getElem_mem hlt
     have hsn := TL.nodes_mem hmem
     have hdr : l.drop k = l[k] :: l.drop (k + 1) := List.drop_eq_getElem_cons hlt
     generalize l[k] = s at *
     have hres2 := HRr.out
     have hgk := HGk.out
     rw [hdr] at hres2 hgk
     rw [TL.nodes] at hgk
     have HR3 := hide hres2
     have HG3 := hide hgk
     have HMem := hide hmem
     have HC := hide hcs
     have HSU := hide hsub
     have HBK := hide hbk
     have HX := hide (HIH.out s hmem B' c' gk)
     have HFs := hide (TL.form_mem HFL.out hmem)
     have HFit := hide (show fitsK kind s.hd.kind = !badK kind s.hd.kind from fitsK_bad (by omega))
     clear hs hmem hsn hdr hcs hsub hbk hres2 hgk
     cases hA
     obtain ⟨n0, n1, n2, n3, n4, n5, n6, n7, n8, n9⟩ := (HC.out.same (grownBy_same hR.out.2.1) HBK.out).node
     have hal := (Below.refl wr.heap.size wr).alloc (Nat.le_refl _) (.cells #[.int .i64 s.hd.kind, .int .u64 s.hd.s0, .int .u64 s.hd.s1, .int .u64 s.hd.s2, .int .u64 s.hd.s3, .slice B' s.subs.length c', .int .i64 s.hd.num, .int .i64 s.hd.min, .int .i64 s.hd.max, .bool s.hd.bare] 27)
     have HQ2 := hide (And.intro (hR.out.1.below hal hR.out.1.lt) (And.intro (grownBy_tr hR.out.2.1 (grownBy_below hal)) (And.intro (hR.out.2.2.below hal hR.out.2.2.lt) (Blk.new wr 27 #[.int .i64 s.hd.kind, .int .u64 s.hd.s0, .int .u64 s.hd.s1, .int .u64 s.hd.s2, .int .u64 s.hd.s3, .slice B' s.subs.length c', .int .i64 s.hd.num, .int .i64 s.hd.min, .int .i64 s.hd.max, .bool s.hd.bare]))))
     have c0 := hR.out.2.2.cell
     clear hal
     go_upto_region 13 with fail
     clear n0 n1 n2 n3 n4 n5 n6 n7 n8 n9 c0
     generalize (wr.alloc (.cells #[.int .i64 s.hd.kind, .int .u64 s.hd.s0, .int .u64 s.hd.s1, .int .u64 s.hd.s2, .int .u64 s.hd.s3, .slice B' s.subs.length c', .int .i64 s.hd.num, .int .i64 s.hd.min, .int .i64 s.hd.max, .bool s.hd.bare] 27)) = w2 at *
     have hg7 : wr.heap.size ≠ gq := fun e => by have := hR.out.1.lt; omega
     have HG7 := hide hg7
     clear hg7
     generalize wr.heap.size = g7 at *
     have c0 := HQ2.out.2.2.1.cell
     have c7 := HQ2.out.2.2.2.cell
     go_cut [74] (fun z wx => z = .bool (badK kind s.hd.kind) ∧ wx = w2)
     case first =>
      obtain ⟨sk, hsk⟩ : ∃ sk, sk = s.hd.kind := ⟨_, rfl⟩
      have c7' := c7
      rw [← hsk]
      clear c7
      have c7 := HQ2.out.2.2.2.cell
      rw [← hsk] at c7
      have HSK := hide hsk
      clear hsk c7'
      by_cases e5 : kind = 5
      ·have z5 : (kind == 5) = true := by rw [e5]; rfl
       have z6 : (kind == 6) = false := by rw [e5]; rfl
       by_cases a1 : sk = 1
       ·have y1 : (sk == 1) = true := by rw [a1]; rfl
        have HBD := hide (show (.bool true : Value) = .bool (badK kind s.hd.kind) from by rw [← HSK.out]; simp [badK, e5, a1])
        go_wp2_with fail
        go_meet
        case rel => exact ⟨HBD.out, rfl⟩
       have y1 : (sk == 1) = false := beq_eq_false_iff_ne.2 a1
       by_cases a5 : sk = 5
       ·have y5 : (sk == 5) = true := by rw [a5]; rfl
        have HBD := hide (show (.bool true : Value) = .bool (badK kind s.hd.kind) from by rw [← HSK.out]; simp [badK, e5, a5])
        go_wp2_with fail
        go_meet
        case rel => exact ⟨HBD.out, rfl⟩
       have y5 : (sk == 5) = false := beq_eq_false_iff_ne.2 a5
       by_cases a6 : sk = 6
       ·have y6 : (sk == 6) = true := by rw [a6]; rfl
        have HBD := hide (show (.bool true : Value) = .bool (badK kind s.hd.kind) from by rw [← HSK.out]; simp [badK, e5, a6])
        go_wp2_with fail
        go_meet
        case rel => exact ⟨HBD.out, rfl⟩
       ·have y6 : (sk == 6) = false := beq_eq_false_iff_ne.2 a6
        have HBD := hide (show (.bool false : Value) = .bool (badK kind s.hd.kind) from by rw [← HSK.out]; simp [badK, e5, a1, a5, a6])
        go_wp2_with fail
        go_meet
        case rel => exact ⟨HBD.out, rfl⟩
      have z5 : (kind == 5) = false := beq_eq_false_iff_ne.2 e5
      by_cases e6 : kind = 6
      ·have z6 : (kind == 6) = true := by rw [e6]; rfl
       by_cases a6 : sk = 6
       ·have y6 : (sk == 6) = true := by rw [a6]; rfl
        have HBD := hide (show (.bool true : Value) = .bool (badK kind s.hd.kind) from by rw [← HSK.out]; simp [badK, e6, a6])
        go_wp2_with fail
        go_meet
        case rel => exact ⟨HBD.out, rfl⟩
       ·have y6 : (sk == 6) = false := beq_eq_false_iff_ne.2 a6
        have HBD := hide (show (.bool false : Value) = .bool (badK kind s.hd.kind) from by rw [← HSK.out]; simp [badK, e6, a6])
        go_wp2_with fail
        go_meet
        case rel => exact ⟨HBD.out, rfl⟩
      ·have z6 : (kind == 6) = false := beq_eq_false_iff_ne.2 e6
       have HBD := hide (show (.bool false : Value) = .bool (badK kind s.hd.kind) from by rw [← HSK.out]; simp [badK, e5, e6])
       go_wp2_with fail
       go_meet
       case rel => exact ⟨HBD.out, rfl⟩
     case rest =>
     obtain ⟨hv8, hwc⟩ := hcut
     obtain rfl := hwc.symm
     subst hv8
     cases hbad : badK kind s.hd.kind with
     | true =>
      have HN := hide (show res = none from by rw [HR3.out, tidyN_cons, HFit.out, hbad]; rfl)
      clear hbad
      go_wp2_with fail
      go_ret
      exact ⟨by rw [HN.out]; rfl, ⟨_, HQ2.out.1, fun x hx => by rw [HN.out] at hx; cases hx⟩, HQ2.out.2.1⟩
     | false =>
      have HN := hide (show res = match s.tidyN gk with
       | none => none
       | some g' => TL.tidyN kind (l.drop (k + 1)) g' from by rw [HR3.out, tidyN_cons, HFit.out, hbad]; rfl)
      have HX1 := hide (HX.out w2 (HSU.out.same (ok' := fun b => b < w2.heap.size ∧ b ≠ gq) (grownBy_same HQ2.out.2.1) (fun x hx => ⟨Nat.lt_of_lt_of_le hx.1 HQ2.out.2.1.size, hx.2⟩)) HQ2.out.1 (by have := HG3.out; omega))
      simp only [Hd.cells] at HX1
      clear hbad
      go_wp2_with fail
      refine HX1.out.mono ?_
      rintro e w3 ⟨rfl, ⟨g9, q1, q2⟩, q3⟩
      have HE := hide (And.intro q1 (And.intro (grownBy_tr HQ2.out.2.1 q3) ((q3.block w.heap.size HQ2.out.2.2.1.lt (fun e => HGt.out (Option.some.inj e).symm)).trans HQ2.out.2.2.1)))
      cases htd : s.tidyN gk with
      | none =>
       have HN2 := hide (show res = none from by rw [HN.out, htd])
       clear q1 q2 q3 HX1 htd c0 c7
       go_wp2_with fail
       go_ret
       exact ⟨by rw [HN2.out]; rfl, ⟨_, HE.out.1, fun x hx => by rw [HN2.out] at hx; cases hx⟩, HE.out.2.1⟩
      | some x =>
       have hx := q2 x htd
       have hbd := T.tidyN_bd HFs.out htd
       have HN2 := hide (show res = TL.tidyN kind (l.drop (k + 1)) g9 from by rw [HN.out, htd, hx])
       have HB9 := hide (show 0 ≤ g9 ∧ g9 + TL.nodes (l.drop (k + 1)) ≤ 2000000 from by have := HG3.out; omega)
       clear q1 q2 q3 HX1 htd hx hbd c0 c7
       go_wp2_with fail
       go_roundw
       case rel => exact ⟨k + 1, g9, by go_num, hlt, HE.out.1, HE.out.2.1, HE.out.2.2, HN2.out, HB9.out.1, HB9.out.2⟩
       case measure => simp [intOf]; omega
    ·have g1 : decide ((k : Int) < (l.length : Int)) = false := decide_eq_false (by omega)
     have hfin := HRr.out
     rw [List.drop_eq_nil_of_le (by omega)] at hfin
     have HF := hide (show res = some gk from hfin)
     clear hfin
     go_wp2_with fail
     go_ret
     exact ⟨by rw [HF.out]; rfl, ⟨gk, hR.out.1, fun x hx => by rw [HF.out] at hx; exact Option.some.inj hx⟩, hR.out.2.1⟩
end Go.Proofs.YtpkcklpjbeginaaGreatDoor

/-! ## Ere8 -/
namespace Go.Proofs.YtpkcklpjbeginaaGreatDoor
open Go.RowKit

/-- What the chapter's code reads of the program's variables. -/
structure E8 (w : World) (a : Nat → Addr) : Prop where
 errs : Errs w a
 tab : Tab w
 tab8 : Tab8 w
theorem E8.below {w w' : World} {a : Nat → Addr} (h : E8 w a) (hb : Below w.heap.size w w') : E8 w' a := ⟨h.errs.below hb, h.tab.below hb, Lib.tabBelow_of_tabIs h.tab8 w' hb⟩
theorem E8.sent {w : World} {a : Nat → Addr} (h : E8 w a) : Sent [0, 13, 12] w a := h.errs.sent _ (by decide)
theorem T.check_form {t : T} (h : t.check = none) : t.form = true := by
 unfold T.check at h
 split at h
 ·assumption
 ·cases h
/-- Why a tree has no text: the variable of the error. -/
def T.ereE (t : T) : Option Nat := match t.check with
 | some g => some g
 | none => if t.tidyN 0 = none then some 0 else if 32 < t.nest then some 1 else if 1024 < t.txt.size then some 2 else none
def T.ereS (t : T) : ByteArray := if t.ereE = none then t.txt else ⟨#[]⟩
theorem errOf_none {a : Nat → Addr} : errOf a none = .nilIface := rfl
set_option maxRecDepth 100000 in
set_option maxHeartbeats 4000000 in
theorem Tidy8_any (t : T) (A : Option Addr) (c : Nat) (w : World) (a : Nat → Addr) (hN : t.nodes ≤ 1000000) (hin : T.In w (· < w.heap.size) t A) (hE : E8 w a) :
  Calls Tryz.prog 13 #[.agg (t.hd.cells (.slice A t.subs.length c)).toArray] w fun e w' => e = .returned (.bool (t.check.isNone && (t.tidyN 0).isSome)) ∧ Below w.heap.size w w' := by
 have hal := (Below.refl w.heap.size w).alloc (Nat.le_refl _) (.cells #[.int .i64 t.hd.kind, .int .u64 t.hd.s0, .int .u64 t.hd.s1, .int .u64 t.hd.s2, .int .u64 t.hd.s3, .slice A t.subs.length c, .int .i64 t.hd.num, .int .i64 t.hd.min, .int .i64 t.hd.max, .bool t.hd.bare] 27)
 have H0 := hide (And.intro hal (Blk.new w 27 #[.int .i64 t.hd.kind, .int .u64 t.hd.s0, .int .u64 t.hd.s1, .int .u64 t.hd.s2, .int .u64 t.hd.s3, .slice A t.subs.length c, .int .i64 t.hd.num, .int .i64 t.hd.min, .int .i64 t.hd.max, .bool t.hd.bare]))
 have HG0 := hide (show w.heap.size + 1 = (w.alloc (.cells #[.int .i64 t.hd.kind, .int .u64 t.hd.s0, .int .u64 t.hd.s1, .int .u64 t.hd.s2, .int .u64 t.hd.s3, .slice A t.subs.length c, .int .i64 t.hd.num, .int .i64 t.hd.min, .int .i64 t.hd.max, .bool t.hd.bare] 27)).heap.size from (World.size_alloc _ _).symm)
 have HEn := hide (fun (y : World) (hy : Below w.heap.size w y) => hE.below hy)
 have HCh := hide (fun (y : World) (hy : Below w.heap.size w y) => check_any t A c y a hN (hin.same (same_of_below hy) (fun z hz => Nat.lt_of_lt_of_le hz hy.size)) (hE.below hy).sent)
 have HTd := hide (fun (hf : t.form = true) (gq : Nat) (y : World) (hy : Below w.heap.size w y) (hg : w.heap.size ≤ gq) (hq : Blk y gq 3 #[.int .i64 0]) => tidy8_any t.nodes t A c gq 0 y (Nat.le_refl _) hN hf (hin.same (same_of_below hy) (fun z hz => ⟨Nat.lt_of_lt_of_le hz hy.size, by omega⟩)) hq (by omega))
 simp only [Hd.cells] at HCh HTd ⊢
 clear hal hin hE
 go_enter Tryz.func13, Tryz.ntmps13
 go_upto_region 1 with fail
 generalize (w.alloc (.cells #[.int .i64 t.hd.kind, .int .u64 t.hd.s0, .int .u64 t.hd.s1, .int .u64 t.hd.s2, .int .u64 t.hd.s3, .slice A t.subs.length c, .int .i64 t.hd.num, .int .i64 t.hd.min, .int .i64 t.hd.max, .bool t.hd.bare] 27)) = W at *
 have hal := (Below.refl W.heap.size W).alloc (Nat.le_refl _) (.cells #[.int .i64 0] 3)
 have hqn := Blk.new W 3 #[.int .i64 0]
 have H2 := hide (And.intro (H0.out.1.trans (hal.mono H0.out.1.size)) (And.intro (H0.out.2.below hal H0.out.2.lt) hqn))
 have HQ := hide (show w.heap.size ≤ W.heap.size from H0.out.1.size)
 clear hal hqn
 go_upto_region 2 with fail
 generalize (W.alloc (.cells #[.int .i64 0] 3)) = W2 at *
 generalize W.heap.size = gq at *
 have c0 := H2.out.2.1.cell
 go_wp2_with fail
 refine (HCh.out W2 H2.out.1).mono ?_
 rintro e w3 ⟨rfl, hb3⟩
 have H3 := hide (And.intro (H2.out.1.trans (hb3.mono H2.out.1.size)) (And.intro (H2.out.2.1.below hb3 H2.out.2.1.lt) (H2.out.2.2.below hb3 H2.out.2.2.lt)))
 clear hb3 c0 HCh
 cases hc : t.check with
 | some g =>
  have hn0 := fun w => run_eql_iface_nil (P := Tryz.prog) (w := w) 32 (by kernel_rfl) 211 (.pointer (some (a g)))
  simp only [errOf, errV]
  have HC := hide hc
  clear hc
  go_wp2_with fail
  go_ret
  exact ⟨by rw [HC.out]; rfl, H3.out.1⟩
 | none =>
  have HX := hide (HTd.out (T.check_form hc) gq w3 H3.out.1 HQ.out H3.out.2.2)
  obtain ⟨rs, hrs⟩ : ∃ rs, rs = t.tidyN 0 := ⟨_, rfl⟩
  rw [← hrs] at HX
  have HRS := hide hrs
  have HC := hide hc
  simp only [errOf]
  have hn0 := fun w => run_eql_nil_nil_at (P := Tryz.prog) (w := w) 32 (by kernel_rfl)
  have c0 := H3.out.2.1.cell
  clear hrs hc
  go_wp2_with fail
  refine HX.out.mono ?_
  rintro e w4 ⟨rfl, _, hg4⟩
  have H4 := hide (H3.out.1.grown hg4 H3.out.1.size (fun k hk => by rw [← Option.some.inj hk]; exact HQ.out))
  clear hg4
  go_wp2_with fail
  go_ret
  exact ⟨by rw [HC.out, ← HRS.out]; cases rs <;> rfl, H4.out⟩
set_option maxRecDepth 100000 in
set_option maxHeartbeats 8000000 in
theorem Ere8_any (t : T) (A : Option Addr) (c : Nat) (w : World) (a : Nat → Addr) (hN : t.nodes ≤ 1000000) (hw : t.w64) (hin : T.In w (· < w.heap.size) t A) (hE : E8 w a) :
  Calls Tryz.prog 10 #[.agg (t.hd.cells (.slice A t.subs.length c)).toArray] w fun e w' => e = .returned (.tuple #[.string t.ereS, errOf a t.ereE]) ∧ Below w.heap.size w w' := by
 have hal := (Below.refl w.heap.size w).alloc (Nat.le_refl _) (.cells #[.int .i64 t.hd.kind, .int .u64 t.hd.s0, .int .u64 t.hd.s1, .int .u64 t.hd.s2, .int .u64 t.hd.s3, .slice A t.subs.length c, .int .i64 t.hd.num, .int .i64 t.hd.min, .int .i64 t.hd.max, .bool t.hd.bare] 27)
 have H0 := hide (And.intro hal (Blk.new w 27 #[.int .i64 t.hd.kind, .int .u64 t.hd.s0, .int .u64 t.hd.s1, .int .u64 t.hd.s2, .int .u64 t.hd.s3, .slice A t.subs.length c, .int .i64 t.hd.num, .int .i64 t.hd.min, .int .i64 t.hd.max, .bool t.hd.bare]))
 have HG0 := hide (show w.heap.size + 1 = (w.alloc (.cells #[.int .i64 t.hd.kind, .int .u64 t.hd.s0, .int .u64 t.hd.s1, .int .u64 t.hd.s2, .int .u64 t.hd.s3, .slice A t.subs.length c, .int .i64 t.hd.num, .int .i64 t.hd.min, .int .i64 t.hd.max, .bool t.hd.bare] 27)).heap.size from (World.size_alloc _ _).symm)
 have HEn := hide (fun (y : World) (hy : Below w.heap.size w y) => hE.below hy)
 have HCh := hide (fun (y : World) (hy : Below w.heap.size w y) => check_any t A c y a hN (hin.same (same_of_below hy) (fun z hz => Nat.lt_of_lt_of_le hz hy.size)) (hE.below hy).sent)
 have HTd := hide (fun (hf : t.form = true) (gq : Nat) (y : World) (hy : Below w.heap.size w y) (hg : w.heap.size ≤ gq) (hq : Blk y gq 3 #[.int .i64 0]) => tidy8_any t.nodes t A c gq 0 y (Nat.le_refl _) hN hf (hin.same (same_of_below hy) (fun z hz => ⟨Nat.lt_of_lt_of_le hz hy.size, by omega⟩)) hq (by omega))
 have HNs := hide (fun (y : World) (hy : Below w.heap.size w y) => nest8_any t.nodes t A c y (Nat.le_refl _) hN (hin.same (same_of_below hy) (fun z hz => Nat.lt_of_lt_of_le hz hy.size)))
 have HWr := hide (fun (hf : t.form = true) (b : Nat) (y : World) (hy : Below w.heap.size w y) (hb : w.heap.size ≤ b) (hbl : BldIs b b [] y) => write8_any t.nodes t A c b b [] y (Nat.le_refl _) hN hf hw (hin.same (same_of_below hy) (fun z hz => Nat.lt_of_lt_of_le hz hb)) hbl (Nat.le_of_lt hbl.lt.2) (fun z hz => ⟨(hE.below (hy.trans (hz.mono hb))).tab, (hE.below (hy.trans (hz.mono hb))).tab8⟩) (by simp only [List.length_nil]; omega))
 have HTL := hide (fun (hf : t.form = true) => T.txt_len t hf)
 obtain ⟨ee, hee⟩ : ∃ ee, ee = t.ereE := ⟨_, rfl⟩
 obtain ⟨es, hes⟩ : ∃ es, es = t.ereS := ⟨_, rfl⟩
 rw [← hee, ← hes]
 unfold T.ereS at hes
 rw [← hee] at hes
 unfold T.ereE at hee
 simp only [Hd.cells] at HCh HTd HNs HWr ⊢
 clear hal hin hE
 go_enter Tryz.func10, Tryz.ntmps10
 go_upto_region 1 with fail
 generalize (w.alloc (.cells #[.int .i64 t.hd.kind, .int .u64 t.hd.s0, .int .u64 t.hd.s1, .int .u64 t.hd.s2, .int .u64 t.hd.s3, .slice A t.subs.length c, .int .i64 t.hd.num, .int .i64 t.hd.min, .int .i64 t.hd.max, .bool t.hd.bare] 27)) = W at *
 have c0 := H0.out.2.cell
 go_wp2_with fail
 refine (HCh.out W H0.out.1).mono ?_
 rintro e w1 ⟨rfl, hb1⟩
 have H1 := hide (And.intro (H0.out.1.trans (hb1.mono H0.out.1.size)) (H0.out.2.below hb1 H0.out.2.lt))
 clear hb1 c0 HCh
 cases hc : t.check with
 | some g =>
  rw [hc] at hee
  simp only at hee
  subst hee
  rw [if_neg (by intro e; cases e)] at hes
  subst hes
  have hn0 := fun w => run_neq_iface_nil (P := Tryz.prog) (w := w) 32 (by kernel_rfl) 211 (.pointer (some (a g)))
  simp only [errOf, errV]
  go_wp2_with fail
  refine bodyPost_ret (v := .tuple #[.string ⟨#[]⟩, errV (a g)]) (by simp [results, Tryz.results10, go_sem, errOf, errV]) rfl ?_
  exact ⟨rfl, H1.out.1⟩
 | none =>
  rw [hc] at hee
  simp only at hee
  have HF := hide (T.check_form hc)
  have hal := (Below.refl w1.heap.size w1).alloc (Nat.le_refl _) (.cells #[.int .i64 0] 3)
  have hqn := Blk.new w1 3 #[.int .i64 0]
  have H2 := hide (And.intro (H1.out.1.trans (hal.mono H1.out.1.size)) (And.intro (H1.out.2.below hal H1.out.2.lt) hqn))
  have HQ := hide (show w.heap.size + 1 ≤ w1.heap.size from by have := H1.out.2.lt; omega)
  have hn0 := fun w => run_neq_nil_nil_at (P := Tryz.prog) (w := w) 32 (by kernel_rfl)
  have HEE := hide hee
  have HES := hide hes
  simp only [errOf_none]
  clear hal hqn hee hes hc
  go_upto_region 5 with fail
  generalize (w1.alloc (.cells #[.int .i64 0] 3)) = w2 at *
  generalize w1.heap.size = gq at *
  have c0 := H2.out.2.1.cell
  have HX := hide (HTd.out HF.out gq w2 H2.out.1 (by have := HQ.out; omega) H2.out.2.2)
  clear hn0
  go_wp2_with fail
  refine HX.out.mono ?_
  rintro e w3 ⟨rfl, _, hg3⟩
  have H3 := hide (And.intro (H2.out.1.grown hg3 H2.out.1.size (fun k hk => by rw [← Option.some.inj hk]; have := HQ.out; omega)) (H2.out.2.1.grown hg3 (fun e => by have := Option.some.inj e; have := HQ.out; omega)))
  clear hg3 c0 HX
  cases htd : t.tidyN 0 with
  | none =>
   have hee := HEE.out
   rw [if_pos htd] at hee
   have hes := HES.out
   subst hee
   rw [if_neg (by intro e; cases e)] at hes
   subst hes
   have cg := (HEn.out w3 H3.out.1).errs.var 0 (by decide)
   clear htd
   simp only [Option.isSome_none]
   go_upto_region 6 with fail
   go_quiet (fail)
   go_wp2_with fail
   refine bodyPost_ret (v := .tuple #[.string ⟨#[]⟩, errV (a 0)]) (by simp [results, Tryz.results10, go_sem, errOf, errV]) rfl ?_
   exact ⟨rfl, below_drewN H3.out.1 _⟩
  | some gx =>
   have hee := HEE.out
   rw [if_neg (by rw [htd]; intro e; cases e)] at hee
   have HE2 := hide hee
   have HNx := hide (HNs.out w3 H3.out.1)
   have c0 := H3.out.2.cell
   obtain ⟨ns, hns⟩ : ∃ ns, ns = t.nest := ⟨_, rfl⟩
   rw [← hns] at HNx HE2
   clear hee htd hns HEE
   simp only [Option.isSome_some]
   go_wp2_with fail
   refine HNx.out.mono ?_
   rintro e w4 ⟨rfl, hb4⟩
   have H4 := hide (And.intro (H3.out.1.trans (hb4.mono H3.out.1.size)) (H3.out.2.below hb4 H3.out.2.lt))
   clear hb4 c0 HNx
   by_cases h32 : 32 < ns
   ·have hee := HE2.out
    rw [if_pos h32] at hee
    have hes := HES.out
    subst hee
    rw [if_neg (by intro e; cases e)] at hes
    subst hes
    have g1 : decide ((32 : Int) < ns) = true := decide_eq_true h32
    have cg := (HEn.out w4 H4.out.1).errs.var 1 (by decide)
    go_upto_region 8 with fail
    go_quiet (fail)
    go_wp2_with fail
    refine bodyPost_ret (v := .tuple #[.string ⟨#[]⟩, errV (a 1)]) (by simp [results, Tryz.results10, go_sem, errOf, errV]) rfl ?_
    exact ⟨rfl, below_drewN H4.out.1 _⟩
   ·have hee := HE2.out
    rw [if_neg h32] at hee
    have HE3 := hide hee
    have g1 : decide ((32 : Int) < ns) = false := decide_eq_false h32
    have hal := (Below.refl w4.heap.size w4).alloc (Nat.le_refl _) (.cells #[.pointer none, .slice none 0 0] 61)
    have hbn := Blk.new w4 61 #[.pointer none, .slice none 0 0]
    have HBl := hide (show BldIs w4.heap.size w4.heap.size [] (w4.alloc (.cells #[.pointer none, .slice none 0 0] 61)) from .inl ⟨Nat.le_refl _, .slice none 0 0, hbn, World.ownsRowF_nil _ _ _ _, by simp [Value.ownBlock]⟩)
    have H5 := hide (And.intro (H4.out.1.trans (hal.mono H4.out.1.size)) (H4.out.2.below hal H4.out.2.lt))
    have HB5 := hide (show w.heap.size + 1 ≤ w4.heap.size from by have := H4.out.2.lt; omega)
    clear hal hbn hee HE2
    go_upto_region 10 with fail
    generalize (w4.alloc (.cells #[.pointer none, .slice none 0 0] 61)) = w5 at *
    generalize w4.heap.size = b at *
    have c0 := H5.out.2.cell
    have HX := hide (HWr.out HF.out b w5 H5.out.1 (by have := HB5.out; omega) HBl.out)
    clear g1
    go_wp2_with fail
    refine HX.out.mono ?_
    rintro e w6 ⟨rfl, k1, k2, k3⟩
    have H6 := hide (And.intro k1 (H5.out.1.trans (k2.mono (by have := HB5.out; omega))))
    clear k1 k2 k3 c0 HX
    have hlen : (Lib.byteCells ([] ++ t.txt.data.toList)).length = t.txt.size := by rw [Lib.byteCells_length, List.nil_append, data_len]
    have HLn := hide (show Calls Tryz.prog 33 #[.pointer (some ⟨b, 0, none⟩)] w6 fun e w' => e = .returned (.int .i64 ((t.txt.size : Nat) : Int)) ∧ w' = w6 from by
     have h1 := Any.Builder_Len_f lenLays8 b b (Lib.byteCells ([] ++ t.txt.data.toList)) w6 H6.out.1
     rw [hlen] at h1
     exact h1)
    have HSr := hide (show Calls Tryz.prog 34 #[.pointer (some ⟨b, 0, none⟩)] w6 fun e w' => e = .returned (.string t.txt) ∧ Below b w6 w' from by
     refine (Any.Builder_String_any_k strLays8 bldExtra8 b b ([] ++ t.txt.data.toList) w6 H6.out.1 (Nat.le_of_lt H6.out.1.lt.2)).mono ?_
     rintro e w' ⟨rfl, _, h2, _⟩
     exact ⟨by rw [List.nil_append, text_eta], h2⟩)
    obtain ⟨tx, htx⟩ : ∃ tx, tx = t.txt := ⟨_, rfl⟩
    rw [← htx] at HLn HSr HE3 HES
    clear hlen htx
    go_wp2_with fail
    refine HLn.out.mono ?_
    rintro e w7 ⟨rfl, rfl⟩
    by_cases hbig : 1024 < tx.size
    ·have hee := HE3.out
     rw [if_pos hbig] at hee
     have hes := HES.out
     subst hee
     rw [if_neg (by intro e; cases e)] at hes
     subst hes
     have g1 : decide ((1024 : Int) < (tx.size : Int)) = true := decide_eq_true (by omega)
     have cg := (HEn.out w7 H6.out.2).errs.var 2 (by decide)
     go_upto_region 12 with fail
     go_quiet (fail)
     go_wp2_with fail
     refine bodyPost_ret (v := .tuple #[.string ⟨#[]⟩, errV (a 2)]) (by simp [results, Tryz.results10, go_sem, errOf, errV]) rfl ?_
     exact ⟨rfl, below_drewN H6.out.2 _⟩
    ·have hee := HE3.out
     rw [if_neg hbig] at hee
     have hes := HES.out
     subst hee
     rw [if_pos rfl] at hes
     subst hes
     have g1 : decide ((1024 : Int) < (es.size : Int)) = false := decide_eq_false (by omega)
     go_wp2_with fail
     refine HSr.out.mono ?_
     rintro e w8 ⟨rfl, hb8⟩
     have H8 := hide (H6.out.2.trans (hb8.mono (by have := HB5.out; omega)))
     clear hb8
     go_wp2_with fail
     refine bodyPost_ret (v := .tuple #[.string es, .nilIface]) (by simp [results, Tryz.results10, go_sem, errOf, errV]) rfl ?_
     exact ⟨rfl, H8.out⟩
end Go.Proofs.YtpkcklpjbeginaaGreatDoor

/-! ## Lives8 -/
namespace Go.Proofs.YtpkcklpjbeginaaGreatDoor
open Go.RowKit

def tA8 : T := T.byte 97
def tG8 : T := .mk ⟨7, 0, 0, 0, 0, 1, 0, 0, false⟩ [tA8]
def tL8 : T := .mk ⟨8, 0, 0, 0, 0, 0, 2, -1, false⟩ [tG8]
set_option maxRecDepth 100000 in
theorem tL8_txt : tL8.txt = ⟨#[40, 97, 41, 123, 50, 44, 125]⟩ := by
 have h1 : tA8.txt.data.toList = [97] := by kernel_rfl
 have h2 : (decP 2).data.toList = [50] := by rw [decP_toList, dec3 2 (by decide)]; rfl
 have h3 : tL8.txt.data.toList = [40, 97, 41, 123, 50, 44, 125] := by
  show (repT 2 (-1) (grpT 1 tA8)).txt.data.toList = _
  rw [rep_txt, grp_txt, h1]
  show _ ++ (byS 123 ++ decP 2 ++ (⟨#[44, 125]⟩ : ByteArray)).data.toList = _
  rw [app_toList, app_toList, h2]
  rfl
 rw [← text_eta tL8.txt, h3]
theorem tL8_ok : tL8.check = none ∧ tL8.tidyN 0 = some 1 ∧ tL8.nest = 1 := ⟨by kernel_rfl, by kernel_rfl, by kernel_rfl⟩
theorem tL8_e : tL8.ereE = none ∧ tL8.ereS = ⟨#[40, 97, 41, 123, 50, 44, 125]⟩ := by
 have h : tL8.ereE = none := by
  unfold T.ereE
  rw [tL8_ok.1]
  simp only
  rw [if_neg (by rw [tL8_ok.2.1]; intro e; cases e), if_neg (by rw [tL8_ok.2.2]; decide), if_neg (by rw [tL8_txt]; decide)]
 exact ⟨h, by unfold T.ereS; rw [if_pos h, tL8_txt]⟩
theorem isU0 : IsU64 0 := ⟨by decide, by decide⟩
theorem tA8_w : tA8.w64 := ⟨⟨⟨by decide +kernel, by decide +kernel⟩, ⟨by decide +kernel, by decide +kernel⟩, ⟨by decide +kernel, by decide +kernel⟩, ⟨by decide +kernel, by decide +kernel⟩⟩, trivial⟩
theorem tL8_w : tL8.w64 := ⟨⟨isU0, isU0, isU0, isU0⟩, ⟨⟨⟨isU0, isU0, isU0, isU0⟩, ⟨tA8_w, trivial⟩⟩, trivial⟩⟩
theorem quote8_l : quoteS markB ⟨#[97, 46, 98, 42]⟩ = ⟨#[97, 92, 46, 98, 92, 42]⟩ := by kernel_rfl
theorem fl8_zero : bits .and .i64 0 1 = 0 := by decide
set_option maxRecDepth 100000 in
set_option maxHeartbeats 4000000 in
theorem lives8_true (a : Nat → Addr) (w : World) (hE : E8 w a) : Calls Tryz.prog 7 #[] w fun e w' => e = .returned (.bool true) ∧ Below w.heap.size w w' := by
 have HEn := hide (fun (y : World) (hy : Below w.heap.size w y) => hE.below hy)
 have HTx := hide (show Calls Tryz.prog 25 #[.string ⟨#[97]⟩] w (Fresh tA8 w) from text_any ⟨#[97]⟩ w (by decide))
 clear hE
 go_enter Tryz.func7, Tryz.ntmps7
 go_wp2_with fail
 refine HTx.out.mono ?_
 rintro e w1 ⟨B1, c1, bs1, rfl, hown, hnd, hbs, hb1⟩
 have HG := hide (group_any tA8 B1 c1 1 w1 (by decide) (hown.in_ fun b hb => (hbs b hb).2))
 have H1 := hide hb1
 clear hown hnd hbs hb1 HTx
 go_wp2_with fail
 refine HG.out.mono ?_
 rintro e w2 ⟨B2, c2, bs2, rfl, hown, hnd, hbs, hb2⟩
 have HR := hide (rep_any tG8 B2 c2 2 (-1) w2 (by decide) (hown.in_ fun b hb => (hbs b hb).2))
 have H2 := hide (H1.out.trans (hb2.mono H1.out.size))
 clear hown hnd hbs hb2 HG
 go_wp2_with fail
 refine HR.out.mono ?_
 rintro e w3 ⟨B3, c3, bs3, rfl, hown, hnd, hbs, hb3⟩
 rw [show (.agg ((T.mk ⟨8, 0, 0, 0, 0, 0, 2, -1, false⟩ [tG8]).hd.cells (.slice B3 (T.mk ⟨8, 0, 0, 0, 0, 0, 2, -1, false⟩ [tG8]).subs.length c3)).toArray : Value) = .agg #[.int .i64 8, .int .u64 0, .int .u64 0, .int .u64 0, .int .u64 0, .slice B3 1 c3, .int .i64 0, .int .i64 2, .int .i64 (-1), .bool false] from rfl]
 have hal := (Below.refl w3.heap.size w3).alloc (Nat.le_refl _) (.cells #[.int .i64 8, .int .u64 0, .int .u64 0, .int .u64 0, .int .u64 0, .slice B3 1 c3, .int .i64 0, .int .i64 2, .int .i64 (-1), .bool false] 27)
 have hbb := hb3.trans (hal.mono hb3.size)
 have H4 := hide (And.intro (H2.out.trans (hbb.mono H2.out.size)) (Blk.new w3 27 #[.int .i64 8, .int .u64 0, .int .u64 0, .int .u64 0, .int .u64 0, .slice B3 1 c3, .int .i64 0, .int .i64 2, .int .i64 (-1), .bool false]))
 have HI := hide (show T.In (w3.alloc (.cells #[.int .i64 8, .int .u64 0, .int .u64 0, .int .u64 0, .int .u64 0, .slice B3 1 c3, .int .i64 0, .int .i64 2, .int .i64 (-1), .bool false] 27)) (· < (w3.alloc (.cells #[.int .i64 8, .int .u64 0, .int .u64 0, .int .u64 0, .int .u64 0, .slice B3 1 c3, .int .i64 0, .int .i64 2, .int .i64 (-1), .bool false] 27)).heap.size) tL8 B3 from
  (hown.same (fun b hb => hal.block b (hbs b hb).2)).in_ fun b hb => Nat.lt_of_lt_of_le (hbs b hb).2 hal.size)
 clear hown hnd hbs hb3 hal hbb HR
 go_upto_region 2 with fail
 generalize (w3.alloc (.cells #[.int .i64 8, .int .u64 0, .int .u64 0, .int .u64 0, .int .u64 0, .slice B3 1 c3, .int .i64 0, .int .i64 2, .int .i64 (-1), .bool false] 27)) = w4 at *
 generalize w3.heap.size = g1 at *
 have HEr := hide (show Calls Tryz.prog 10 #[.agg #[.int .i64 8, .int .u64 0, .int .u64 0, .int .u64 0, .int .u64 0, .slice B3 1 c3, .int .i64 0, .int .i64 2, .int .i64 (-1), .bool false]] w4 fun e w' => e = .returned (.tuple #[.string ⟨#[40, 97, 41, 123, 50, 44, 125]⟩, .nilIface]) ∧ Below w4.heap.size w4 w' from by
  have h := Ere8_any tL8 B3 c3 w4 a (by decide) tL8_w HI.out (HEn.out w4 H4.out.1)
  rw [tL8_e.1, tL8_e.2] at h
  exact h)
 obtain ⟨tx, htx⟩ : ∃ tx : ByteArray, tx = ⟨#[40, 97, 41, 123, 50, 44, 125]⟩ := ⟨_, rfl⟩
 have q1 : (tx.toList == (⟨#[40, 97, 41, 123, 50, 44, 125]⟩ : ByteArray).toList) = true := by rw [htx]; decide +kernel
 have q2 : tx.toList = [40, 97, 41, 123, 50, 44, 125] := by rw [htx]; decide +kernel
 rw [← htx] at HEr
 have cg := H4.out.2.cell
 clear htx
 go_wp2_with fail
 refine HEr.out.mono ?_
 rintro e w5 ⟨rfl, hb5⟩
 have H5 := hide (And.intro (H4.out.1.trans (hb5.mono H4.out.1.size)) (And.intro (H4.out.2.below hb5 H4.out.2.lt) (HI.out.next hb5)))
 clear hb5 cg HEr
 have HTd := hide (show Calls Tryz.prog 13 #[.agg #[.int .i64 8, .int .u64 0, .int .u64 0, .int .u64 0, .int .u64 0, .slice B3 1 c3, .int .i64 0, .int .i64 2, .int .i64 (-1), .bool false]] w5 fun e w' => e = .returned (.bool true) ∧ Below w5.heap.size w5 w' from by
  have h := Tidy8_any tL8 B3 c3 w5 a (by decide) H5.out.2.2 (HEn.out w5 H5.out.1)
  rw [tL8_ok.1, tL8_ok.2.1] at h
  exact h)
 have HQ := hide (fun (y : World) => show Calls Tryz.prog 23 #[.string ⟨#[97, 46, 98, 42]⟩, .int .i64 0] y fun e w' => e = .returned (.string ⟨#[97, 92, 46, 98, 92, 42]⟩) ∧ Below y.heap.size y w' from by
  have h := quote8_any ⟨#[97, 46, 98, 42]⟩ 0 y (by decide)
  rw [if_pos fl8_zero, quote8_l] at h
  exact h)
 obtain ⟨qx, hqx⟩ : ∃ qx : ByteArray, qx = ⟨#[97, 92, 46, 98, 92, 42]⟩ := ⟨_, rfl⟩
 have q3 : (qx.toList == (⟨#[97, 92, 46, 98, 92, 42]⟩ : ByteArray).toList) = true := by rw [hqx]; decide +kernel
 have q4 : qx.toList = [97, 92, 46, 98, 92, 42] := by rw [hqx]; decide +kernel
 rw [← hqx] at HQ
 have hn0 := fun w => run_eql_nil_nil_at (P := Tryz.prog) (w := w) 32 (by kernel_rfl)
 have cg := H5.out.2.1.cell
 clear hqx
 go_wp2_with fail
 refine HTd.out.mono ?_
 rintro e w6 ⟨rfl, hb6⟩
 have H6 := hide (H5.out.1.trans (hb6.mono H5.out.1.size))
 clear hb6 cg HTd
 go_wp2_with fail
 refine (HQ.out w6).mono ?_
 rintro e w7 ⟨rfl, hb7⟩
 have H7 := hide (H6.out.trans (hb7.mono H6.out.size))
 clear hb7 HQ
 go_wp2_with fail
 go_ret
 exact ⟨rfl, H7.out⟩
end Go.Proofs.YtpkcklpjbeginaaGreatDoor
