/- Make2: tree.Alt, Group, Rep: trees made of trees, in memory of their own.
Pairs2: Two trees side by side in a list; a fresh tree under another name. -/
import Derived.Test.YtpkcklpjbeginaaGreatDoorSeq
set_option linter.unusedSimpArgs false
set_option linter.unusedVariables false
set_option linter.unnecessarySimpa false

/-! ## Make2 -/
namespace Go.Proofs.YtpkcklpjbeginaaGreatDoor
open Go.RowKit

theorem fresh_wrap {w w1 Ws : World} {t : T} {h : Hd} {B : Option Addr} {c' : Nat} {bs : List Nat} (hown : T.Own w1 t B bs) (hnd : bs.Nodup) (hfr : ∀ b ∈ bs, w.heap.size + 1 + 1 ≤ b ∧ b < w1.heap.size) (hs : Same (fun b => w.heap.size + 1 + 1 ≤ b) w1 Ws)
  (hz : Ws.heap.size = w1.heap.size) (hb : Below w.heap.size w Ws) : Fresh (.mk h [t]) w (.returned (.agg (h.cells (.slice (some ⟨w1.heap.size, 0, none⟩) 1 1)).toArray)) (Ws.alloc (.cells (t.hd.cells (.slice B t.subs.length c')).toArray 27)) := by
 have hbz := hb.size
 have hblk := Blk.new Ws 27 (t.hd.cells (.slice B t.subs.length c')).toArray
 rw [hz] at hblk
 have S1 : Same (· ∈ bs) w1 (Ws.alloc (.cells (t.hd.cells (.slice B t.subs.length c')).toArray 27)) :=
  (hs.mono fun b hm => (hfr b hm).1).alloc (fun b hm => by rw [hz]; exact (hfr b hm).2) _
 refine ⟨some ⟨w1.heap.size, 0, none⟩, 1, w1.heap.size :: bs, rfl, .inr ⟨w1.heap.size, _, bs, rfl, rfl, hblk, B, c', bs, [], [], by simp, by simp, hown.same S1, rfl⟩, List.nodup_cons.2 ⟨fun hm => by have := (hfr _ hm).2; omega, hnd⟩, fun b hm => ?_, hb.alloc (by omega) _⟩
 rw [World.size_alloc, hz]
 rcases List.mem_cons.1 hm with e | hm
 ·subst e; omega
 ·have := hfr b hm; omega

set_option maxRecDepth 100000 in
set_option maxHeartbeats 1000000 in
theorem rep_any (t : T) (A : Option Addr) (c : Nat) (mn mx : Int) (w : World) (hN : t.nodes ≤ 1000000) (hin : T.In w (· < w.heap.size) t A) :
  Calls Tryz.prog 26 #[.agg (t.hd.cells (.slice A t.subs.length c)).toArray, .int .i64 mn, .int .i64 mx] w (Fresh (.mk ⟨8, 0, 0, 0, 0, 0, mn, mx, false⟩ [t]) w) := by
 have HC := hide (fun y (hy : Below w.heap.size w y) => copy_any 1000000 t A c y hN (by omega) (hin.same (same_of_below hy) (fun z hz => Nat.lt_of_lt_of_le hz hy.size)))
 clear hin hN
 obtain ⟨h, l⟩ := t
 obtain ⟨tk, q0, q1, q2, q3, tn, ti, tx, tb⟩ := h
 simp only [T.hd, T.subs, Hd.cells] at HC ⊢
 go_enter Tryz.func26, Tryz.ntmps26
 go_wp2_with fail
 have hbA := ((Below.refl w.heap.size w).alloc (Nat.le_refl _) (.cells #[.int .i64 tk, .int .u64 q0, .int .u64 q1, .int .u64 q2, .int .u64 q3, .slice A l.length c, .int .i64 tn, .int .i64 ti, .int .i64 tx, .bool tb] 27)).alloc (by simp) (.cells #[.int .i64 0, .int .u64 0, .int .u64 0, .int .u64 0, .int .u64 0, .slice none 0 0, .int .i64 0, .int .i64 0, .int .i64 0, .bool false] 27)
 have hb0 := Blk.new (w.alloc (.cells #[.int .i64 tk, .int .u64 q0, .int .u64 q1, .int .u64 q2, .int .u64 q3, .slice A l.length c, .int .i64 tn, .int .i64 ti, .int .i64 tx, .bool tb] 27)) 27 #[.int .i64 0, .int .u64 0, .int .u64 0, .int .u64 0, .int .u64 0, .slice none 0 0, .int .i64 0, .int .i64 0, .int .i64 0, .bool false]
 rw [World.size_alloc] at hb0
 refine (HC.out _ hbA).mono ?_
 rintro e w1 ⟨B, c', bs, rfl, hown, hnd, hfr, hb⟩
 have hz := hb.size
 simp only [World.size_alloc] at hz hfr
 have hbw := hbA.trans (hb.mono hbA.size)
 have hb1 := hb0.below hb hb0.lt
 have c0 := hb1.cell
 have f0 := hb1.frozen
 have zb := hb1.lt
 have HO := hide (And.intro hown (And.intro hnd (And.intro hfr hbw)))
 clear hown hnd hfr hbw hb hbA hb0 HC
 simp only [T.hd, T.subs, Hd.cells]
 go_wp2_with fail
 refine bodyPost_ret (v := .agg #[.int .i64 8, .int .u64 0, .int .u64 0, .int .u64 0, .int .u64 0, .slice (some ⟨w1.heap.size, 0, none⟩) 1 1, .int .i64 0, .int .i64 mn, .int .i64 mx, .bool false]) (by simp [results, Tryz.results26, go_sem, c0, hb1.lt]) rfl ?_
 obtain ⟨hown, hnd, hfr, hbw⟩ := HO.out
 refine fresh_wrap (h := ⟨8, 0, 0, 0, 0, 0, mn, mx, false⟩) (t := .mk ⟨tk, q0, q1, q2, q3, tn, ti, tx, tb⟩ l) (w1 := w1) hown hnd hfr ?_ (by simp) ?_
 ·repeat refine Same.set ?_ (by simp) _
  exact Same.refl _ _
 ·repeat refine Below.setCell ?_ (by simp) _
  exact hbw

set_option maxRecDepth 100000 in
set_option maxHeartbeats 1000000 in
theorem group_any (t : T) (A : Option Addr) (c : Nat) (num : Int) (w : World) (hN : t.nodes ≤ 1000000) (hin : T.In w (· < w.heap.size) t A) :
  Calls Tryz.prog 27 #[.int .i64 num, .agg (t.hd.cells (.slice A t.subs.length c)).toArray] w (Fresh (.mk ⟨7, 0, 0, 0, 0, num, 0, 0, false⟩ [t]) w) := by
 have HC := hide (fun y (hy : Below w.heap.size w y) => copy_any 1000000 t A c y hN (by omega) (hin.same (same_of_below hy) (fun z hz => Nat.lt_of_lt_of_le hz hy.size)))
 clear hin hN
 obtain ⟨h, l⟩ := t
 obtain ⟨tk, q0, q1, q2, q3, tn, ti, tx, tb⟩ := h
 simp only [T.hd, T.subs, Hd.cells] at HC ⊢
 go_enter Tryz.func27, Tryz.ntmps27
 go_wp2_with fail
 have hbA := ((Below.refl w.heap.size w).alloc (Nat.le_refl _) (.cells #[.int .i64 tk, .int .u64 q0, .int .u64 q1, .int .u64 q2, .int .u64 q3, .slice A l.length c, .int .i64 tn, .int .i64 ti, .int .i64 tx, .bool tb] 27)).alloc (by simp) (.cells #[.int .i64 0, .int .u64 0, .int .u64 0, .int .u64 0, .int .u64 0, .slice none 0 0, .int .i64 0, .int .i64 0, .int .i64 0, .bool false] 27)
 have hb0 := Blk.new (w.alloc (.cells #[.int .i64 tk, .int .u64 q0, .int .u64 q1, .int .u64 q2, .int .u64 q3, .slice A l.length c, .int .i64 tn, .int .i64 ti, .int .i64 tx, .bool tb] 27)) 27 #[.int .i64 0, .int .u64 0, .int .u64 0, .int .u64 0, .int .u64 0, .slice none 0 0, .int .i64 0, .int .i64 0, .int .i64 0, .bool false]
 rw [World.size_alloc] at hb0
 refine (HC.out _ hbA).mono ?_
 rintro e w1 ⟨B, c', bs, rfl, hown, hnd, hfr, hb⟩
 have hz := hb.size
 simp only [World.size_alloc] at hz hfr
 have hbw := hbA.trans (hb.mono hbA.size)
 have hb1 := hb0.below hb hb0.lt
 have c0 := hb1.cell
 have f0 := hb1.frozen
 have zb := hb1.lt
 have HO := hide (And.intro hown (And.intro hnd (And.intro hfr hbw)))
 clear hown hnd hfr hbw hb hbA hb0 HC
 simp only [T.hd, T.subs, Hd.cells]
 go_wp2_with fail
 refine bodyPost_ret (v := .agg #[.int .i64 7, .int .u64 0, .int .u64 0, .int .u64 0, .int .u64 0, .slice (some ⟨w1.heap.size, 0, none⟩) 1 1, .int .i64 num, .int .i64 0, .int .i64 0, .bool false]) (by simp [results, Tryz.results27, go_sem, c0, hb1.lt]) rfl ?_
 obtain ⟨hown, hnd, hfr, hbw⟩ := HO.out
 refine fresh_wrap (h := ⟨7, 0, 0, 0, 0, num, 0, 0, false⟩) (t := .mk ⟨tk, q0, q1, q2, q3, tn, ti, tx, tb⟩ l) (w1 := w1) hown hnd hfr ?_ (by simp) ?_
 ·repeat refine Same.set ?_ (by simp) _
  exact Same.refl _ _
 ·repeat refine Below.setCell ?_ (by simp) _
  exact hbw
end Go.Proofs.YtpkcklpjbeginaaGreatDoor

/-! ## Pairs2 -/
namespace Go.Proofs.YtpkcklpjbeginaaGreatDoor
open Go.RowKit

theorem T.In.next {w w' : World} {t : T} {B : Option Addr} (h : T.In w (· < w.heap.size) t B) (hb : Below w.heap.size w w') : T.In w' (· < w'.heap.size) t B := h.same (same_of_below hb) (fun y hy => Nat.lt_of_lt_of_le hy hb.size)
theorem Blk.next {w w' : World} {g : Nat} {t : TypeId} {cs : Array Value} (h : Blk w g t cs) (hb : Below w.heap.size w w') : Blk w' g t cs := h.below hb h.lt

theorem Fresh.from {t : T} {w w1 : World} {e : Ending} {w' : World} (h : Fresh t w1 e w') (hb : Below w.heap.size w w1) : Fresh t w e w' := by
 obtain ⟨B, c, bs, h1, h2, h3, h4, h5⟩ := h
 exact ⟨B, c, bs, h1, h2, h3, fun b hm => ⟨Nat.le_trans hb.size (h4 b hm).1, (h4 b hm).2⟩, hb.trans (h5.mono hb.size)⟩

end Go.Proofs.YtpkcklpjbeginaaGreatDoor
