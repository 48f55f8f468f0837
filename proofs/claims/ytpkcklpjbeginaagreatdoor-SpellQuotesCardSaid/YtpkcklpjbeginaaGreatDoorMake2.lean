/- Make2: tree.Alt, Group, Rep: trees made of trees, in memory of their own.
Pairs2: Two trees side by side in a list; a fresh tree under another name. -/
import Derived.Test.YtpkcklpjbeginaaGreatDoorSeq
set_option linter.unusedSimpArgs false
set_option linter.unusedVariables false
set_option linter.unnecessarySimpa false

/-! ## Make2 -/
namespace Go.Proofs.YtpkcklpjbeginaaGreatDoor
open Go.RowKit

def T.alt : List T → T
 | [] => .mk ⟨2, 0, 0, 0, 0, 0, 0, 0, false⟩ []
 | [t] => t
 | l => .mk ⟨6, 0, 0, 0, 0, 0, 0, 0, false⟩ l

set_option maxRecDepth 100000 in
theorem alt_nil (A : Option Addr) (c : Nat) (w : World) : Calls Tryz.prog 85 #[.slice A 0 c] w (Fresh (T.alt []) w) := by
 go_enter Tryz.func85, Tryz.ntmps85
 go_wp2_with fail
 refine (bytes_any 0 0 0 0 _).mono ?_
 rintro e w1 ⟨rfl, hb⟩
 have hb0 : Blk w1 w.heap.size 27 #[.int .i64 0, .int .u64 0, .int .u64 0, .int .u64 0, .int .u64 0, .slice none 0 0, .int .i64 0, .int .i64 0, .int .i64 0, .bool false] := (Blk.new _ _ _).below hb (by simp)
 have hbw : Below w.heap.size w w1 := ((Below.refl _ _).alloc (Nat.le_refl _) _).trans (hb.mono (by simp))
 have c0 := hb0.cell
 have f0 := hb0.frozen
 clear hb
 go_wp2_with fail
 refine bodyPost_ret (v := .agg #[.int .i64 2, .int .u64 0, .int .u64 0, .int .u64 0, .int .u64 0, .slice none 0 0, .int .i64 0, .int .i64 0, .int .i64 0, .bool false]) (by simp [results, Tryz.results85, go_sem, c0]) rfl ?_
 refine ⟨none, 0, [], rfl, .inl ⟨rfl, rfl⟩, List.nodup_nil, by simp, ?_⟩
 repeat refine Below.setCell ?_ (by simp) _
 exact hbw

set_option maxRecDepth 100000 in
set_option maxHeartbeats 1000000 in
theorem alt_one (t : T) (A : Option Addr) (c : Nat) (w : World) (hN : t.nodes ≤ 1000000) (hin : TL.In w (· < w.heap.size) [t] A) :
  Calls Tryz.prog 85 #[.slice A 1 c] w (Fresh t w) := by
 obtain ⟨b, o, B, c', rfl, hbk, hcs, hsub⟩ := TL.In.at_ (i := 0) hin rfl
 have hn := (hcs.same (w' := w.alloc (.cells #[.int .i64 0, .int .u64 0, .int .u64 0, .int .u64 0, .int .u64 0, .slice none 0 0, .int .i64 0, .int .i64 0, .int .i64 0, .bool false] 27)) ((Same.refl _ _).alloc (fun b hb => hb) _) hbk).node
 simp only [Nat.zero_mul, Nat.add_zero] at hn
 have HC := hide (copy_any 1000000 t B c' (w.alloc (.cells #[.int .i64 0, .int .u64 0, .int .u64 0, .int .u64 0, .int .u64 0, .slice none 0 0, .int .i64 0, .int .i64 0, .int .i64 0, .bool false] 27)) hN (by omega)
  (hsub.same ((Same.refl _ _).alloc (fun b hb => hb) _) (fun x hx => by simp; omega)))
 clear hin hsub hcs
 go_enter Tryz.func85, Tryz.ntmps85
 go_wp2_with fail
 refine HC.out.mono ?_
 rintro e w1 ⟨B', c2, bs, rfl, hown, hnd, hfr, hbel⟩
 have hz := hbel.size
 simp only [World.size_alloc] at hfr hz
 have hb0 : Blk w1 w.heap.size 27 _ := (Blk.new _ _ _).below hbel (by simp)
 have hbw : Below w.heap.size w w1 := ((Below.refl _ _).alloc (Nat.le_refl _) _).trans (hbel.mono (by simp))
 go_wp2_with (refine wpList_store_row rfl _ _ _ rfl w.heap.size 0 _ _ _ rfl rfl hb0 Tryz.sizeNode (by simp [Hd.cells_length]) (fun u hu => cells_one t.hd B' t.subs.length c2 u (by simpa using hu)) ?_)
 intro w2 hrow2 hg2 hz2
 have hrow2' := hrow2.out
 rw [splice_all (by simp [Hd.cells_length])] at hrow2'
 go_wp2_with fail
 refine bodyPost_ret (results_cell_row rfl _ _ w.heap.size _ _ (0, 0) _ rfl hrow2' Tryz.underlying27 rfl Tryz.sizeNode) rfl ?_
 refine ⟨B', c2, bs, by simp, hown.same fun b hb => hg2.block b (hfr b hb).2 (fun e => ?_), hnd, fun b hb => ?_, hbw.grown hg2 hbw.size (fun k hk => by injection hk with hk; omega)⟩
 ·injection e with e
  have := (hfr b hb).1
  omega
 ·have := hfr b hb
  omega

set_option maxRecDepth 100000 in
set_option maxHeartbeats 1000000 in
theorem alt_many (l : List T) (A : Option Addr) (c : Nat) (w : World) (hl : 2 ≤ l.length) (hN : TL.nodes l ≤ 1000000) (hin : TL.In w (· < w.heap.size) l A) :
  Calls Tryz.prog 85 #[.slice A l.length c] w (Fresh (.mk ⟨6, 0, 0, 0, 0, 0, 0, 0, false⟩ l) w) := by
 have hlen := TL.length_le l
 have e0 : ((l.length : Int) == 0) = false := by simp; intro h; simp [h] at hl
 have e1 : ((l.length : Int) == 1) = false := by simp; omega
 have HC := hide (copies_any l A c (w.alloc (.cells #[.int .i64 0, .int .u64 0, .int .u64 0, .int .u64 0, .int .u64 0, .slice none 0 0, .int .i64 0, .int .i64 0, .int .i64 0, .bool false] 27)) hN
  (hin.same ((Same.refl _ _).alloc (fun b hb => hb) _) (fun x hx => by simp; omega)))
 clear hin
 go_enter Tryz.func85, Tryz.ntmps85
 go_wp2_with fail
 refine HC.out.mono ?_
 rintro e w1 ⟨v, bs, rfl, hgrow, hbel⟩
 have hz := hbel.size
 simp only [World.size_alloc] at hz hgrow
 have hb0 : Blk w1 w.heap.size 27 #[.int .i64 0, .int .u64 0, .int .u64 0, .int .u64 0, .int .u64 0, .slice none 0 0, .int .i64 0, .int .i64 0, .int .i64 0, .bool false] := (Blk.new _ _ _).below hbel (by simp)
 have hbw : Below w.heap.size w w1 := ((Below.refl _ _).alloc (Nat.le_refl _) _).trans (hbel.mono (by simp))
 obtain ⟨B, c', bs', rfl, hown, hnd, hfr⟩ := hgrow.own ⟨6, 0, 0, 0, 0, 0, 0, 0, false⟩
 have c0 := hb0.cell
 have f0 := hb0.frozen
 have HO := hide hown
 clear hown hgrow hbel
 go_wp2_with fail
 refine bodyPost_ret (v := .agg #[.int .i64 6, .int .u64 0, .int .u64 0, .int .u64 0, .int .u64 0, .slice B l.length c', .int .i64 0, .int .i64 0, .int .i64 0, .bool false]) (by simp [results, Tryz.results85, go_sem, c0]) rfl ?_
 refine ⟨B, c', bs', rfl, HO.out.same (Same.mono (ok := fun b => w.heap.size + 1 ≤ b) ?_ fun b hb => (hfr b hb).1), hnd, ?_, ?_⟩
 ·repeat refine Same.set ?_ (by simp) _
  exact Same.refl _ _
 ·intro b hb
  simp only [World.size_setCell]
  have := hfr b hb; omega
 ·repeat refine Below.setCell ?_ (by simp) _
  exact hbw

theorem alt_any (l : List T) (A : Option Addr) (c : Nat) (w : World) (hN : TL.nodes l ≤ 1000000) (hin : TL.In w (· < w.heap.size) l A) :
  Calls Tryz.prog 85 #[.slice A l.length c] w (Fresh (T.alt l) w) := by
 cases l with
 | nil => exact alt_nil A c w
 | cons t r =>
  cases r with
  | nil => exact alt_one t A c w (by simp only [TL.nodes] at hN; omega) hin
  | cons t' r => exact alt_many (t :: t' :: r) A c w (by simp) hN hin


theorem fresh_wrap {w w1 Ws : World} {t : T} {h : Hd} {B : Option Addr} {c' : Nat} {bs : List Nat} (hown : T.Own w1 t B bs) (hnd : bs.Nodup) (hfr : ∀ b ∈ bs, w.heap.size + 1 + 1 ≤ b ∧ b < w1.heap.size) (hs : Same (fun b => w.heap.size + 1 + 1 ≤ b) w1 Ws)
  (hz : Ws.heap.size = w1.heap.size) (hb : Below w.heap.size w Ws) : Fresh (.mk h [t]) w (.returned (.agg (h.cells (.slice (some ⟨w1.heap.size, 0, none⟩) 1 1)).toArray)) (Ws.alloc (.cells (t.hd.cells (.slice B t.subs.length c')).toArray 27)) := by
 have hbz := hb.size
 have hblk := Blk.new Ws 27 (t.hd.cells (.slice B t.subs.length c')).toArray
 rw [hz] at hblk
 have S1 : Same (· ∈ bs) w1 (Ws.alloc (.cells (t.hd.cells (.slice B t.subs.length c')).toArray 27)) :=
  (hs.mono fun b hm => (hfr b hm).1).alloc (fun b hm => by rw [hz]; exact (hfr b hm).2) _
 refine ⟨some ⟨w1.heap.size, 0, none⟩, 1, w1.heap.size :: bs, rfl, .inr ⟨w1.heap.size, _, bs, rfl, rfl, hblk, B, c', bs, [], [], by simp, by simp, hown.same S1, rfl⟩, List.nodup_cons.2 ⟨fun hm => by have := (hfr _ hm).2; omega, hnd⟩, fun b hm => ?_, hb.alloc (by omega) _⟩
 rw [World.size_alloc, hz]
 rcases List.mem_cons.1 hm with e | hm
 ·subst e; omega
 ·have := hfr b hm; omega

set_option maxRecDepth 100000 in
set_option maxHeartbeats 1000000 in
theorem rep_any (t : T) (A : Option Addr) (c : Nat) (mn mx : Int) (w : World) (hN : t.nodes ≤ 1000000) (hin : T.In w (· < w.heap.size) t A) :
  Calls Tryz.prog 26 #[.agg (t.hd.cells (.slice A t.subs.length c)).toArray, .int .i64 mn, .int .i64 mx] w (Fresh (.mk ⟨8, 0, 0, 0, 0, 0, mn, mx, false⟩ [t]) w) := by
 have HC := hide (fun y (hy : Below w.heap.size w y) => copy_any 1000000 t A c y hN (by omega) (hin.same (same_of_below hy) (fun z hz => Nat.lt_of_lt_of_le hz hy.size)))
 clear hin hN
 obtain ⟨h, l⟩ := t
 obtain ⟨tk, q0, q1, q2, q3, tn, ti, tx, tb⟩ := h
 simp only [T.hd, T.subs, Hd.cells] at HC ⊢
 go_enter Tryz.func26, Tryz.ntmps26
 go_wp2_with fail
 have hbA := ((Below.refl w.heap.size w).alloc (Nat.le_refl _) (.cells #[.int .i64 tk, .int .u64 q0, .int .u64 q1, .int .u64 q2, .int .u64 q3, .slice A l.length c, .int .i64 tn, .int .i64 ti, .int .i64 tx, .bool tb] 27)).alloc (by simp) (.cells #[.int .i64 0, .int .u64 0, .int .u64 0, .int .u64 0, .int .u64 0, .slice none 0 0, .int .i64 0, .int .i64 0, .int .i64 0, .bool false] 27)
 have hb0 := Blk.new (w.alloc (.cells #[.int .i64 tk, .int .u64 q0, .int .u64 q1, .int .u64 q2, .int .u64 q3, .slice A l.length c, .int .i64 tn, .int .i64 ti, .int .i64 tx, .bool tb] 27)) 27 #[.int .i64 0, .int .u64 0, .int .u64 0, .int .u64 0, .int .u64 0, .slice none 0 0, .int .i64 0, .int .i64 0, .int .i64 0, .bool false]
 rw [World.size_alloc] at hb0
 refine (HC.out _ hbA).mono ?_
 rintro e w1 ⟨B, c', bs, rfl, hown, hnd, hfr, hb⟩
 have hz := hb.size
 simp only [World.size_alloc] at hz hfr
 have hbw := hbA.trans (hb.mono hbA.size)
 have hb1 := hb0.below hb hb0.lt
 have c0 := hb1.cell
 have f0 := hb1.frozen
 have zb := hb1.lt
 have HO := hide (And.intro hown (And.intro hnd (And.intro hfr hbw)))
 clear hown hnd hfr hbw hb hbA hb0 HC
 simp only [T.hd, T.subs, Hd.cells]
 go_wp2_with fail
 refine bodyPost_ret (v := .agg #[.int .i64 8, .int .u64 0, .int .u64 0, .int .u64 0, .int .u64 0, .slice (some ⟨w1.heap.size, 0, none⟩) 1 1, .int .i64 0, .int .i64 mn, .int .i64 mx, .bool false]) (by simp [results, Tryz.results26, go_sem, c0, hb1.lt]) rfl ?_
 obtain ⟨hown, hnd, hfr, hbw⟩ := HO.out
 refine fresh_wrap (h := ⟨8, 0, 0, 0, 0, 0, mn, mx, false⟩) (t := .mk ⟨tk, q0, q1, q2, q3, tn, ti, tx, tb⟩ l) (w1 := w1) hown hnd hfr ?_ (by simp) ?_
 ·repeat refine Same.set ?_ (by simp) _
  exact Same.refl _ _
 ·repeat refine Below.setCell ?_ (by simp) _
  exact hbw

set_option maxRecDepth 100000 in
set_option maxHeartbeats 1000000 in
theorem group_any (t : T) (A : Option Addr) (c : Nat) (num : Int) (w : World) (hN : t.nodes ≤ 1000000) (hin : T.In w (· < w.heap.size) t A) :
  Calls Tryz.prog 27 #[.int .i64 num, .agg (t.hd.cells (.slice A t.subs.length c)).toArray] w (Fresh (.mk ⟨7, 0, 0, 0, 0, num, 0, 0, false⟩ [t]) w) := by
 have HC := hide (fun y (hy : Below w.heap.size w y) => copy_any 1000000 t A c y hN (by omega) (hin.same (same_of_below hy) (fun z hz => Nat.lt_of_lt_of_le hz hy.size)))
 clear hin hN
 obtain ⟨h, l⟩ := t
 obtain ⟨tk, q0, q1, q2, q3, tn, ti, tx, tb⟩ := h
 simp only [T.hd, T.subs, Hd.cells] at HC ⊢
 go_enter Tryz.func27, Tryz.ntmps27
 go_wp2_with fail
 have hbA := ((Below.refl w.heap.size w).alloc (Nat.le_refl _) (.cells #[.int .i64 tk, .int .u64 q0, .int .u64 q1, .int .u64 q2, .int .u64 q3, .slice A l.length c, .int .i64 tn, .int .i64 ti, .int .i64 tx, .bool tb] 27)).alloc (by simp) (.cells #[.int .i64 0, .int .u64 0, .int .u64 0, .int .u64 0, .int .u64 0, .slice none 0 0, .int .i64 0, .int .i64 0, .int .i64 0, .bool false] 27)
 have hb0 := Blk.new (w.alloc (.cells #[.int .i64 tk, .int .u64 q0, .int .u64 q1, .int .u64 q2, .int .u64 q3, .slice A l.length c, .int .i64 tn, .int .i64 ti, .int .i64 tx, .bool tb] 27)) 27 #[.int .i64 0, .int .u64 0, .int .u64 0, .int .u64 0, .int .u64 0, .slice none 0 0, .int .i64 0, .int .i64 0, .int .i64 0, .bool false]
 rw [World.size_alloc] at hb0
 refine (HC.out _ hbA).mono ?_
 rintro e w1 ⟨B, c', bs, rfl, hown, hnd, hfr, hb⟩
 have hz := hb.size
 simp only [World.size_alloc] at hz hfr
 have hbw := hbA.trans (hb.mono hbA.size)
 have hb1 := hb0.below hb hb0.lt
 have c0 := hb1.cell
 have f0 := hb1.frozen
 have zb := hb1.lt
 have HO := hide (And.intro hown (And.intro hnd (And.intro hfr hbw)))
 clear hown hnd hfr hbw hb hbA hb0 HC
 simp only [T.hd, T.subs, Hd.cells]
 go_wp2_with fail
 refine bodyPost_ret (v := .agg #[.int .i64 7, .int .u64 0, .int .u64 0, .int .u64 0, .int .u64 0, .slice (some ⟨w1.heap.size, 0, none⟩) 1 1, .int .i64 num, .int .i64 0, .int .i64 0, .bool false]) (by simp [results, Tryz.results27, go_sem, c0, hb1.lt]) rfl ?_
 obtain ⟨hown, hnd, hfr, hbw⟩ := HO.out
 refine fresh_wrap (h := ⟨7, 0, 0, 0, 0, num, 0, 0, false⟩) (t := .mk ⟨tk, q0, q1, q2, q3, tn, ti, tx, tb⟩ l) (w1 := w1) hown hnd hfr ?_ (by simp) ?_
 ·repeat refine Same.set ?_ (by simp) _
  exact Same.refl _ _
 ·repeat refine Below.setCell ?_ (by simp) _
  exact hbw
end Go.Proofs.YtpkcklpjbeginaaGreatDoor

/-! ## Pairs2 -/
namespace Go.Proofs.YtpkcklpjbeginaaGreatDoor
open Go.RowKit

theorem T.In.next {w w' : World} {t : T} {B : Option Addr} (h : T.In w (· < w.heap.size) t B) (hb : Below w.heap.size w w') : T.In w' (· < w'.heap.size) t B := h.same (same_of_below hb) (fun y hy => Nat.lt_of_lt_of_le hy hb.size)
theorem Blk.next {w w' : World} {g : Nat} {t : TypeId} {cs : Array Value} (h : Blk w g t cs) (hb : Below w.heap.size w w') : Blk w' g t cs := h.below hb h.lt

theorem Fresh.from {t : T} {w w1 : World} {e : Ending} {w' : World} (h : Fresh t w1 e w') (hb : Below w.heap.size w w1) : Fresh t w e w' := by
 obtain ⟨B, c, bs, h1, h2, h3, h4, h5⟩ := h
 exact ⟨B, c, bs, h1, h2, h3, fun b hm => ⟨Nat.le_trans hb.size (h4 b hm).1, (h4 b hm).2⟩, hb.trans (h5.mono hb.size)⟩

end Go.Proofs.YtpkcklpjbeginaaGreatDoor
