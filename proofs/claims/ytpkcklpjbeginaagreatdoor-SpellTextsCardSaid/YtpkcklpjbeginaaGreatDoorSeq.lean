/- tree.copies, tree.Seq, tree.Bytes. -/
import Derived.Test.YtpkcklpjbeginaaGreatDoorTurns
set_option linter.unusedSimpArgs false
set_option linter.unusedVariables false
set_option linter.unnecessarySimpa false
namespace Go.Proofs.YtpkcklpjbeginaaGreatDoor
open Go.RowKit

theorem GrowT.made (w : World) (n : Nat) (hn : n ≤ 1000000) (base : Nat) (hb : base ≤ w.heap.size) : GrowT base (w.alloc (.cells (madeCells zeroCells (n * 10)) 27)) (.slice (some ⟨w.heap.size, 0, none⟩) 0 n) [] [] :=
 ⟨[], World.ownsRow_made w _ n hb (by simp only [maxLen]; omega) (size_madeCells _ _), rfl, List.nodup_nil, by simp⟩

set_option maxRecDepth 100000 in
set_option maxHeartbeats 1000000 in
theorem copies_any (l : List T) (A : Option Addr) (c : Nat) (w : World) (hN : TL.nodes l ≤ 1000000) (hin : TL.In w (· < w.heap.size) l A) :
  Calls Tryz.prog 87 #[.slice A l.length c] w fun e w' => ∃ v bs, e = .returned v ∧ GrowT w.heap.size w' v l bs ∧ Below w.heap.size w w' := by
 have hlen := TL.length_le l
 have h1 : (l.length : Int) ≤ 1000000 := by omega
 obtain ⟨i0, hi, hz0, hz1, hz2⟩ := info_parts Tryz.infoNode
 have hmk := fun W => run_make_rowN (P := Tryz.prog) 25 27 i0 _ Tryz.underlying25 hi hz0 .i64 .i64 0 l.length (Nat.zero_le _) (by rw [hz2]; omega) (by omega) W
 rw [hz1] at hmk
 simp only [show ((0 : Nat) : Int) = 0 from rfl] at hmk
 have H := hide (And.intro hi (And.intro hz0 (And.intro hz1 hz2)))
 clear hi hz0 hz1 hz2
 go_enter Tryz.func87, Tryz.ntmps87
 go_wp2_with fail
 go_loopw [3, 11] (fun v kv wr => ∃ (k : Nat) (bs : List Nat), kv = .int .i64 k ∧ k ≤ l.length ∧ GrowT w.heap.size wr v (l.take k) bs ∧ Below w.heap.size w wr) (fun _ kv _ => l.length - (intOf kv).toNat)
 case atStart => exact ⟨0, [], rfl, Nat.zero_le _, GrowT.made w l.length (by omega) _ (Nat.le_refl _), (Below.refl _ _).alloc (Nat.le_refl _) _⟩
 case round =>
  obtain ⟨k, bs, rfl, hk, hgrow, hbel⟩ := hrel
  by_cases hlt : k < l.length
  ·have hs := List.getElem?_eq_getElem hlt
   obtain ⟨b, o, B, c', rfl, hbk, hcs, hsub⟩ := TL.In.at_ hin hs
   have hsn := TL.nodes_mem (List.getElem_mem hlt)
   generalize l[k] = s at *
   obtain ⟨n0, n1, n2, n3, n4, n5, n6, n7, n8, n9⟩ := (hcs.same (same_of_below hbel) hbk).node
   have HS := hide hs
   clear hs
   have hz0 := hbel.size
   go_wp2_with fail
   refine (copy_any 1000000 s B c' _ (by omega) (by omega) (hsub.same ((same_of_below hbel).alloc (fun x hx => ?_) _) (fun x hx => ?_))).mono ?_
   ·omega
   ·simp; omega
   rintro e w1 ⟨B', c2, bs2, rfl, hown2, hnd2, hfr2, hbel2⟩
   have hbelA : Below wr.heap.size wr w1 := ((Below.refl _ _).alloc (Nat.le_refl _) _).trans (hbel2.mono (by simp))
   rw [World.size_alloc] at hfr2
   have hz2 := hbel2.size
   rw [World.size_alloc] at hz2
   clear hbel2
   have hfr3 : ∀ (X : Obj), ∀ b ∈ bs2, w.heap.size ≤ b ∧ b < (w1.alloc X).heap.size ∧ some b ≠ u3.ownBlock ∧ b ∉ bs := fun X b hb => by
    obtain ⟨xs, q1, q2, q3, q4⟩ := hgrow
    refine ⟨?_, ?_, ?_, ?_⟩
    ·have := (hfr2 b hb).1; omega
    ·have := (hfr2 b hb).2; simp; omega
    ·intro e
     have := (q1.lt b e.symm).2
     have := (hfr2 b hb).1
     omega
    ·intro e
     have := (q4 b e).2.1
     have := (hfr2 b hb).1
     omega
   have hgA := hide (fun X => (hgrow.below hbelA).below ((Below.refl _ _).alloc (Nat.le_refl _) X))
   have hoA := hide (fun (X : Obj) => hown2.same ((Same.refl _ w1).alloc (fun b hb => (hfr2 b hb).2) X))
   have hlA : (l.take k).length < 1000000 := by rw [List.length_take]; omega
   have HH := hide (And.intro hgrow (And.intro hfr2 hbelA))
   clear hgrow hbelA hfr2
   simp only [Hd.cells]
   go_wp2_with (at_builtin; refine wpList_append_node rfl _ _ rfl w.heap.size _ (l.take k) bs rfl (hgA.out _) s B' c2 w1.heap.size _ bs2 rfl (Blk.new _ _ _) (hoA.out _) hnd2 (hfr3 _) hlA (by simp; omega) ?_)
   intro v' w2 hgrow2 hg2
   have hz3 := hg2.size
   rw [World.size_alloc] at hz3
   obtain ⟨hgrow, hfr2, hbelA⟩ := HH.out
   have hown : ∀ g, u3.ownBlock = some g → w.heap.size ≤ g ∧ g < wr.heap.size := by
    obtain ⟨xs, q1, _⟩ := hgrow
    exact q1.lt
   have hgrow2' : GrowT w.heap.size w2 v' (l.take (k + 1)) (bs ++ bs2) := by
    rw [show l.take (k + 1) = l.take k ++ [s] from by rw [List.take_add_one, HS.out]; rfl]
    exact hgrow2
   have hgoal : Below w.heap.size w w2 := (hbel.trans (hbelA.mono hbel.size)).trans ((((Below.refl _ _).alloc (by omega) _).grown hg2 (by simp; omega) (fun k hk => (hown k hk).1)))
   have HG := hide (And.intro hgrow2' hgoal)
   clear hgrow2' hgoal hown hgrow hfr2 hbelA hgrow2 hg2
   go_wp2_with fail
   go_roundw
   case rel => exact ⟨k + 1, bs ++ bs2, by go_num, by omega, HG.out⟩
   case measure => simp [intOf]; omega
  ·have hke : k = l.length := by omega
   rw [hke, List.take_length] at hgrow
   go_wp2_with fail
   go_ret
   exact ⟨_, bs, rfl, hgrow, hbel⟩

/-- The tree of a row of trees. -/
def T.seq : List T → T
 | [] => .mk ⟨1, 0, 0, 0, 0, 0, 0, 0, false⟩ []
 | [t] => t
 | l => .mk ⟨5, 0, 0, 0, 0, 0, 0, 0, false⟩ l

set_option maxRecDepth 100000 in
theorem seq_nil (A : Option Addr) (c : Nat) (w : World) : Calls Tryz.prog 53 #[.slice A 0 c] w (Fresh (T.seq []) w) := by
 go_enter Tryz.func53, Tryz.ntmps53
 go_wp2_with fail
 refine bodyPost_ret (v := .agg #[.int .i64 1, .int .u64 0, .int .u64 0, .int .u64 0, .int .u64 0, .slice none 0 0, .int .i64 0, .int .i64 0, .int .i64 0, .bool false]) (by simp [results, Tryz.results53, go_sem]) rfl ?_
 exact ⟨none, 0, [], rfl, .inl ⟨rfl, rfl⟩, List.nodup_nil, by simp, (Below.refl _ _).alloc (Nat.le_refl _) _⟩

set_option maxRecDepth 100000 in
set_option maxHeartbeats 1000000 in
theorem seq_one (t : T) (A : Option Addr) (c : Nat) (w : World) (hN : t.nodes ≤ 1000000) (hin : TL.In w (· < w.heap.size) [t] A) :
  Calls Tryz.prog 53 #[.slice A 1 c] w (Fresh t w) := by
 obtain ⟨b, o, B, c', rfl, hbk, hcs, hsub⟩ := TL.In.at_ (i := 0) hin rfl
 have hn := (hcs.same (w' := w.alloc (.cells #[.int .i64 0, .int .u64 0, .int .u64 0, .int .u64 0, .int .u64 0, .slice none 0 0, .int .i64 0, .int .i64 0, .int .i64 0, .bool false] 27)) ((Same.refl _ _).alloc (fun b hb => hb) _) hbk).node
 simp only [Nat.zero_mul, Nat.add_zero] at hn
 have HC := hide (copy_any 1000000 t B c' (w.alloc (.cells #[.int .i64 0, .int .u64 0, .int .u64 0, .int .u64 0, .int .u64 0, .slice none 0 0, .int .i64 0, .int .i64 0, .int .i64 0, .bool false] 27)) hN (by omega)
  (hsub.same ((Same.refl _ _).alloc (fun b hb => hb) _) (fun x hx => by simp; omega)))
 clear hin hsub hcs
 go_enter Tryz.func53, Tryz.ntmps53
 go_wp2_with fail
 refine HC.out.mono ?_
 rintro e w1 ⟨B', c2, bs, rfl, hown, hnd, hfr, hbel⟩
 have hz := hbel.size
 simp only [World.size_alloc] at hfr hz
 have hb0 : Blk w1 w.heap.size 27 _ := (Blk.new _ _ _).below hbel (by simp)
 have hbw : Below w.heap.size w w1 := ((Below.refl _ _).alloc (Nat.le_refl _) _).trans (hbel.mono (by simp))
 go_wp2_with (refine wpList_store_row rfl _ _ _ rfl w.heap.size 0 _ _ _ rfl rfl hb0 Tryz.sizeNode (by simp [Hd.cells_length]) (fun u hu => cells_one t.hd B' t.subs.length c2 u (by simpa using hu)) ?_)
 intro w2 hrow2 hg2 hz2
 have hrow2' := hrow2.out
 rw [splice_all (by simp [Hd.cells_length])] at hrow2'
 go_wp2_with fail
 refine bodyPost_ret (results_cell_row rfl _ _ w.heap.size _ _ (0, 0) _ rfl hrow2' Tryz.underlying27 rfl Tryz.sizeNode) rfl ?_
 refine ⟨B', c2, bs, by simp, hown.same fun b hb => hg2.block b (hfr b hb).2 (fun e => ?_), hnd, fun b hb => ?_, hbw.grown hg2 hbw.size (fun k hk => by injection hk with hk; omega)⟩
 ·injection e with e
  have := (hfr b hb).1
  omega
 ·have := hfr b hb
  omega

set_option maxRecDepth 100000 in
set_option maxHeartbeats 1000000 in
theorem seq_many (l : List T) (A : Option Addr) (c : Nat) (w : World) (hl : 2 ≤ l.length) (hN : TL.nodes l ≤ 1000000) (hin : TL.In w (· < w.heap.size) l A) :
  Calls Tryz.prog 53 #[.slice A l.length c] w (Fresh (.mk ⟨5, 0, 0, 0, 0, 0, 0, 0, false⟩ l) w) := by
 have hlen := TL.length_le l
 have e0 : ((l.length : Int) == 0) = false := by simp; intro h; simp [h] at hl
 have e1 : ((l.length : Int) == 1) = false := by simp; omega
 have HC := hide (copies_any l A c (w.alloc (.cells #[.int .i64 0, .int .u64 0, .int .u64 0, .int .u64 0, .int .u64 0, .slice none 0 0, .int .i64 0, .int .i64 0, .int .i64 0, .bool false] 27)) hN
  (hin.same ((Same.refl _ _).alloc (fun b hb => hb) _) (fun x hx => by simp; omega)))
 clear hin
 go_enter Tryz.func53, Tryz.ntmps53
 go_wp2_with fail
 refine HC.out.mono ?_
 rintro e w1 ⟨v, bs, rfl, hgrow, hbel⟩
 have hz := hbel.size
 simp only [World.size_alloc] at hz hgrow
 have hb0 : Blk w1 w.heap.size 27 #[.int .i64 0, .int .u64 0, .int .u64 0, .int .u64 0, .int .u64 0, .slice none 0 0, .int .i64 0, .int .i64 0, .int .i64 0, .bool false] := (Blk.new _ _ _).below hbel (by simp)
 have hbw : Below w.heap.size w w1 := ((Below.refl _ _).alloc (Nat.le_refl _) _).trans (hbel.mono (by simp))
 obtain ⟨B, c', bs', rfl, hown, hnd, hfr⟩ := hgrow.own ⟨5, 0, 0, 0, 0, 0, 0, 0, false⟩
 have c0 := hb0.cell
 have f0 := hb0.frozen
 have HO := hide hown
 clear hown hgrow hbel
 go_wp2_with fail
 refine bodyPost_ret (v := .agg #[.int .i64 5, .int .u64 0, .int .u64 0, .int .u64 0, .int .u64 0, .slice B l.length c', .int .i64 0, .int .i64 0, .int .i64 0, .bool false]) (by simp [results, Tryz.results53, go_sem, c0]) rfl ?_
 refine ⟨B, c', bs', rfl, HO.out.same (Same.mono (ok := fun b => w.heap.size + 1 ≤ b) ?_ fun b hb => (hfr b hb).1), hnd, ?_, ?_⟩
 ·repeat refine Same.set ?_ (by simp) _
  exact Same.refl _ _
 ·intro b hb
  simp only [World.size_setCell]
  have := hfr b hb; omega
 ·repeat refine Below.setCell ?_ (by simp) _
  exact hbw

theorem seq_any (l : List T) (A : Option Addr) (c : Nat) (w : World) (hN : TL.nodes l ≤ 1000000) (hin : TL.In w (· < w.heap.size) l A) :
  Calls Tryz.prog 53 #[.slice A l.length c] w (Fresh (T.seq l) w) := by
 cases l with
 | nil => exact seq_nil A c w
 | cons t r =>
  cases r with
  | nil => exact seq_one t A c w (by simp only [TL.nodes] at hN; omega) hin
  | cons t' r => exact seq_many (t :: t' :: r) A c w (by simp) hN hin

set_option maxRecDepth 100000 in
theorem bytes_any (a b c d : Int) (w : World) : Calls Tryz.prog 52 #[.agg #[.int .u64 a, .int .u64 b, .int .u64 c, .int .u64 d]] w fun e w' =>
  e = .returned (.agg #[.int .i64 2, .int .u64 a, .int .u64 b, .int .u64 c, .int .u64 d, .slice none 0 0, .int .i64 0, .int .i64 0, .int .i64 0, .bool false]) ∧ Below w.heap.size w w' := by
 go_enter Tryz.func52, Tryz.ntmps52
 go_wp2_with fail
 refine bodyPost_ret (v := .agg #[.int .i64 2, .int .u64 a, .int .u64 b, .int .u64 c, .int .u64 d, .slice none 0 0, .int .i64 0, .int .i64 0, .int .i64 0, .bool false]) (by simp [results, Tryz.results52, go_sem]) rfl ?_
 exact ⟨rfl, ((Below.refl _ _).alloc (Nat.le_refl _) _).alloc (by simp) _⟩
end Go.Proofs.YtpkcklpjbeginaaGreatDoor
