/- Chunks: Rows of chunks of ten cells: taken apart, written, turned about. Plain lists.
Rev: slices.Reverse at []api.Node.
Copy: tree.Copy: the same tree in memory of its own.
Turn: turn.turn: in place. turn.Turn: of any tree.
Turn2: turn.turn: the walk. (Printed by gen_turn2.py.)
Turn3: turn.Turn: the turned tree, in memory of its own. -/
import Derived.Test.YtpkcklpjbeginaaGreatDoorOnly
import Derived.Test.YtpkcklpjbeginaaGreatDoorMix
import Derived.Outline
import Derived.Test.YtpkcklpjbeginaaGreatDoorGrow
set_option linter.unusedSimpArgs false
set_option linter.unusedVariables false
set_option linter.unnecessarySimpa false

/-! ## Chunks -/
namespace Go.Proofs.YtpkcklpjbeginaaGreatDoor

def Tens (X : List (List Value)) : Prop := ∀ c ∈ X, c.length = 10

theorem Tens.length {X : List (List Value)} (h : Tens X) : X.flatten.length = 10 * X.length := by
 induction X with
 | nil => rfl
 | cons c X ih =>
  have h1 := h c (by simp)
  have h2 := ih (fun d hd => h d (by simp [hd]))
  simp [h1, h2]
  omega

theorem Tens.at_ {X : List (List Value)} (h : Tens X) {p : Nat} {c : List Value} (hp : X[p]? = some c) (tail : List Value) :
  (X.flatten ++ tail).take (p * 10) = (X.take p).flatten ∧ (X.flatten ++ tail).drop (p * 10) = c ++ ((X.drop (p + 1)).flatten ++ tail) := by
 have hlt : p < X.length := (List.getElem?_eq_some_iff.1 hp).1
 have hsplit : X = X.take p ++ (c :: X.drop (p + 1)) := by
  have h1 : X.drop p = X[p] :: X.drop (p + 1) := List.drop_eq_getElem_cons hlt
  have h2 : X[p] = c := (List.getElem?_eq_some_iff.1 hp).2
  rw [h2] at h1
  rw [← h1, List.take_append_drop]
 have hl : ((X.take p).flatten).length = p * 10 := by
  have h1 : Tens (X.take p) := fun d hd => h d (List.mem_of_mem_take hd)
  rw [h1.length, List.length_take]
  omega
 have e : X.flatten ++ tail = (X.take p).flatten ++ (c ++ ((X.drop (p + 1)).flatten ++ tail)) := by
  conv => lhs; rw [hsplit]
  simp
 exact ⟨by rw [e, List.take_left' hl], by rw [e, List.drop_left' hl]⟩

theorem Tens.set {X : List (List Value)} (h : Tens X) {p : Nat} {c d : List Value} (hp : X[p]? = some c) (hd : d.length = 10) (tail : List Value) :
  splice (X.flatten ++ tail) (p * 10) d = (X.set p d).flatten ++ tail := by
 have hlt : p < X.length := (List.getElem?_eq_some_iff.1 hp).1
 obtain ⟨h1, h2⟩ := h.at_ hp tail
 have hc : c.length = 10 := h c (List.mem_of_getElem? hp)
 rw [splice, h1, hd, ← List.drop_drop, h2, List.drop_left' hc]
 rw [List.set_eq_take_append_cons_drop, if_pos hlt]
 simp

/-- What a list looks like when its first i and last i places have been exchanged. -/
def Turned (X Y : List (List Value)) (i : Nat) : Prop :=
 Y.length = X.length ∧ ∀ p, p < X.length → Y[p]? = if p < i ∨ X.length - 1 - i < p then X[X.length - 1 - p]? else X[p]?

theorem Turned.zero (X : List (List Value)) : Turned X X 0 := ⟨rfl, fun p hp => by rw [if_neg (by omega)]⟩

theorem Turned.step {X Y : List (List Value)} {i j : Nat} {c d : List Value} (h : Turned X Y i) (hj : j = X.length - 1 - i) (hij : i < j) (hc : Y[i]? = some c) (hd : Y[j]? = some d) :
  Turned X ((Y.set i d).set j c) (i + 1) := by
 refine ⟨by simpa using h.1, fun p hp => ?_⟩
 have hl := h.1
 have hi' := h.2 i (by omega)
 have hj' := h.2 j (by omega)
 rw [if_neg (by omega)] at hi' hj'
 rw [List.getElem?_set, List.getElem?_set]
 by_cases hpj : j = p
 ·subst hpj
  rw [if_pos rfl, if_pos (by simp; omega), if_pos (by omega), show X.length - 1 - j = i from by omega, ← hi', hc]
 ·rw [if_neg hpj]
  by_cases hpi : i = p
  ·subst hpi
   rw [if_pos rfl, if_pos (by omega), if_pos (by omega), show X.length - 1 - i = j from by omega, ← hj', hd]
  ·rw [if_neg hpi, h.2 p hp]
   by_cases h1 : p < i ∨ X.length - 1 - i < p
   ·rw [if_pos h1, if_pos (by omega)]
   ·rw [if_neg h1, if_neg (by omega)]

theorem Turned.done {X Y : List (List Value)} {i : Nat} (h : Turned X Y i) (hi : X.length ≤ 2 * i + 1) : Y = X.reverse := by
 apply List.ext_getElem?
 intro p
 by_cases hp : p < X.length
 ·rw [h.2 p hp, List.getElem?_reverse hp]
  split
  ·rfl
  ·rw [show X.length - 1 - p = p from by omega]
 ·rw [List.getElem?_eq_none (by rw [h.1]; omega), List.getElem?_eq_none (by simp; omega)]
end Go.Proofs.YtpkcklpjbeginaaGreatDoor

/-! ## Rev -/
namespace Go.Proofs.YtpkcklpjbeginaaGreatDoor
open Go.RowKit

end Go.Proofs.YtpkcklpjbeginaaGreatDoor

/-! ## Copy -/
namespace Go.Proofs.YtpkcklpjbeginaaGreatDoor
open Go.RowKit

/-- What holds at the head of round k of a loop that fills row g with copies. -/
structure CopyInv (l : List T) (w wr : World) (g : Nat) (n k : Nat) (cur : Array Value) (bs : List Nat) : Prop where
 row : Blk wr g 27 cur
 size : cur.size = 10 * n
 own : TL.Own wr (l.take k) cur.toList bs
 nodup : bs.Nodup
 from_ : ∀ b ∈ bs, g < b ∧ b < wr.heap.size
 below : Below w.heap.size w wr

theorem CopyInv.step {l : List T} {w wr w1 w2 : World} {g n k : Nat} {cur : Array Value} {bs bs2 : List Nat} {s : T} {B : Option Addr} {c : Nat} {X : Obj}
  (hinv : CopyInv l w wr g n k cur bs) (hn : n = l.length) (hs : l[k]? = some s) (hbel : Below (wr.alloc X).heap.size (wr.alloc X) w1) (hown : T.Own w1 s B bs2) (hnd : bs2.Nodup)
  (hfr : ∀ b ∈ bs2, (wr.alloc X).heap.size ≤ b ∧ b < w1.heap.size) (hrow : Blk w2 g 27 (splice cur.toList (k * 10) (s.hd.cells (.slice B s.subs.length c))).toArray)
  (hg : w1.grownBy w2 (some g)) (hz : w2.heap.size = w1.heap.size) (hgw : w.heap.size ≤ g) : CopyInv l w w2 g n (k + 1) (splice cur.toList (k * 10) (s.hd.cells (.slice B s.subs.length c))).toArray (bs ++ bs2) := by
 have hk : k < l.length := (List.getElem?_eq_some_iff.1 hs).1
 have hgr := hinv.row.lt
 have hzz := hbel.size
 rw [World.size_alloc] at hfr hbel hzz
 have S : Same (fun b => b ≠ g ∧ b < wr.heap.size) wr w2 := fun b hb => by
  rw [hg.block b (by omega) (by simp [hb.1]), hbel.block b (by omega), Below.heap_alloc _ _ _ hb.2]
 have S1 : Same (· ∈ bs2) w1 w2 := fun b hb => hg.block b (hfr b hb).2 (by have := (hfr b hb).1; simp; omega)
 refine ⟨hrow, ?_, ?_, ?_, ?_, ?_⟩
 ·have := length_splice cur.toList (k * 10) (s.hd.cells (.slice B s.subs.length c)) (by have := hinv.size; simp [Hd.cells]; omega)
  simpa [hinv.size] using this
 ·have h1 := TL.Own.snoc (c := c) (tail := cur.toList.drop (k * 10 + 10)) (hown.same S1) (hinv.own.same (S.mono fun b hb => ⟨by have := (hinv.from_ b hb).1; omega, (hinv.from_ b hb).2⟩))
  rw [show l.take (k + 1) = l.take k ++ [s] from by rw [List.take_add_one, hs]; rfl]
  rw [show 10 * (l.take k).length = k * 10 from by rw [List.length_take]; omega] at h1
  simpa [splice, Hd.cells_length] using h1
 ·refine List.nodup_append.2 ⟨hinv.nodup, hnd, fun a ha b hb => ?_⟩
  have := (hinv.from_ a ha).2
  have := (hfr b hb).1
  omega
 ·intro b hb
  rcases List.mem_append.1 hb with hb | hb
  ·have := hinv.from_ b hb; omega
  ·have := hfr b hb; omega
 ·refine ⟨?_, ?_, ?_, ?_, fun b hb => ?_⟩
  ·exact (hg.os.trans hbel.os).trans hinv.below.os
  ·exact (hg.tape.trans hbel.tape).trans hinv.below.tape
  ·exact (hg.output.trans hbel.output).trans hinv.below.output
  ·have := hinv.below.size; omega
  ·rw [S b ⟨by omega, by have := hinv.below.size; omega⟩, hinv.below.block b hb]

set_option maxRecDepth 100000 in
set_option maxHeartbeats 1000000 in
theorem copy_any (N : Nat) : ∀ (t : T) (A : Option Addr) (c : Nat) (w : World), t.nodes ≤ N → N ≤ 1000000 → T.In w (· < w.heap.size) t A →
  Calls Tryz.prog 54 #[.agg (t.hd.cells (.slice A t.subs.length c)).toArray] w fun e w' =>
   ∃ B c' bs, e = .returned (.agg (t.hd.cells (.slice B t.subs.length c')).toArray) ∧ T.Own w' t B bs ∧ bs.Nodup ∧ (∀ b ∈ bs, w.heap.size ≤ b ∧ b < w'.heap.size) ∧ Below w.heap.size w w' := by
 induction N with
 | zero => intro t A c w h; have := t.nodes_pos; omega
 | succ N ih =>
  intro t A c w hN hM hin
  obtain ⟨h, l⟩ := t
  obtain ⟨kind, s0, s1, s2, s3, num, mn, mx, bare⟩ := h
  have hlen := T.length_lt (T.mk ⟨kind, s0, s1, s2, s3, num, mn, mx, bare⟩ l)
  simp only [T.hd, T.subs, Hd.cells] at hlen ⊢
  by_cases hl : l = []
  ·subst hl
   have h0 : ((([] : List T).length : Int) == 0) = true := rfl
   go_enter Tryz.func54, Tryz.ntmps54
   go_wp2_with fail
   refine bodyPost_ret (v := .agg #[.int .i64 kind, .int .u64 s0, .int .u64 s1, .int .u64 s2, .int .u64 s3, .slice none 0 0, .int .i64 num, .int .i64 mn, .int .i64 mx, .bool bare])
    (by simp [results, Tryz.results54, go_sem]) rfl ?_
   exact ⟨none, 0, [], rfl, .inl ⟨rfl, rfl⟩, List.nodup_nil, by simp, ((Below.refl _ _).alloc (Nat.le_refl _) _).alloc (by simp) _⟩
  ·have h0 : ((l.length : Int) == 0) = false := by simp [hl]
   have h1 : (l.length : Int) ≤ 1000000 := by omega
   obtain ⟨i0, hi, hz0, hz1, hz2⟩ := info_parts Tryz.infoNode
   have hmk := fun W => run_make_rowN (P := Tryz.prog) 25 27 i0 _ Tryz.underlying25 hi hz0 .i64 .i64 l.length l.length (Nat.le_refl _) (by rw [hz2]; omega) (by omega) W
   rw [hz1] at hmk
   have H := hide (And.intro hi (And.intro hz0 (And.intro hz1 hz2)))
   clear hi hz0 hz1 hz2
   go_enter Tryz.func54, Tryz.ntmps54
   go_wp2_with fail
   go_loopw [19] (fun kv wr => ∃ (k : Nat) (cur : Array Value) (bs : List Nat), kv = .int .i64 k ∧ k ≤ l.length ∧ CopyInv l w wr (w.heap.size + 2) l.length k cur bs ∧
     Blk wr w.heap.size 27 #[.int .i64 kind, .int .u64 s0, .int .u64 s1, .int .u64 s2, .int .u64 s3, .slice A l.length c, .int .i64 num, .int .i64 mn, .int .i64 mx, .bool bare] ∧
     Blk wr (w.heap.size + 1) 27 zeroCells) (fun kv _ => l.length - (intOf kv).toNat)
   case atStart =>
    refine ⟨0, _, [], rfl, Nat.zero_le _, ⟨by simpa using Blk.new ((w.alloc _).alloc _) _ _, ?_, rfl, List.nodup_nil, by simp, ?_⟩, ?_, ?_⟩
    ·simp [madeCells]; omega
    ·exact (((Below.refl _ _).alloc (Nat.le_refl _) _).alloc (by simp) _).alloc (by simp; omega) _
    ·exact ((Blk.new _ _ _).alloc _).alloc _
    ·have := (Blk.new (w.alloc (.cells #[.int .i64 kind, .int .u64 s0, .int .u64 s1, .int .u64 s2, .int .u64 s3, .slice A l.length c, .int .i64 num, .int .i64 mn, .int .i64 mx, .bool bare] 27)) 27 zeroCells).alloc (.cells (madeCells zeroCells (l.length * 10)) 27)
     rw [World.size_alloc] at this
     exact this
   case round =>
    obtain ⟨k, cur, bs, rfl, hk, hinv, hb0, hb1⟩ := hrel
    have c0 := hb0.cell
    have c1 : ∀ i : Nat, wr.cell? ⟨w.heap.size + 1, i, none⟩ = #[Value.int .i64 0, .int .u64 0, .int .u64 0, .int .u64 0, .int .u64 0, .slice none 0 0, .int .i64 0, .int .i64 0, .int .i64 0, .bool false][i]? := hb1.cell
    have f0 := hb0.frozen
    have f1 := hb1.frozen
    have z0 : w.heap.size < wr.heap.size := hb0.lt
    have z1 : w.heap.size + 1 < wr.heap.size := hb1.lt
    have z2 : w.heap.size + 2 < wr.heap.size := hinv.row.lt
    by_cases hlt : k < l.length
    ·have hs := List.getElem?_eq_getElem hlt
     obtain ⟨b, o, B, c', rfl, hbk, hcs, hsub⟩ := TL.In.at_ (T.In_iff.1 hin) hs
     generalize l[k] = s at *
     obtain ⟨n0, n1, n2, n3, n4, n5, n6, n7, n8, n9⟩ := (hcs.same (same_of_below hinv.below) hbk).node
     have HS := hide hs
     clear hs
     have hsn : s.nodes ≤ N := by
      have := TL.nodes_mem (List.mem_of_getElem? HS.out)
      simp only [T.nodes] at hN
      omega
     go_wp2_with fail
     refine (ih s B c' _ hsn (by omega) (hsub.same (fun x hx => ?_) (fun x hx => ?_))).mono ?_
     ·rw [Below.heap_alloc wr _ x (Nat.lt_of_lt_of_le hx hinv.below.size)]
      exact hinv.below.block x hx
     ·simp; have := hinv.below.size; omega
     rintro e w1 ⟨B', c2, bs2, rfl, hown2, hnd2, hfr2, hbel2⟩
     have hrow1 : Blk w1 (w.heap.size + 2) 27 cur := (hinv.row.alloc _).below hbel2 (by simp; omega)
     go_wp2_with (refine wpList_store_row rfl _ _ _ rfl (w.heap.size + 2) (k * 10) _ cur _ rfl rfl hrow1 rfl (by rw [hinv.size]; simp [Hd.cells]; omega) (cells_one _ _ _ _) ?_)
     intro w2 hrow2 hg2 hz2
     go_wp2_with fail
     go_roundw
     case rel =>
      refine ⟨k + 1, _, bs ++ bs2, by go_num, by omega, hinv.step rfl HS.out hbel2 hown2 hnd2 hfr2 hrow2.out hg2 hz2 (by omega), ?_, ?_⟩
      ·exact ((hb0.alloc _).below hbel2 (by simp; omega)).grown hg2 (by simp)
      ·exact ((hb1.alloc _).below hbel2 (by simp; omega)).grown hg2 (by simp)
     case measure => simp [intOf]; omega
    ·have hke : k = l.length := by omega
     have HI := hide hinv
     clear hinv
     subst hke
     go_wp2_with fail
     have hinv := HI.out
     refine bodyPost_ret (v := .agg #[.int .i64 kind, .int .u64 s0, .int .u64 s1, .int .u64 s2, .int .u64 s3, .slice (some ⟨w.heap.size + 2, 0, none⟩) l.length l.length, .int .i64 num, .int .i64 mn, .int .i64 mx, .bool bare])
      (by simp [results, Tryz.results54, go_sem, c1]) rfl ?_
     refine ⟨_, _, (w.heap.size + 2) :: bs, rfl, .inr ⟨w.heap.size + 2, cur, bs, rfl, rfl, hinv.row.same (ok := fun b => w.heap.size + 2 ≤ b) ?_ (Nat.le_refl _), (by simpa using hinv.own : TL.Own wr l cur.toList bs).same (Same.mono (ok := fun b => w.heap.size + 2 ≤ b) ?_ fun b hb => ?_)⟩, ?_, ?_, ?_⟩
     ·repeat refine Same.set ?_ (by simp) _
      exact Same.refl _ _
     ·repeat refine Same.set ?_ (by simp) _
      exact Same.refl _ _
     ·have := hinv.from_ b hb; omega
     ·exact List.nodup_cons.2 ⟨fun hb => by have := hinv.from_ _ hb; omega, hinv.nodup⟩
     ·intro b hb
      simp only [World.size_setCell]
      rcases List.mem_cons.1 hb with rfl | hb
      ·omega
      ·have := hinv.from_ b hb; omega
     ·repeat refine Below.setCell ?_ (by simp) _
      exact hinv.below

end Go.Proofs.YtpkcklpjbeginaaGreatDoor

/-! ## Turn -/
namespace Go.Proofs.YtpkcklpjbeginaaGreatDoor
open Go.RowKit

def Hd.turn (h : Hd) : Hd := if h.kind = 3 then { h with kind := 4 } else if h.kind = 4 then { h with kind := 3 } else h
mutual
def T.turn : T → T
 | .mk h l => .mk h.turn (if h.kind = 5 then (TL.turn l).reverse else TL.turn l)
def TL.turn : List T → List T
 | [] => []
 | t :: ts => t.turn :: TL.turn ts
end
theorem TL.turn_eq : ∀ l : List T, TL.turn l = l.map T.turn
 | [] => rfl
 | t :: ts => by simp [TL.turn, TL.turn_eq ts]
theorem T.turn_subs_length (t : T) : t.turn.subs.length = t.subs.length := by
 cases t
 simp only [T.turn, T.subs, TL.turn_eq]
 split <;> simp

/-- A list taken apart at a place. -/
theorem TL.Own.split {w : World} {s : T} {post : List T} : ∀ {pre : List T} {xs : List Value} {bs : List Nat}, TL.Own w (pre ++ s :: post) xs bs →
  ∃ B c b1 b2 b3 rest, xs.drop (pre.length * 10) = s.hd.cells (.slice B s.subs.length c) ++ rest ∧ bs = b1 ++ (b2 ++ b3) ∧ T.Own w s B b2 ∧
   ∀ (w' : World) (s' : T) (b2' : List Nat), Same (fun b => b ∈ b1 ∨ b ∈ b3) w w' → T.Own w' s' B b2' → s'.subs.length = s.subs.length →
    TL.Own w' (pre ++ s' :: post) (splice xs (pre.length * 10) (s'.hd.cells (.slice B s.subs.length c))) (b1 ++ (b2' ++ b3))
 | [], xs, bs, ⟨B, c, b1, b2, rest, h1, h2, h3, h4⟩ => by
  refine ⟨B, c, [], b1, b2, rest, by simpa using h1, by simpa using h2, h3, fun w' s' b2' hs ho hl => ?_⟩
  refine ⟨B, c, b2', b2, rest, ?_, by simp, ho, h4.same (hs.mono fun b hb => .inr hb)⟩
  subst h1
  rw [hl]
  simp [splice, Hd.cells_length]
  exact List.drop_left' (Hd.cells_length _ _)
 | t :: pre, xs, bs, ⟨B0, c0, q1, q2, rest0, h1, h2, h3, h4⟩ => by
  obtain ⟨B, c, b1, b2, b3, rest, k1, k2, k3, k4⟩ := TL.Own.split (pre := pre) h4
  subst h1; subst k2; subst h2
  have hl10 : (t.hd.cells (.slice B0 t.subs.length c0)).length = 10 := Hd.cells_length _ _
  have e : (t :: pre).length * 10 = (t.hd.cells (.slice B0 t.subs.length c0)).length + pre.length * 10 := by rw [hl10]; simp; omega
  refine ⟨B, c, q1 ++ b1, b2, b3, rest, ?_, by simp, k3, fun w' s' b2' hs ho hl => ?_⟩
  ·rw [e, ← List.drop_drop, List.drop_left]
   exact k1
  ·refine ⟨B0, c0, q1, b1 ++ (b2' ++ b3), _, ?_, by simp, h3.same (hs.mono fun b hb => .inl (by simp [hb])), k4 w' s' b2' (hs.mono fun b hb => hb.imp (fun h => by simp [h]) id) ho hl⟩
   rw [splice, e, List.take_length_add_append, Nat.add_assoc, List.append_assoc]
   congr 1
   rw [splice, ← List.drop_drop, List.drop_left]

end Go.Proofs.YtpkcklpjbeginaaGreatDoor

/-! ## Turn2 -/
namespace Go.Proofs.YtpkcklpjbeginaaGreatDoor
open Go.RowKit

theorem Blk.set_ {w : World} {g : Nat} {t : TypeId} {cs : Array Value} (h : Blk w g t cs) (i : Nat) (u : Value) : Blk (w.setCell ⟨g, i, none⟩ u) g t (cs.setIfInBounds i u) := by
 unfold Blk at h ⊢
 simp [World.setCell, Array.getElem?_modify, h]

/-- What holds at the head of a round: the first k trees of m are turned; pb is the node's own block. -/
structure TurnInv (bs0 : List Nat) (m : List T) (w wr : World) (pb g n k : Nat) (pcur cur : Array Value) (bs : List Nat) : Prop where
 row : Blk wr g 27 cur
 own : TL.Own wr ((m.take k).map T.turn ++ m.drop k) cur.toList bs
 nodup : bs.Nodup
 sub : ∀ b ∈ bs, b ∈ bs0
 node : Blk wr pb 27 pcur
 only : Only (fun b => b = pb ∨ b = g ∨ b ∈ bs0) w wr

theorem TurnInv.step {bs0 : List Nat} {m : List T} {w wr w1 : World} {pb g n k : Nat} {pcur cur cur1 : Array Value} {bs b1 b2 b3 b2' : List Nat} {s : T} {B : Option Addr} {c : Nat} (h : TurnInv bs0 m w wr pb g n k pcur cur bs) (hs : m[k]? = some s)
  (hgp : g ≠ pb) (hg0 : g ∉ bs0) (hp0 : pb ∉ bs0) (hlt : ∀ b ∈ bs0, b < wr.heap.size)
  (hb : bs = b1 ++ (b2 ++ b3)) (hre : ∀ (w' : World) (s' : T) (b2' : List Nat), Same (fun b => b ∈ b1 ∨ b ∈ b3) wr w' → T.Own w' s' B b2' → s'.subs.length = s.subs.length →
    TL.Own w' ((m.take k).map T.turn ++ s' :: m.drop (k + 1)) (splice cur.toList (k * 10) (s'.hd.cells (.slice B s.subs.length c))) (b1 ++ (b2' ++ b3)))
  (hon : Only (fun b => b = g ∨ b ∈ b2) wr w1) (hrow : Blk w1 g 27 cur1) (hcur : cur1.toList = splice cur.toList (k * 10) (s.turn.hd.cells (.slice B s.subs.length c)))
  (hsub : ∀ b ∈ b2', b ∈ b2) (hnd : b2'.Nodup) (hown : T.Own w1 s.turn B b2') : TurnInv bs0 m w w1 pb g n (k + 1) pcur cur1 (b1 ++ (b2' ++ b3)) := by
 subst hb
 have hk : k < m.length := (List.getElem?_eq_some_iff.1 hs).1
 have hnd0 := List.nodup_append.1 h.nodup
 have hnd1 := List.nodup_append.1 hnd0.2.1
 have S : Same (fun b => b ∈ b1 ∨ b ∈ b3) wr w1 := hon.same fun b hb => by
  have hb0 : b ∈ bs0 := h.sub b (by rcases hb with hb | hb <;> simp [hb])
  refine ⟨hlt b hb0, fun hx => ?_⟩
  rcases hx with rfl | hx
  ·exact hg0 hb0
  ·rcases hb with hb | hb
   ·exact hnd0.2.2 b hb b (by simp [hx]) rfl
   ·exact hnd1.2.2 b hx b hb rfl
 refine ⟨hrow, ?_, ?_, ?_, ?_, ?_⟩
 ·rw [show (m.take (k + 1)).map T.turn ++ m.drop (k + 1) = (m.take k).map T.turn ++ s.turn :: m.drop (k + 1) from by rw [List.take_add_one, hs]; simp]
  rw [hcur]
  exact hre w1 s.turn b2' S hown (T.turn_subs_length s)
 ·refine List.nodup_append.2 ⟨hnd0.1, List.nodup_append.2 ⟨hnd, hnd1.2.1, fun x hx y hy => hnd1.2.2 x (hsub x hx) y hy⟩, fun x hx y hy => hnd0.2.2 x hx y ?_⟩
  rcases List.mem_append.1 hy with hy | hy
  ·simp [hsub y hy]
  ·simp [hy]
 ·intro b hb
  refine h.sub b ?_
  simp only [List.mem_append] at hb ⊢
  rcases hb with hb | hb | hb
  ·exact .inl hb
  ·exact .inr (.inl (hsub b hb))
  ·exact .inr (.inr hb)
 ·refine (hon.block pb h.node.lt fun hx => ?_).trans h.node
  rcases hx with hx | hx
  ·exact hgp hx.symm
  ·exact hp0 (h.sub pb (by simp [hx]))
 ·exact h.only.then hon fun b _ hx => by
   rcases hx with hx | hx
   ·exact .inr (.inl hx)
   ·exact .inr (.inr (h.sub b (by simp [hx])))

end Go.Proofs.YtpkcklpjbeginaaGreatDoor

/-! ## Turn3 -/
namespace Go.Proofs.YtpkcklpjbeginaaGreatDoor
open Go.RowKit

theorem splice_all {cur cs : List Value} (h : cs.length = cur.length) : splice cur 0 cs = cs := by
 simp [splice, h]

/-- A fresh tree: what a function that makes a tree hands back. -/
def Fresh (t : T) (w : World) (e : Ending) (w' : World) : Prop :=
 ∃ B c bs, e = .returned (.agg (t.hd.cells (.slice B t.subs.length c)).toArray) ∧ T.Own w' t B bs ∧ bs.Nodup ∧ (∀ b ∈ bs, w.heap.size ≤ b ∧ b < w'.heap.size) ∧ Below w.heap.size w w'

end Go.Proofs.YtpkcklpjbeginaaGreatDoor
