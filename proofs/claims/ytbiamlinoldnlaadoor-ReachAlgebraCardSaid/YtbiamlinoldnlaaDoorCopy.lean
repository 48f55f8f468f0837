/- tree.Copy: the same tree in memory of its own. -/
import Derived.Test.YtbiamlinoldnlaaDoorGrow
namespace Go.Proofs.YtbiamlinoldnlaaDoor
open Go.RowKit

/-- What holds at the head of round k of a loop that fills row g with copies. -/
structure CopyInv (l : List T) (w wr : World) (g : Nat) (n k : Nat) (cur : Array Value) (bs : List Nat) : Prop where
  row : Blk wr g 27 cur
  size : cur.size = 10 * n
  own : TL.Own wr (l.take k) cur.toList bs
  nodup : bs.Nodup
  from_ : ∀ b ∈ bs, g < b ∧ b < wr.heap.size
  below : Below w.heap.size w wr

theorem CopyInv.step {l : List T} {w wr w1 w2 : World} {g n k : Nat} {cur : Array Value} {bs bs2 : List Nat} {s : T} {B : Option Addr} {c : Nat} {X : Obj}
    (hinv : CopyInv l w wr g n k cur bs) (hn : n = l.length) (hs : l[k]? = some s) (hbel : Below (wr.alloc X).heap.size (wr.alloc X) w1) (hown : T.Own w1 s B bs2) (hnd : bs2.Nodup)
    (hfr : ∀ b ∈ bs2, (wr.alloc X).heap.size ≤ b ∧ b < w1.heap.size) (hrow : Blk w2 g 27 (splice cur.toList (k * 10) (s.hd.cells (.slice B s.subs.length c))).toArray)
    (hg : w1.grownBy w2 (some g)) (hz : w2.heap.size = w1.heap.size) (hgw : w.heap.size ≤ g) : CopyInv l w w2 g n (k + 1) (splice cur.toList (k * 10) (s.hd.cells (.slice B s.subs.length c))).toArray (bs ++ bs2) := by
  have hk : k < l.length := (List.getElem?_eq_some_iff.1 hs).1
  have hgr := hinv.row.lt
  have hzz := hbel.size
  rw [World.size_alloc] at hfr hbel hzz
  have S : Same (fun b => b ≠ g ∧ b < wr.heap.size) wr w2 := fun b hb => by
    rw [hg.block b (by omega) (by simp [hb.1]), hbel.block b (by omega), Below.heap_alloc _ _ _ hb.2]
  have S1 : Same (· ∈ bs2) w1 w2 := fun b hb => hg.block b (hfr b hb).2 (by have := (hfr b hb).1; simp; omega)
  refine ⟨hrow, ?_, ?_, ?_, ?_, ?_⟩
  · have := length_splice cur.toList (k * 10) (s.hd.cells (.slice B s.subs.length c)) (by have := hinv.size; simp [Hd.cells]; omega)
    simpa [hinv.size] using this
  · have h1 := TL.Own.snoc (c := c) (tail := cur.toList.drop (k * 10 + 10)) (hown.same S1) (hinv.own.same (S.mono fun b hb => ⟨by have := (hinv.from_ b hb).1; omega, (hinv.from_ b hb).2⟩))
    rw [show l.take (k + 1) = l.take k ++ [s] from by rw [List.take_add_one, hs]; rfl]
    rw [show 10 * (l.take k).length = k * 10 from by rw [List.length_take]; omega] at h1
    simpa [splice, Hd.cells_length] using h1
  · refine List.nodup_append.2 ⟨hinv.nodup, hnd, fun a ha b hb => ?_⟩
    have := (hinv.from_ a ha).2
    have := (hfr b hb).1
    omega
  · intro b hb
    rcases List.mem_append.1 hb with hb | hb
    · have := hinv.from_ b hb; omega
    · have := hfr b hb; omega
  · refine ⟨?_, ?_, ?_, ?_, fun b hb => ?_⟩
    · exact (hg.os.trans hbel.os).trans hinv.below.os
    · exact (hg.tape.trans hbel.tape).trans hinv.below.tape
    · exact (hg.output.trans hbel.output).trans hinv.below.output
    · have := hinv.below.size; omega
    · rw [S b ⟨by omega, by have := hinv.below.size; omega⟩, hinv.below.block b hb]

set_option maxRecDepth 100000 in
set_option maxHeartbeats 1000000 in
theorem copy_any (N : Nat) : ∀ (t : T) (A : Option Addr) (c : Nat) (w : World), t.nodes ≤ N → N ≤ 1000000 → T.In w (· < w.heap.size) t A →
    Calls Tryd.prog 59 #[.agg (t.hd.cells (.slice A t.subs.length c)).toArray] w fun e w' =>
      ∃ B c' bs, e = .returned (.agg (t.hd.cells (.slice B t.subs.length c')).toArray) ∧ T.Own w' t B bs ∧ bs.Nodup ∧ (∀ b ∈ bs, w.heap.size ≤ b ∧ b < w'.heap.size) ∧ Below w.heap.size w w' := by
  induction N with
  | zero => intro t A c w h; have := t.nodes_pos; omega
  | succ N ih =>
    intro t A c w hN hM hin
    obtain ⟨h, l⟩ := t
    obtain ⟨kind, s0, s1, s2, s3, num, mn, mx, bare⟩ := h
    have hlen := T.length_lt (T.mk ⟨kind, s0, s1, s2, s3, num, mn, mx, bare⟩ l)
    simp only [T.hd, T.subs, Hd.cells] at hlen ⊢
    by_cases hl : l = []
    · subst hl
      have h0 : ((([] : List T).length : Int) == 0) = true := rfl
      go_enter Tryd.func59, Tryd.ntmps59
      go_wp2_with fail
      refine bodyPost_ret (v := .agg #[.int .i64 kind, .int .u64 s0, .int .u64 s1, .int .u64 s2, .int .u64 s3, .slice none 0 0, .int .i64 num, .int .i64 mn, .int .i64 mx, .bool bare])
        (by simp [results, Tryd.results59, go_sem]) rfl ?_
      exact ⟨none, 0, [], rfl, .inl ⟨rfl, rfl⟩, List.nodup_nil, by simp, ((Below.refl _ _).alloc (Nat.le_refl _) _).alloc (by simp) _⟩
    · have h0 : ((l.length : Int) == 0) = false := by simp [hl]
      have h1 : (l.length : Int) ≤ 1000000 := by omega
      obtain ⟨i0, hi, hz0, hz1, hz2⟩ := info_parts Tryd.infoNode
      have hmk := fun W => run_make_rowN (P := Tryd.prog) 25 27 i0 _ Tryd.underlying25 hi hz0 .i64 .i64 l.length l.length (Nat.le_refl _) (by rw [hz2]; omega) (by omega) W
      rw [hz1] at hmk
      have H := hide (And.intro hi (And.intro hz0 (And.intro hz1 hz2)))
      clear hi hz0 hz1 hz2
      go_enter Tryd.func59, Tryd.ntmps59
      go_wp2_with fail
      go_loopw [19] (fun kv wr => ∃ (k : Nat) (cur : Array Value) (bs : List Nat), kv = .int .i64 k ∧ k ≤ l.length ∧ CopyInv l w wr (w.heap.size + 2) l.length k cur bs ∧
          Blk wr w.heap.size 27 #[.int .i64 kind, .int .u64 s0, .int .u64 s1, .int .u64 s2, .int .u64 s3, .slice A l.length c, .int .i64 num, .int .i64 mn, .int .i64 mx, .bool bare] ∧
          Blk wr (w.heap.size + 1) 27 zeroCells) (fun kv _ => l.length - (intOf kv).toNat)
      case atStart =>
        refine ⟨0, _, [], rfl, Nat.zero_le _, ⟨by simpa using Blk.new ((w.alloc _).alloc _) _ _, ?_, rfl, List.nodup_nil, by simp, ?_⟩, ?_, ?_⟩
        · simp [madeCells]; omega
        · exact (((Below.refl _ _).alloc (Nat.le_refl _) _).alloc (by simp) _).alloc (by simp; omega) _
        · exact ((Blk.new _ _ _).alloc _).alloc _
        · have := (Blk.new (w.alloc (.cells #[.int .i64 kind, .int .u64 s0, .int .u64 s1, .int .u64 s2, .int .u64 s3, .slice A l.length c, .int .i64 num, .int .i64 mn, .int .i64 mx, .bool bare] 27)) 27 zeroCells).alloc (.cells (madeCells zeroCells (l.length * 10)) 27)
          rw [World.size_alloc] at this
          exact this
      case round =>
        obtain ⟨k, cur, bs, rfl, hk, hinv, hb0, hb1⟩ := hrel
        have c0 := hb0.cell
        have c1 : ∀ i : Nat, wr.cell? ⟨w.heap.size + 1, i, none⟩ = #[Value.int .i64 0, .int .u64 0, .int .u64 0, .int .u64 0, .int .u64 0, .slice none 0 0, .int .i64 0, .int .i64 0, .int .i64 0, .bool false][i]? := hb1.cell
        have f0 := hb0.frozen
        have f1 := hb1.frozen
        have z0 : w.heap.size < wr.heap.size := hb0.lt
        have z1 : w.heap.size + 1 < wr.heap.size := hb1.lt
        have z2 : w.heap.size + 2 < wr.heap.size := hinv.row.lt
        by_cases hlt : k < l.length
        · have hs := List.getElem?_eq_getElem hlt
          obtain ⟨b, o, B, c', rfl, hbk, hcs, hsub⟩ := TL.In.at_ (T.In_iff.1 hin) hs
          generalize l[k] = s at *
          obtain ⟨n0, n1, n2, n3, n4, n5, n6, n7, n8, n9⟩ := (hcs.same (same_of_below hinv.below) hbk).node
          have HS := hide hs
          clear hs
          have hsn : s.nodes ≤ N := by
            have := TL.nodes_mem (List.mem_of_getElem? HS.out)
            simp only [T.nodes] at hN
            omega
          go_wp2_with fail
          refine (ih s B c' _ hsn (by omega) (hsub.same (fun x hx => ?_) (fun x hx => ?_))).mono ?_
          · rw [Below.heap_alloc wr _ x (Nat.lt_of_lt_of_le hx hinv.below.size)]
            exact hinv.below.block x hx
          · simp; have := hinv.below.size; omega
          rintro e w1 ⟨B', c2, bs2, rfl, hown2, hnd2, hfr2, hbel2⟩
          have hrow1 : Blk w1 (w.heap.size + 2) 27 cur := (hinv.row.alloc _).below hbel2 (by simp; omega)
          go_wp2_with (refine wpList_store_row rfl _ _ _ rfl (w.heap.size + 2) (k * 10) _ cur _ rfl rfl hrow1 rfl (by rw [hinv.size]; simp [Hd.cells]; omega) (cells_one _ _ _ _) ?_)
          intro w2 hrow2 hg2 hz2
          go_wp2_with fail
          go_roundw
          case rel =>
            refine ⟨k + 1, _, bs ++ bs2, by go_num, by omega, hinv.step rfl HS.out hbel2 hown2 hnd2 hfr2 hrow2.out hg2 hz2 (by omega), ?_, ?_⟩
            · exact ((hb0.alloc _).below hbel2 (by simp; omega)).grown hg2 (by simp)
            · exact ((hb1.alloc _).below hbel2 (by simp; omega)).grown hg2 (by simp)
          case measure => simp [intOf]; omega
        · have hke : k = l.length := by omega
          have HI := hide hinv
          clear hinv
          subst hke
          go_wp2_with fail
          have hinv := HI.out
          refine bodyPost_ret (v := .agg #[.int .i64 kind, .int .u64 s0, .int .u64 s1, .int .u64 s2, .int .u64 s3, .slice (some ⟨w.heap.size + 2, 0, none⟩) l.length l.length, .int .i64 num, .int .i64 mn, .int .i64 mx, .bool bare])
            (by simp [results, Tryd.results59, go_sem, c1]) rfl ?_
          refine ⟨_, _, (w.heap.size + 2) :: bs, rfl, .inr ⟨w.heap.size + 2, cur, bs, rfl, rfl, hinv.row.same (ok := fun b => w.heap.size + 2 ≤ b) ?_ (Nat.le_refl _), (by simpa using hinv.own : TL.Own wr l cur.toList bs).same (Same.mono (ok := fun b => w.heap.size + 2 ≤ b) ?_ fun b hb => ?_)⟩, ?_, ?_, ?_⟩
          · repeat refine Same.set ?_ (by simp) _
            exact Same.refl _ _
          · repeat refine Same.set ?_ (by simp) _
            exact Same.refl _ _
          · have := hinv.from_ b hb; omega
          · exact List.nodup_cons.2 ⟨fun hb => by have := hinv.from_ _ hb; omega, hinv.nodup⟩
          · intro b hb
            simp only [World.size_setCell]
            rcases List.mem_cons.1 hb with rfl | hb
            · omega
            · have := hinv.from_ b hb; omega
          · repeat refine Below.setCell ?_ (by simp) _
            exact hinv.below

end Go.Proofs.YtbiamlinoldnlaaDoor
