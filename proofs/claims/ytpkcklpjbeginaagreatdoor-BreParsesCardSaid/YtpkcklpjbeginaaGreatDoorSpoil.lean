/- trawlnum.Spoil: writes over every list of a tree. -/
import Derived.Test.YtpkcklpjbeginaaGreatDoorOnly
set_option linter.unusedSimpArgs false
set_option linter.unusedVariables false
namespace Go.Proofs.YtpkcklpjbeginaaGreatDoor
open Go.RowKit

set_option maxRecDepth 100000 in
set_option maxHeartbeats 2000000 in
theorem spoil_any (N : Nat) : ∀ (t : T) (A : Option Addr) (c : Nat) (bs : List Nat) (w : World), t.nodes ≤ N → N ≤ 1000000 → T.Own w t A bs → bs.Nodup → (∀ b ∈ bs, b < w.heap.size) →
  Calls Tryz.prog 20 #[.agg (t.hd.cells (.slice A t.subs.length c)).toArray] w fun e w' => e = .returned (.tuple #[]) ∧ Only (· ∈ bs) w w' := by
 induction N with
 | zero => intro t A c bs w h; have := t.nodes_pos; omega
 | succ N ih =>
  intro t A c bs w hN hM hown hnd hlt0
  have hown' := T.Own_iff.1 hown
  obtain ⟨h, l⟩ := t
  obtain ⟨kind, s0, s1, s2, s3, num, mn, mx, bare⟩ := h
  have hlen := T.length_lt (T.mk ⟨kind, s0, s1, s2, s3, num, mn, mx, bare⟩ l)
  simp only [T.nodes] at hN
  simp only [T.nodes, T.hd, T.subs, Hd.cells] at hlen hown' ⊢
  rcases hown' with ⟨rfl, rfl⟩ | ⟨g, cur0, bs', rfl, rfl, hrow0, hrest0⟩
  ·go_enter Tryz.func20, Tryz.ntmps20
   go_wp2_with fail
   refine wp_loop_rounds 1 ?_
   rw [rounds_succ]
   go_wp2_with fail
   go_end0
   exact ⟨rfl, (Only.refl _ _).alloc _⟩
  ·have hg : g < w.heap.size := hrow0.lt
   have hng : g ∉ bs' := (List.nodup_cons.1 hnd).1
   have hnd' := (List.nodup_cons.1 hnd).2
   go_enter Tryz.func20, Tryz.ntmps20
   go_wp2_with fail
   go_loopw [6] (fun kv wr => ∃ (k : Nat) (cur : Array Value) (bs2 : List Nat), kv = .int .i64 k ∧ k ≤ l.length ∧ Blk wr g 27 cur ∧ Hid (cur.size = cur0.size) ∧ TL.Own wr (l.drop k) (cur.toList.drop (k * 10)) bs2 ∧
     bs2.Nodup ∧ (∀ b ∈ bs2, b ∈ bs') ∧ Only (· ∈ g :: bs') w wr ∧
     Blk wr w.heap.size 27 #[.int .i64 kind, .int .u64 s0, .int .u64 s1, .int .u64 s2, .int .u64 s3, .slice (some ⟨g, 0, none⟩) l.length c, .int .i64 num, .int .i64 mn, .int .i64 mx, .bool bare])
     (fun kv _ => l.length - (intOf kv).toNat)
   case atStart =>
    exact ⟨0, cur0, bs', rfl, Nat.zero_le _, hrow0.alloc _, rfl, by simpa using hrest0.same ((Same.refl _ _).alloc (fun b hb => hlt0 b (by simp [hb])) _), hnd', fun b hb => hb, (Only.refl _ _).alloc _, Blk.new _ _ _⟩
   case round =>
    obtain ⟨k, cur, bs2, rfl, hk, hrow, hsz, hrest, hnd2, hsub2, honly, hb0⟩ := hrel
    have z0 := hb0.lt
    have c0 := hb0.cell
    by_cases hlt : k < l.length
    ·have hd : l.drop k = l[k] :: l.drop (k + 1) := List.drop_eq_getElem_cons hlt
     have hsn := TL.nodes_mem (List.getElem_mem hlt)
     generalize l[k] = s at *
     rw [hd] at hrest
     obtain ⟨B, c', b1, b2, rest, hx, rfl, hs1, hs2⟩ := hrest
     have n0 := (hx ▸ hrow.cellsAt (k * 10)).left.node
     have HX := hide (And.intro hx hd)
     clear hx hd
     have hnd2' := List.nodup_append.1 hnd2
     have hb1lt : ∀ b ∈ b1, b < wr.heap.size := fun b hb => Nat.lt_of_lt_of_le (hlt0 b (by simp [hsub2 b (by simp [hb])])) honly.size
     go_wp2_with fail
     refine (ih s B c' b1 wr (by omega) (by omega) hs1 hnd2'.1 hb1lt).mono ?_
     rintro e w1 ⟨rfl, hon1⟩
     have hgb1 : g ∉ b1 := fun hb => hng (hsub2 g (by simp [hb]))
     have hrow1 : Blk w1 g 27 cur := (hon1.block g hrow.lt hgb1).trans hrow
     have hb01 : Blk w1 w.heap.size 27 #[.int .i64 kind, .int .u64 s0, .int .u64 s1, .int .u64 s2, .int .u64 s3, .slice (some ⟨g, 0, none⟩) l.length c, .int .i64 num, .int .i64 mn, .int .i64 mx, .bool bare] :=
      (hon1.block _ z0 (fun hb => by have := hlt0 _ (List.mem_cons_of_mem g (hsub2 _ (List.mem_append_left b2 hb))); omega)).trans hb0
     have c1 := hb01.cell
     have hcs : 10 * (s :: l.drop (k + 1)).length ≤ (cur.toList.drop (k * 10)).length := by
      rw [HX.out.1]
      have := TL.Own.len hs2
      simp [Hd.cells_length] at this ⊢
      omega
     have hfit : k * 10 + 10 ≤ cur.size := by
      simp at hcs
      omega
     go_wp2_with (refine wpList_store_row rfl _ _ _ rfl g (k * 10) _ cur _ rfl rfl hrow1 rfl hfit (by simp [Value.oneCell']) ?_)
     intro w2 hrow2 hg2 hz2
     have hdrop : ∀ cs : List Value, cs.length = 10 → (splice cur.toList (k * 10) cs).drop ((k + 1) * 10) = rest := fun cs hcs' => by
      have h1 : cur.toList.drop (k * 10 + 10) = rest := by
       rw [← List.drop_drop, HX.out.1, List.drop_left' (by simp [Hd.cells_length])]
      rw [← h1, splice, hcs', show (k + 1) * 10 = k * 10 + 10 from by omega]
      rw [show k * 10 + 10 = (cur.toList.take (k * 10)).length + 10 from by simp; omega, ← List.drop_drop, List.drop_left, List.drop_left' hcs']
     have hsz2 := length_splice cur.toList (k * 10)
     have HD := hide hdrop
     clear hdrop
     go_wp2_with fail
     go_roundw
     case rel =>
      refine ⟨k + 1, _, b2, by go_num, by omega, hrow2.out, ?_, ?_, hnd2'.2.1, fun b hb => hsub2 b (by simp [hb]), ?_, ?_⟩
      ·show _ = _
       rw [← hsz.out]
       simpa using hsz2 _ (by simpa using hfit)
      ·rw [List.toList_toArray, HD.out _ rfl]
       refine (hs2.same (hon1.same fun b hb => ⟨?_, fun hb' => hnd2'.2.2 b hb' b hb rfl⟩)).same fun b hb => hg2.block b ?_ (fun e => ?_)
       ·exact Nat.lt_of_lt_of_le (hlt0 b (by simp [hsub2 b (by simp [hb])])) honly.size
       ·exact Nat.lt_of_lt_of_le (Nat.lt_of_lt_of_le (hlt0 b (by simp [hsub2 b (by simp [hb])])) honly.size) hon1.size
       ·injection e with e
        subst e
        exact hng (hsub2 _ (by simp [hb]))
      ·exact (honly.then hon1 (fun b _ hb => by simp [hsub2 b (by simp [hb])])).then (Only.of_grown (bs := fun b => b = g) hg2 (fun b hb => by injection hb with hb; exact hb.symm)) (fun b _ hb => by simp [hb])
      ·exact hb01.grown hg2 (by simp; omega)
     case measure => simp [intOf]; omega
    ·go_wp2_with fail
     go_end0
     exact ⟨rfl, honly⟩
end Go.Proofs.YtpkcklpjbeginaaGreatDoor
