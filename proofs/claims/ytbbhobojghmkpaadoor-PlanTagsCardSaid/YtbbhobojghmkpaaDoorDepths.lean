/- tree.Groups, tree.Depth: folds over a tree. -/
import Derived.Test.YtbbhobojghmkpaaDoorProg
import Derived.Test.YtbbhobojghmkpaaDoorMem
import Derived.Outline
set_option linter.unusedSimpArgs false
set_option linter.unusedVariables false
namespace Go.Proofs.YtbbhobojghmkpaaDoor
open Go.RowKit

/-- Go's max and min. -/
def mx2 (x y : Int) : Int := if x < y then y else x
def mn2 (x y : Int) : Int := if y < x then y else x
theorem mx2_eq (x y : Int) : (if x < y then y else x) = mx2 x y := rfl
theorem mn2_eq (x y : Int) : (if y < x then y else x) = mn2 x y := rfl

mutual
def T.groups : T → Int
  | .mk h l => TL.groups l (if h.kind = 7 then mx2 0 h.num else 0)
def TL.groups : List T → Int → Int
  | [], n => n
  | t :: ts, n => TL.groups ts (mx2 n t.groups)
end
theorem TL.groups_eq : ∀ (l : List T) (n : Int), TL.groups l n = l.foldl (fun n s => mx2 n s.groups) n
  | [], _ => rfl
  | t :: ts, n => by simp only [TL.groups, List.foldl_cons]; exact TL.groups_eq ts _

structure FoldInv (l : List T) (f : Int → T → Int) (w wr : World) (g : Nat) (cs : Array Value) (k : Nat) (init cur : Int) : Prop where
  le : k ≤ l.length
  eq : cur = (l.take k).foldl f init
  box : Blk wr g 27 cs
  below : Below w.heap.size w wr

theorem fold_take {l : List T} {f : Int → T → Int} {init : Int} {k : Nat} {s : T} (hs : l[k]? = some s) : (l.take (k + 1)).foldl f init = f ((l.take k).foldl f init) s := by
  rw [List.take_add_one, hs]
  simp

set_option maxRecDepth 100000 in
set_option maxHeartbeats 1000000 in
theorem groups_any (N : Nat) : ∀ (t : T) (A : Option Addr) (c : Nat) (w : World), t.nodes ≤ N → N ≤ 1000000 → T.In w (· < w.heap.size) t A →
    Calls Tryd.prog 34 #[.agg (t.hd.cells (.slice A t.subs.length c)).toArray] w fun e w' => e = .returned (.int .i64 t.groups) ∧ Below w.heap.size w w' := by
  induction N with
  | zero => intro t A c w h; have := t.nodes_pos; omega
  | succ N ih =>
    intro t A c w hN hM hin
    obtain ⟨h, l⟩ := t
    obtain ⟨kind, s0, s1, s2, s3, num, mn, mx, bare⟩ := h
    have hlen := T.length_lt (T.mk ⟨kind, s0, s1, s2, s3, num, mn, mx, bare⟩ l)
    simp only [T.nodes] at hN
    simp only [T.nodes, T.hd, T.subs, Hd.cells] at hlen ⊢
    obtain ⟨init, hinit⟩ : ∃ n, n = (if kind = 7 then mx2 0 num else 0 : Int) := ⟨_, rfl⟩
    have hgoal : (T.mk ⟨kind, s0, s1, s2, s3, num, mn, mx, bare⟩ l).groups = l.foldl (fun n s => mx2 n s.groups) init := by rw [hinit, T.groups, TL.groups_eq]
    rw [hgoal]
    clear hgoal
    by_cases k7 : kind = 7
    · subst k7
      have hi7 : (if 0 < num then num else 0) = init := by rw [hinit]; rfl
      clear hinit
      go_enter Tryd.func34, Tryd.ntmps34
      go_wp2_with fail
      clear hi7
      go_loopw [3, 16] (fun cv kv wr => ∃ (k : Nat) (cur : Int), kv = .int .i64 k ∧ cv = .int .i64 cur ∧ FoldInv l (fun n s => mx2 n s.groups) w wr w.heap.size #[.int .i64 7, .int .u64 s0, .int .u64 s1, .int .u64 s2, .int .u64 s3, .slice A l.length c, .int .i64 num, .int .i64 mn, .int .i64 mx, .bool bare] k init cur)
        (fun _ kv _ => l.length - (intOf kv).toNat)
      case atStart => exact ⟨0, init, rfl, rfl, ⟨Nat.zero_le _, rfl, Blk.new _ _ _, (Below.refl _ _).alloc (Nat.le_refl _) _⟩⟩
      case round =>
        obtain ⟨k, cur, rfl, rfl, hinv⟩ := hrel
        have hk := hinv.le
        have c0 := hinv.box.cell
        have z0 := hinv.box.lt
        by_cases hlt : k < l.length
        · have g1 : decide ((k : Int) < (l.length : Int)) = true := by simp; omega
          have hs := List.getElem?_eq_getElem hlt
          obtain ⟨b, o, B, c', rfl, hbk, hcs, hsub⟩ := TL.In.at_ (T.In_iff.1 hin) hs
          have hmem := List.getElem_mem hlt
          have hsn := TL.nodes_mem hmem
          generalize l[k] = s at *
          obtain ⟨n0, n1, n2, n3, n4, n5, n6, n7, n8, n9⟩ := (hcs.same (same_of_below hinv.below) hbk).node
          have HS := hide hs
          have HI := hide hinv
          have hbx := hide (hinv.below)
          have HX := hide (fun y hy => ih s B c' y (by omega) (by omega) hy)
          have HB := hide (hsub.same (ok' := (· < wr.heap.size)) (same_of_below hinv.below) (fun x hx => Nat.lt_of_lt_of_le hx hinv.below.size))
          clear hs hcs hinv
          go_wp2_with fail
          refine (HX.out _ (HB.out.same (fun b hb => Below.heap_alloc _ _ _ hb) (fun b hb => by simp; omega))).mono ?_
          rintro e w1 ⟨rfl, hb1⟩
          have hb1' : Below wr.heap.size wr w1 := ((Below.refl _ _).alloc (Nat.le_refl _) _).trans (hb1.mono (by simp))
          have hm : (if cur < s.groups then s.groups else cur) = mx2 cur s.groups := rfl
          generalize mx2 cur s.groups = nxt at hm
          have HM := hide hm
          have HH := hide hb1'
          clear hb1 hb1'
          go_wp2_with fail
          go_roundw
          case rel => exact ⟨k + 1, nxt, by go_num, rfl, ⟨hlt, by rw [fold_take HS.out, ← HI.out.eq]; exact HM.out.symm, HI.out.box.below HH.out z0, hbx.out.trans (HH.out.mono hbx.out.size)⟩⟩
          case measure => simp [intOf]; omega
        · have g1 : decide ((k : Int) < (l.length : Int)) = false := by simp; omega
          go_wp2_with fail
          go_ret
          exact ⟨by rw [hinv.eq, List.take_of_length_le (by omega)]; rfl, hinv.below⟩
    · have e7 : (kind == 7) = false := by simp [k7]
      rw [if_neg k7] at hinit
      subst hinit
      go_enter Tryd.func34, Tryd.ntmps34
      go_wp2_with fail
      go_loopw [3, 16] (fun cv kv wr => ∃ (k : Nat) (cur : Int), kv = .int .i64 k ∧ cv = .int .i64 cur ∧ FoldInv l (fun n s => mx2 n s.groups) w wr w.heap.size #[.int .i64 kind, .int .u64 s0, .int .u64 s1, .int .u64 s2, .int .u64 s3, .slice A l.length c, .int .i64 num, .int .i64 mn, .int .i64 mx, .bool bare] k 0 cur)
        (fun _ kv _ => l.length - (intOf kv).toNat)
      case atStart => exact ⟨0, 0, rfl, rfl, ⟨Nat.zero_le _, rfl, Blk.new _ _ _, (Below.refl _ _).alloc (Nat.le_refl _) _⟩⟩
      case round =>
        obtain ⟨k, cur, rfl, rfl, hinv⟩ := hrel
        have hk := hinv.le
        have c0 := hinv.box.cell
        have z0 := hinv.box.lt
        by_cases hlt : k < l.length
        · have g1 : decide ((k : Int) < (l.length : Int)) = true := by simp; omega
          have hs := List.getElem?_eq_getElem hlt
          obtain ⟨b, o, B, c', rfl, hbk, hcs, hsub⟩ := TL.In.at_ (T.In_iff.1 hin) hs
          have hmem := List.getElem_mem hlt
          have hsn := TL.nodes_mem hmem
          generalize l[k] = s at *
          obtain ⟨n0, n1, n2, n3, n4, n5, n6, n7, n8, n9⟩ := (hcs.same (same_of_below hinv.below) hbk).node
          have HS := hide hs
          have HI := hide hinv
          have hbx := hide (hinv.below)
          have HX := hide (fun y hy => ih s B c' y (by omega) (by omega) hy)
          have HB := hide (hsub.same (ok' := (· < wr.heap.size)) (same_of_below hinv.below) (fun x hx => Nat.lt_of_lt_of_le hx hinv.below.size))
          clear hs hcs hinv
          go_wp2_with fail
          refine (HX.out _ (HB.out.same (fun b hb => Below.heap_alloc _ _ _ hb) (fun b hb => by simp; omega))).mono ?_
          rintro e w1 ⟨rfl, hb1⟩
          have hb1' : Below wr.heap.size wr w1 := ((Below.refl _ _).alloc (Nat.le_refl _) _).trans (hb1.mono (by simp))
          have hm : (if cur < s.groups then s.groups else cur) = mx2 cur s.groups := rfl
          generalize mx2 cur s.groups = nxt at hm
          have HM := hide hm
          have HH := hide hb1'
          clear hb1 hb1'
          go_wp2_with fail
          go_roundw
          case rel => exact ⟨k + 1, nxt, by go_num, rfl, ⟨hlt, by rw [fold_take HS.out, ← HI.out.eq]; exact HM.out.symm, HI.out.box.below HH.out z0, hbx.out.trans (HH.out.mono hbx.out.size)⟩⟩
          case measure => simp [intOf]; omega
        · have g1 : decide ((k : Int) < (l.length : Int)) = false := by simp; omega
          go_wp2_with fail
          go_ret
          exact ⟨by rw [hinv.eq, List.take_of_length_le (by omega)]; rfl, hinv.below⟩
end Go.Proofs.YtbbhobojghmkpaaDoor
