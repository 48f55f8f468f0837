/- Few: trawlnum.Few: has a tree at most so many nodes.
Same: trawlnum.SameNodes: are two trees alike.
CopyNode: trawlnum.CopyNode: the same tree in memory of its own, by append. -/
import Derived.Test.YtpkcklpjbeginaaGreatDoorProg
import Derived.Test.YtpkcklpjbeginaaGreatDoorMem
import Derived.Outline
import Derived.Test.YtpkcklpjbeginaaGreatDoorCheck
import Derived.Test.YtpkcklpjbeginaaGreatDoorGrow
set_option linter.unusedSimpArgs false
set_option linter.unusedVariables false
set_option linter.unnecessarySimpa false

/-! ## Few -/
namespace Go.Proofs.YtpkcklpjbeginaaGreatDoor
open Go.RowKit

mutual
def T.left : T → Int → Int
 | .mk _ l, m => TL.left l (m - 1)
def TL.left : List T → Int → Int
 | [], m => m
 | t :: ts, m => if 0 ≤ m then TL.left ts (t.left m) else m
end
theorem TL.left_neg (l : List T) (m : Int) (h : m < 0) : TL.left l m = m := by
 cases l with
 | nil => rfl
 | cons t ts => simp [TL.left]; omega
theorem T.left_eq (t : T) (m : Int) : t.left m = TL.left t.subs (m - 1) := by cases t; simp [T.left, T.subs]
mutual
theorem T.left_bd : ∀ (t : T) (m : Int), 0 ≤ m → -1 ≤ t.left m ∧ t.left m ≤ m - 1 ∧ (0 ≤ t.left m → t.left m = m - t.nodes)
 | .mk _ l, m, h => by
  have := TL.left_bd l (m - 1) (by omega)
  simp only [T.left, T.nodes]
  omega
theorem TL.left_bd : ∀ (l : List T) (m : Int), -1 ≤ m → -1 ≤ TL.left l m ∧ TL.left l m ≤ m ∧ (0 ≤ TL.left l m → TL.left l m = m - TL.nodes l)
 | [], m, h => by simp [TL.left, TL.nodes]; omega
 | t :: ts, m, h => by
  simp only [TL.left, TL.nodes]
  split
  ·rename_i h0
   have h1 := T.left_bd t m h0
   have h2 := TL.left_bd ts (t.left m) h1.1
   omega
  ·omega
end

structure LeftInv (l : List T) (w wr : World) (g : Nat) (cs : Array Value) (k : Nat) (m cur : Int) : Prop where
 le : k ≤ l.length
 eq : TL.left (l.drop k) cur = TL.left l (m - 1)
 lo : -1 ≤ cur
 hi : cur ≤ m - 1
 box : Blk wr g 27 cs
 below : Below w.heap.size w wr

set_option maxRecDepth 100000 in
set_option maxHeartbeats 1000000 in
theorem left_any (N : Nat) : ∀ (t : T) (A : Option Addr) (c : Nat) (m : Int) (w : World), t.nodes ≤ N → t.wf → 0 ≤ m → m ≤ 1000000 → T.In w (· < w.heap.size) t A →
  Calls Tryz.prog 28 #[.agg (t.hd.cells (.slice A t.subs.length c)).toArray, .int .i64 m] w fun e w' => e = .returned (.int .i64 (t.left m)) ∧ Below w.heap.size w w' := by
 induction N with
 | zero => intro t A c m w h; have := t.nodes_pos; omega
 | succ N ih =>
  intro t A c m w hN hwf hm hM hin
  rw [T.left_eq]
  obtain ⟨h, l⟩ := t
  obtain ⟨kind, s0, s1, s2, s3, num, mn, mx, bare⟩ := h
  have hlen := (T.wf_eq.1 hwf).2.1
  have hwl := (T.wf_eq.1 hwf).2.2
  simp only [T.nodes] at hN
  simp only [T.hd, T.subs, Hd.cells] at hlen hwl ⊢
  go_enter Tryz.func28, Tryz.ntmps28
  go_wp2_with fail
  go_loopw [1, 5] (fun cv kv wr => ∃ (k : Nat) (cur : Int), kv = .int .i64 k ∧ cv = .int .i64 cur ∧ LeftInv l w wr w.heap.size #[.int .i64 kind, .int .u64 s0, .int .u64 s1, .int .u64 s2, .int .u64 s3, .slice A l.length c, .int .i64 num, .int .i64 mn, .int .i64 mx, .bool bare] k m cur)
   (fun _ kv _ => l.length - (intOf kv).toNat)
  case atStart => exact ⟨0, m - 1, rfl, rfl, ⟨Nat.zero_le _, rfl, by omega, Int.le_refl _, Blk.new _ _ _, (Below.refl _ _).alloc (Nat.le_refl _) _⟩⟩
  case round =>
   obtain ⟨k, cur, rfl, rfl, hinv⟩ := hrel
   have hk := hinv.le
   have lo := hinv.lo
   have hi := hinv.hi
   have c0 := hinv.box.cell
   by_cases hlt : k < l.length
   ·have g1 : decide ((k : Int) < (l.length : Int)) = true := by simp; omega
    by_cases hc : 0 ≤ cur
    ·have g2 : decide (0 ≤ cur) = true := by simp [hc]
     have hs := List.getElem?_eq_getElem hlt
     obtain ⟨b, o, B, c', rfl, hbk, hcs, hsub⟩ := TL.In.at_ (T.In_iff.1 hin) hs
     have hmem := List.getElem_mem hlt
     have hsn := TL.nodes_mem hmem
     have hsw := TL.wf_mem hwl hmem
     have hdrop : l.drop k = l[k] :: l.drop (k + 1) := List.drop_eq_getElem_cons hlt
     have heq := hinv.eq
     rw [hdrop, TL.left, if_pos hc] at heq
     have hbd := T.left_bd l[k] cur hc
     generalize l[k] = s at *
     obtain ⟨n0, n1, n2, n3, n4, n5, n6, n7, n8, n9⟩ := (hcs.same (same_of_below hinv.below) hbk).node
     have HS := hide (And.intro hs (And.intro hdrop heq))
     clear hs hdrop heq hcs
     have z0 := hinv.below.size
     go_wp2_with fail
     refine (ih s B c' cur _ (by omega) hsw hc (by omega) (hsub.same (same_of_below hinv.below) (fun x hx => by omega))).mono ?_
     rintro e w1 ⟨rfl, hb1⟩
     have hbd' := hbd
     go_wp2_with fail
     go_roundw
     case rel => exact ⟨k + 1, s.left cur, by go_num, rfl, ⟨hlt, HS.out.2.2, hbd.1, by omega, hinv.box.below hb1 hinv.box.lt, hinv.below.trans (hb1.mono hinv.below.size)⟩⟩
     case measure => simp [intOf]; omega
    ·have g2 : decide (0 ≤ cur) = false := by simp; omega
     go_wp2_with fail
     go_ret
     exact ⟨by rw [← hinv.eq, TL.left_neg _ _ (by omega)]; rfl, hinv.below⟩
   ·have g1 : decide ((k : Int) < (l.length : Int)) = false := by simp; omega
    go_wp2_with fail
    go_ret
    exact ⟨by rw [← hinv.eq, List.drop_eq_nil_of_le (by omega)]; rfl, hinv.below⟩

set_option maxRecDepth 100000 in
theorem few_any (t : T) (A : Option Addr) (c : Nat) (m : Int) (w : World) (hwf : t.wf) (hm : 0 ≤ m) (hM : m ≤ 1000000) (hin : T.In w (· < w.heap.size) t A) :
  Calls Tryz.prog 8 #[.agg (t.hd.cells (.slice A t.subs.length c)).toArray, .int .i64 m] w fun e w' => e = .returned (.bool (decide (0 ≤ t.left m))) ∧ Below w.heap.size w w' := by
 have h1 := left_any t.nodes t A c m
 obtain ⟨h, l⟩ := t
 obtain ⟨kind, s0, s1, s2, s3, num, mn, mx, bare⟩ := h
 simp only [T.hd, T.subs, Hd.cells] at h1 ⊢
 have H := hide h1
 clear h1
 go_enter Tryz.func8, Tryz.ntmps8
 go_wp2_with fail
 refine (H.out _ (Nat.le_refl _) hwf hm hM (hin.same (fun b hb => Below.heap_alloc _ _ _ hb) (fun b hb => by simp; omega))).mono ?_
 rintro e w1 ⟨rfl, hb1⟩
 go_wp2_with fail
 go_ret
 exact ⟨rfl, ((Below.refl _ _).alloc (Nat.le_refl _) _).trans (hb1.mono (by simp))⟩

theorem few_nodes {t : T} {m : Int} (hm : 0 ≤ m) (h : decide (0 ≤ t.left m) = true) : (t.nodes : Int) ≤ m := by
 have := (T.left_bd t m hm).2.2 (by simpa using h)
 have h' : 0 ≤ t.left m := by simpa using h
 omega
end Go.Proofs.YtpkcklpjbeginaaGreatDoor

/-! ## Same -/
namespace Go.Proofs.YtpkcklpjbeginaaGreatDoor
open Go.RowKit

def Hd.same (a b : Hd) : Bool := a.kind == b.kind && (a.s0 == b.s0 && a.s1 == b.s1 && a.s2 == b.s2 && a.s3 == b.s3) && a.num == b.num && a.min == b.min && a.max == b.max && a.bare == b.bare
mutual
def T.same : T → T → Bool
 | .mk h l, .mk h' l' => h.same h' && l.length == l'.length && TL.same l l'
def TL.same : List T → List T → Bool
 | t :: ts, t' :: ts' => t.same t' && TL.same ts ts'
 | _, _ => true
end
theorem T.same_eq (a b : T) : a.same b = (a.hd.same b.hd && a.subs.length == b.subs.length && TL.same a.subs b.subs) := by cases a; cases b; rfl

set_option maxRecDepth 100000 in
set_option maxHeartbeats 2000000 in
theorem same_any (N : Nat) : ∀ (t u : T) (A B : Option Addr) (c d : Nat) (w : World), t.nodes ≤ N → N ≤ 1000000 → T.In w (· < w.heap.size) t A → T.In w (· < w.heap.size) u B →
  Calls Tryz.prog 15 #[.agg (t.hd.cells (.slice A t.subs.length c)).toArray, .agg (u.hd.cells (.slice B u.subs.length d)).toArray] w fun e w' => e = .returned (.bool (t.same u)) ∧ Below w.heap.size w w' := by
 induction N with
 | zero => intro t u A B c d w h; have := t.nodes_pos; omega
 | succ N ih =>
  intro t u A B c d w hN hM hin hin'
  rw [T.same_eq]
  obtain ⟨h, l⟩ := t
  obtain ⟨kind, s0, s1, s2, s3, num, mn, mx, bare⟩ := h
  obtain ⟨h', l'⟩ := u
  obtain ⟨kind', s0', s1', s2', s3', num', mn', mx', bare'⟩ := h'
  have hlen := T.length_lt (T.mk ⟨kind, s0, s1, s2, s3, num, mn, mx, bare⟩ l)
  simp only [T.nodes] at hN
  simp only [T.nodes, T.hd, T.subs, Hd.cells, Hd.same] at hlen ⊢
  have hns := fun w => run_neq_set w s0 s1 s2 s3 s0' s1' s2' s3'
  have hb2 : Below w.heap.size w ((w.alloc (.cells #[.int .i64 kind, .int .u64 s0, .int .u64 s1, .int .u64 s2, .int .u64 s3, .slice A l.length c, .int .i64 num, .int .i64 mn, .int .i64 mx, .bool bare] 27)).alloc
   (.cells #[.int .i64 kind', .int .u64 s0', .int .u64 s1', .int .u64 s2', .int .u64 s3', .slice B l'.length d, .int .i64 num', .int .i64 mn', .int .i64 mx', .bool bare'] 27)) := ((Below.refl _ _).alloc (Nat.le_refl _) _).alloc (by simp) _
  have HB := hide hb2
  clear hb2
  by_cases k1 : kind = kind'
  case neg =>
   have e1 : (kind != kind') = true := by simp [k1]
   have e1' : (kind == kind') = false := by simp [k1]
   go_enter Tryz.func15, Tryz.ntmps15
   go_wp2_with fail
   go_ret
   exact ⟨by simp [e1'], HB.out⟩
  subst k1
  by_cases k2 : (s0 == s0' && s1 == s1' && s2 == s2' && s3 == s3') = true
  case neg =>
   have e2 : (s0 == s0' && s1 == s1' && s2 == s2' && s3 == s3') = false := by simpa using k2
   clear k2
   go_enter Tryz.func15, Tryz.ntmps15
   go_wp2_with fail
   go_ret
   exact ⟨by simp [e2], HB.out⟩
  by_cases k3 : num = num'
  case neg =>
   have e3 : (num != num') = true := by simp [k3]
   have e3' : (num == num') = false := by simp [k3]
   go_enter Tryz.func15, Tryz.ntmps15
   go_wp2_with fail
   go_ret
   exact ⟨by simp [e3'], HB.out⟩
  subst k3
  by_cases k4 : mn = mn'
  case neg =>
   have e4 : (mn != mn') = true := by simp [k4]
   have e4' : (mn == mn') = false := by simp [k4]
   go_enter Tryz.func15, Tryz.ntmps15
   go_wp2_with fail
   go_ret
   exact ⟨by simp [e4'], HB.out⟩
  subst k4
  by_cases k5 : mx = mx'
  case neg =>
   have e5 : (mx != mx') = true := by simp [k5]
   have e5' : (mx == mx') = false := by simp [k5]
   go_enter Tryz.func15, Tryz.ntmps15
   go_wp2_with fail
   go_ret
   exact ⟨by simp [e5'], HB.out⟩
  subst k5
  by_cases k6 : bare = bare'
  case neg =>
   have e6 : (bare != bare') = true := by simp [k6]
   have e6' : (bare == bare') = false := by simp [k6]
   go_enter Tryz.func15, Tryz.ntmps15
   go_wp2_with fail
   go_ret
   exact ⟨by simp [e6'], HB.out⟩
  subst k6
  by_cases k7 : l.length = l'.length
  case neg =>
   have e7 : ((l.length : Int) != (l'.length : Int)) = true := by simp; omega
   have e7' : (l.length == l'.length) = false := by simp [k7]
   go_enter Tryz.func15, Tryz.ntmps15
   go_wp2_with fail
   go_ret
   exact ⟨by simp [e7'], HB.out⟩
  have e7 : ((l.length : Int) != (l'.length : Int)) = false := by simp; omega
  have e7' : (l.length == l'.length) = true := by simp [k7]
  go_enter Tryz.func15, Tryz.ntmps15
  go_wp2_with fail
  have HE := hide e7'
  clear e7'
  go_loopw [58] (fun kv wr => ∃ (k : Nat), kv = .int .i64 k ∧ k ≤ l'.length ∧ Hid (TL.same (l.drop k) (l'.drop k) = TL.same l l') ∧ Below w.heap.size w wr ∧
    Blk wr w.heap.size 27 #[.int .i64 kind, .int .u64 s0, .int .u64 s1, .int .u64 s2, .int .u64 s3, .slice A l'.length c, .int .i64 num, .int .i64 mn, .int .i64 mx, .bool bare] ∧
    Blk wr (w.heap.size + 1) 27 #[.int .i64 kind, .int .u64 s0', .int .u64 s1', .int .u64 s2', .int .u64 s3', .slice B l'.length d, .int .i64 num, .int .i64 mn, .int .i64 mx, .bool bare])
    (fun kv _ => l'.length - (intOf kv).toNat)
  case atStart =>
   rw [k7] at HB
   refine ⟨0, rfl, Nat.zero_le _, rfl, HB.out, (Blk.new _ _ _).alloc _, ?_⟩
   have := Blk.new (w.alloc (.cells #[.int .i64 kind, .int .u64 s0, .int .u64 s1, .int .u64 s2, .int .u64 s3, .slice A l'.length c, .int .i64 num, .int .i64 mn, .int .i64 mx, .bool bare] 27)) 27 #[.int .i64 kind, .int .u64 s0', .int .u64 s1', .int .u64 s2', .int .u64 s3', .slice B l'.length d, .int .i64 num, .int .i64 mn, .int .i64 mx, .bool bare]
   rw [World.size_alloc] at this
   exact this
  case round =>
   obtain ⟨k, rfl, hk, heq, hbel, hb0, hb1⟩ := hrel
   have z0 := hb0.lt
   have z1 := hb1.lt
   by_cases hlt : k < l'.length
   ·have hlt' : k < l.length := by omega
    have hs := List.getElem?_eq_getElem hlt'
    have hs' := List.getElem?_eq_getElem hlt
    obtain ⟨b, o, B1, c1, rfl, hbk, hcs, hsub⟩ := TL.In.at_ (T.In_iff.1 hin) hs
    obtain ⟨b', o', B2, c2, rfl, hbk', hcs', hsub'⟩ := TL.In.at_ (T.In_iff.1 hin') hs'
    have hsn := TL.nodes_mem (List.getElem_mem hlt')
    have hd1 : l.drop k = l[k] :: l.drop (k + 1) := List.drop_eq_getElem_cons hlt'
    have hd2 : l'.drop k = l'[k] :: l'.drop (k + 1) := List.drop_eq_getElem_cons hlt
    have heq' := heq.out
    rw [hd1, hd2, TL.same] at heq'
    have HQ := hide heq'
    generalize l[k] = s at *
    generalize l'[k] = s' at *
    have S := same_of_below hbel
    have q0 := fun (x : Later wr) => (hb0.below x.2 hb0.lt).cell
    have q1 := fun (x : Later wr) => (hb1.below x.2 hb1.lt).cell
    have n1 := fun (x : Later wr) => ((hcs.same S hbk).same (same_of_below x.2) (Nat.lt_of_lt_of_le hbk hbel.size)).node
    have n2 := fun (x : Later wr) => ((hcs'.same S hbk').same (same_of_below x.2) (Nat.lt_of_lt_of_le hbk' hbel.size)).node
    clear hs hs' hd1 hd2 heq' heq hcs hcs'
    have hcall := hide (fun (x : Later wr) => ih s s' B1 B2 c1 c2 x.val (by omega) (by omega) (hsub.same (S.trans ((same_of_below x.2).mono fun b hb => Nat.lt_of_lt_of_le hb hbel.size)) (fun y hy => Nat.lt_of_lt_of_le hy (Nat.le_trans hbel.size x.2.size)))
     (hsub'.same (S.trans ((same_of_below x.2).mono fun b hb => Nat.lt_of_lt_of_le hb hbel.size)) (fun y hy => Nat.lt_of_lt_of_le hy (Nat.le_trans hbel.size x.2.size))))
    clear S
    go_wp2_with fail
    refine wp_region_later (by kernel_rfl) (by kernel_rfl) ?_
    repeat (go_big_quiet_step ((exact calls_later (hcall.out _))))
    refine wpQuiet_nil ?_
    rintro w' ⟨⟨x, hx⟩, rfl⟩
    by_cases hq : s.same s' = true
    ·rw [hq]
     go_wp2_with fail
     go_roundw
     case rel =>
      have := HQ.out
      rw [hq, Bool.true_and] at this
      exact ⟨k + 1, by go_num, by omega, this, hbel.trans (hx.mono hbel.size), hb0.below hx hb0.lt, hb1.below hx hb1.lt⟩
     case measure => simp [intOf]; omega
    ·have hq' : s.same s' = false := by simpa using hq
     rw [hq']
     go_wp2_with fail
     go_ret
     refine ⟨?_, hbel.trans (hx.mono hbel.size)⟩
     have := HQ.out
     rw [hq', Bool.false_and] at this
     rw [← this]
     simp
   ·have hke : k = l'.length := by omega
    have hh := heq.out
    rw [List.drop_eq_nil_of_le (show l.length ≤ k by omega), List.drop_eq_nil_of_le (show l'.length ≤ k by omega), show TL.same [] [] = true from by simp [TL.same]] at hh
    have HQ := hide hh
    clear hh heq
    go_wp2_with fail
    go_ret
    refine ⟨?_, hbel⟩
    rw [← HQ.out]
    simp [k2, k7]
end Go.Proofs.YtpkcklpjbeginaaGreatDoor

/-! ## CopyNode -/
namespace Go.Proofs.YtpkcklpjbeginaaGreatDoor
open Go.RowKit

set_option maxRecDepth 100000 in
set_option maxHeartbeats 1000000 in
theorem copyNode_any (N : Nat) : ∀ (t : T) (A : Option Addr) (c : Nat) (w : World), t.nodes ≤ N → N ≤ 1000000 → T.In w (· < w.heap.size) t A →
  Calls Tryz.prog 9 #[.agg (t.hd.cells (.slice A t.subs.length c)).toArray] w fun e w' =>
   ∃ B c' bs, e = .returned (.agg (t.hd.cells (.slice B t.subs.length c')).toArray) ∧ T.Own w' t B bs ∧ bs.Nodup ∧ (∀ b ∈ bs, w.heap.size ≤ b ∧ b < w'.heap.size) ∧ Below w.heap.size w w' := by
 induction N with
 | zero => intro t A c w h; have := t.nodes_pos; omega
 | succ N ih =>
  intro t A c w hN hM hin
  obtain ⟨h, l⟩ := t
  obtain ⟨kind, s0, s1, s2, s3, num, mn, mx, bare⟩ := h
  have hlen := T.length_lt (T.mk ⟨kind, s0, s1, s2, s3, num, mn, mx, bare⟩ l)
  simp only [T.nodes] at hN
  simp only [T.nodes, T.hd, T.subs, Hd.cells] at hlen ⊢
  go_enter Tryz.func9, Tryz.ntmps9
  go_wp2_with fail
  go_loopw [3, 9] (fun v kv wr => ∃ (k : Nat) (bs : List Nat), kv = .int .i64 k ∧ k ≤ l.length ∧ GrowT (w.heap.size + 2) wr v (l.take k) bs ∧ Below w.heap.size w wr ∧
    Blk wr w.heap.size 27 #[.int .i64 kind, .int .u64 s0, .int .u64 s1, .int .u64 s2, .int .u64 s3, .slice A l.length c, .int .i64 num, .int .i64 mn, .int .i64 mx, .bool bare] ∧
    Blk wr (w.heap.size + 1) 27 zeroCells) (fun _ kv _ => l.length - (intOf kv).toNat)
  case atStart =>
   refine ⟨0, [], rfl, Nat.zero_le _, GrowT.nil _ _, ((Below.refl _ _).alloc (Nat.le_refl _) _).alloc (by simp) _, (Blk.new _ _ _).alloc _, ?_⟩
   have := Blk.new (w.alloc (.cells #[.int .i64 kind, .int .u64 s0, .int .u64 s1, .int .u64 s2, .int .u64 s3, .slice A l.length c, .int .i64 num, .int .i64 mn, .int .i64 mx, .bool bare] 27)) 27 zeroCells
   rw [World.size_alloc] at this
   exact this
  case round =>
   obtain ⟨k, bs, rfl, hk, hgrow, hbel, hb0, hb1⟩ := hrel
   have z0 := hb0.lt
   have z1 := hb1.lt
   by_cases hlt : k < l.length
   ·have hs := List.getElem?_eq_getElem hlt
    obtain ⟨b, o, B, c', rfl, hbk, hcs, hsub⟩ := TL.In.at_ (T.In_iff.1 hin) hs
    have hsn := TL.nodes_mem (List.getElem_mem hlt)
    generalize l[k] = s at *
    obtain ⟨n0, n1, n2, n3, n4, n5, n6, n7, n8, n9⟩ := (hcs.same (same_of_below hbel) hbk).node
    have HS := hide hs
    clear hs
    go_wp2_with fail
    refine (ih s B c' _ (by omega) (by omega) (hsub.same ((same_of_below hbel).alloc (fun x hx => ?_) _) (fun x hx => ?_))).mono ?_
    ·have := hbel.size; omega
    ·simp; have := hbel.size; omega
    rintro e w1 ⟨B', c2, bs2, rfl, hown2, hnd2, hfr2, hbel2⟩
    have hbelA : Below wr.heap.size wr w1 := ((Below.refl _ _).alloc (Nat.le_refl _) _).trans (hbel2.mono (by simp))
    rw [World.size_alloc] at hfr2
    have hz2 := hbel2.size
    rw [World.size_alloc] at hz2
    clear hbel2
    have hfr3 : ∀ (X : Obj), ∀ b ∈ bs2, w.heap.size + 2 ≤ b ∧ b < (w1.alloc X).heap.size ∧ some b ≠ u3.ownBlock ∧ b ∉ bs := fun X b hb => by
     obtain ⟨xs, q1, q2, q3, q4⟩ := hgrow
     refine ⟨?_, ?_, ?_, ?_⟩
     ·have := (hfr2 b hb).1; omega
     ·have := (hfr2 b hb).2; simp; omega
     ·intro e
      have := (q1.lt b e.symm).2
      have := (hfr2 b hb).1
      omega
     ·intro e
      have := (q4 b e).2.1
      have := (hfr2 b hb).1
      omega
    have hgA := hide (fun X => (hgrow.below hbelA).below ((Below.refl _ _).alloc (Nat.le_refl _) X))
    have hoA := hide (fun (X : Obj) => hown2.same ((Same.refl _ w1).alloc (fun b hb => (hfr2 b hb).2) X))
    have hlA : (l.take k).length < 1000000 := by rw [List.length_take]; omega
    have HH := hide (And.intro hgrow (And.intro hfr2 hbelA))
    clear hgrow hbelA hfr2
    simp only [Hd.cells]
    go_wp2_with (at_builtin; refine wpList_append_node rfl _ _ rfl (w.heap.size + 2) _ (l.take k) bs rfl (hgA.out _) s B' c2 w1.heap.size _ bs2 rfl (Blk.new _ _ _) (hoA.out _) hnd2 (hfr3 _) hlA (by simp; omega) ?_)
    intro v' w2 hgrow2 hg2
    have hz3 := hg2.size
    rw [World.size_alloc] at hz3
    obtain ⟨hgrow, hfr2, hbelA⟩ := HH.out
    have hown : ∀ g, u3.ownBlock = some g → w.heap.size + 2 ≤ g ∧ g < wr.heap.size := by
     obtain ⟨xs, q1, _⟩ := hgrow
     exact q1.lt
    have hkeep : ∀ g, g < w.heap.size + 2 → w2.heap[g]? = wr.heap[g]? := fun g hx => by
     rw [hg2.block g (by simp; omega) (fun e => by have := (hown g e.symm).1; omega), Below.heap_alloc _ _ _ (by omega), hbelA.block g (by omega)]
    have hgrow2' : GrowT (w.heap.size + 2) w2 v' (l.take (k + 1)) (bs ++ bs2) := by
     rw [show l.take (k + 1) = l.take k ++ [s] from by rw [List.take_add_one, HS.out]; rfl]
     exact hgrow2
    have hgoal : Below w.heap.size w w2 ∧ Blk w2 w.heap.size 27 #[.int .i64 kind, .int .u64 s0, .int .u64 s1, .int .u64 s2, .int .u64 s3, .slice (some ⟨b, o, none⟩) l.length c, .int .i64 num, .int .i64 mn, .int .i64 mx, .bool bare] ∧ Blk w2 (w.heap.size + 1) 27 zeroCells := by
     refine ⟨⟨(hg2.os.trans hbelA.os).trans hbel.os, (hg2.tape.trans hbelA.tape).trans hbel.tape, (hg2.output.trans hbelA.output).trans hbel.output, by have := hbel.size; omega, fun g hx => ?_⟩, (hkeep _ (by omega)).trans hb0, (hkeep _ (by omega)).trans hb1⟩
     rw [hkeep g (by omega), hbel.block g hx]
    have HG := hide (And.intro hgrow2' hgoal)
    clear hgrow2' hgoal hkeep hown hgrow hfr2 hbelA hgrow2 hg2
    go_wp2_with fail
    go_roundw
    case rel => exact ⟨k + 1, bs ++ bs2, by go_num, by omega, HG.out⟩
    case measure => simp [intOf]; omega
   ·have hke : k = l.length := by omega
    obtain ⟨A', c', bs', hv, hown, hnd, hfr⟩ := hgrow.own ⟨kind, s0, s1, s2, s3, num, mn, mx, bare⟩
    rw [hke, List.take_length] at hv hown
    clear hgrow
    subst hv
    have c1 : ∀ i : Nat, wr.cell? ⟨w.heap.size + 1, i, none⟩ = #[Value.int .i64 0, .int .u64 0, .int .u64 0, .int .u64 0, .int .u64 0, .slice none 0 0, .int .i64 0, .int .i64 0, .int .i64 0, .bool false][i]? := hb1.cell
    have c0 := hb0.cell
    have f0 := hb0.frozen
    have f1 := hb1.frozen
    have H := hide hown
    clear hown hke
    go_wp2_with fail
    refine bodyPost_ret (v := .agg #[.int .i64 kind, .int .u64 s0, .int .u64 s1, .int .u64 s2, .int .u64 s3, .slice A' l.length c', .int .i64 num, .int .i64 mn, .int .i64 mx, .bool bare])
     (by simp [results, Tryz.results9, go_sem, c1]) rfl ?_
    refine ⟨A', c', bs', rfl, H.out.same (Same.mono (ok := fun b => w.heap.size + 2 ≤ b) ?_ fun b hb => (hfr b hb).1), hnd, ?_, ?_⟩
    ·repeat refine Same.set ?_ (by simp) _
     exact Same.refl _ _
    ·intro b hb
     simp only [World.size_setCell]
     have := hfr b hb; omega
    ·repeat refine Below.setCell ?_ (by simp) _
     exact hbel

end Go.Proofs.YtpkcklpjbeginaaGreatDoor
