/- tree.Same: it is trawlnum.SameNodes once more. -/
import Derived.Test.YtpkcklpjbeginaaGreatDoorSames
set_option linter.unusedSimpArgs false
set_option linter.unusedVariables false
namespace Go.Proofs.YtpkcklpjbeginaaGreatDoor
open Go.RowKit

set_option maxRecDepth 100000 in
set_option maxHeartbeats 2000000 in
theorem tsame_any (N : Nat) : ∀ (t u : T) (A B : Option Addr) (c d : Nat) (w : World), t.nodes ≤ N → N ≤ 1000000 → T.In w (· < w.heap.size) t A → T.In w (· < w.heap.size) u B →
  Calls Tryz.prog 22 #[.agg (t.hd.cells (.slice A t.subs.length c)).toArray, .agg (u.hd.cells (.slice B u.subs.length d)).toArray] w fun e w' => e = .returned (.bool (t.same u)) ∧ Below w.heap.size w w' := by
 induction N with
 | zero => intro t u A B c d w h; have := t.nodes_pos; omega
 | succ N ih =>
  intro t u A B c d w hN hM hin hin'
  rw [T.same_eq]
  obtain ⟨h, l⟩ := t
  obtain ⟨kind, s0, s1, s2, s3, num, mn, mx, bare⟩ := h
  obtain ⟨h', l'⟩ := u
  obtain ⟨kind', s0', s1', s2', s3', num', mn', mx', bare'⟩ := h'
  have hlen := T.length_lt (T.mk ⟨kind, s0, s1, s2, s3, num, mn, mx, bare⟩ l)
  simp only [T.nodes] at hN
  simp only [T.nodes, T.hd, T.subs, Hd.cells, Hd.same] at hlen ⊢
  have hns := fun w => run_neq_set w s0 s1 s2 s3 s0' s1' s2' s3'
  have hb2 : Below w.heap.size w ((w.alloc (.cells #[.int .i64 kind, .int .u64 s0, .int .u64 s1, .int .u64 s2, .int .u64 s3, .slice A l.length c, .int .i64 num, .int .i64 mn, .int .i64 mx, .bool bare] 27)).alloc
   (.cells #[.int .i64 kind', .int .u64 s0', .int .u64 s1', .int .u64 s2', .int .u64 s3', .slice B l'.length d, .int .i64 num', .int .i64 mn', .int .i64 mx', .bool bare'] 27)) := ((Below.refl _ _).alloc (Nat.le_refl _) _).alloc (by simp) _
  have HB := hide hb2
  clear hb2
  by_cases k1 : kind = kind'
  case neg =>
   have e1 : (kind != kind') = true := by simp [k1]
   have e1' : (kind == kind') = false := by simp [k1]
   go_enter Tryz.func22, Tryz.ntmps22
   go_wp2_with fail
   go_ret
   exact ⟨by simp [e1'], HB.out⟩
  subst k1
  by_cases k2 : (s0 == s0' && s1 == s1' && s2 == s2' && s3 == s3') = true
  case neg =>
   have e2 : (s0 == s0' && s1 == s1' && s2 == s2' && s3 == s3') = false := by simpa using k2
   clear k2
   go_enter Tryz.func22, Tryz.ntmps22
   go_wp2_with fail
   go_ret
   exact ⟨by simp [e2], HB.out⟩
  by_cases k3 : num = num'
  case neg =>
   have e3 : (num != num') = true := by simp [k3]
   have e3' : (num == num') = false := by simp [k3]
   go_enter Tryz.func22, Tryz.ntmps22
   go_wp2_with fail
   go_ret
   exact ⟨by simp [e3'], HB.out⟩
  subst k3
  by_cases k4 : mn = mn'
  case neg =>
   have e4 : (mn != mn') = true := by simp [k4]
   have e4' : (mn == mn') = false := by simp [k4]
   go_enter Tryz.func22, Tryz.ntmps22
   go_wp2_with fail
   go_ret
   exact ⟨by simp [e4'], HB.out⟩
  subst k4
  by_cases k5 : mx = mx'
  case neg =>
   have e5 : (mx != mx') = true := by simp [k5]
   have e5' : (mx == mx') = false := by simp [k5]
   go_enter Tryz.func22, Tryz.ntmps22
   go_wp2_with fail
   go_ret
   exact ⟨by simp [e5'], HB.out⟩
  subst k5
  by_cases k6 : bare = bare'
  case neg =>
   have e6 : (bare != bare') = true := by simp [k6]
   have e6' : (bare == bare') = false := by simp [k6]
   go_enter Tryz.func22, Tryz.ntmps22
   go_wp2_with fail
   go_ret
   exact ⟨by simp [e6'], HB.out⟩
  subst k6
  by_cases k7 : l.length = l'.length
  case neg =>
   have e7 : ((l.length : Int) != (l'.length : Int)) = true := by simp; omega
   have e7' : (l.length == l'.length) = false := by simp [k7]
   go_enter Tryz.func22, Tryz.ntmps22
   go_wp2_with fail
   go_ret
   exact ⟨by simp [e7'], HB.out⟩
  have e7 : ((l.length : Int) != (l'.length : Int)) = false := by simp; omega
  have e7' : (l.length == l'.length) = true := by simp [k7]
  go_enter Tryz.func22, Tryz.ntmps22
  go_wp2_with fail
  have HE := hide e7'
  clear e7'
  go_loopw [58] (fun kv wr => ∃ (k : Nat), kv = .int .i64 k ∧ k ≤ l'.length ∧ Hid (TL.same (l.drop k) (l'.drop k) = TL.same l l') ∧ Below w.heap.size w wr ∧
    Blk wr w.heap.size 27 #[.int .i64 kind, .int .u64 s0, .int .u64 s1, .int .u64 s2, .int .u64 s3, .slice A l'.length c, .int .i64 num, .int .i64 mn, .int .i64 mx, .bool bare] ∧
    Blk wr (w.heap.size + 1) 27 #[.int .i64 kind, .int .u64 s0', .int .u64 s1', .int .u64 s2', .int .u64 s3', .slice B l'.length d, .int .i64 num, .int .i64 mn, .int .i64 mx, .bool bare])
    (fun kv _ => l'.length - (intOf kv).toNat)
  case atStart =>
   rw [k7] at HB
   refine ⟨0, rfl, Nat.zero_le _, rfl, HB.out, (Blk.new _ _ _).alloc _, ?_⟩
   have := Blk.new (w.alloc (.cells #[.int .i64 kind, .int .u64 s0, .int .u64 s1, .int .u64 s2, .int .u64 s3, .slice A l'.length c, .int .i64 num, .int .i64 mn, .int .i64 mx, .bool bare] 27)) 27 #[.int .i64 kind, .int .u64 s0', .int .u64 s1', .int .u64 s2', .int .u64 s3', .slice B l'.length d, .int .i64 num, .int .i64 mn, .int .i64 mx, .bool bare]
   rw [World.size_alloc] at this
   exact this
  case round =>
   obtain ⟨k, rfl, hk, heq, hbel, hb0, hb1⟩ := hrel
   have z0 := hb0.lt
   have z1 := hb1.lt
   by_cases hlt : k < l'.length
   ·have hlt' : k < l.length := by omega
    have hs := List.getElem?_eq_getElem hlt'
    have hs' := List.getElem?_eq_getElem hlt
    obtain ⟨b, o, B1, c1, rfl, hbk, hcs, hsub⟩ := TL.In.at_ (T.In_iff.1 hin) hs
    obtain ⟨b', o', B2, c2, rfl, hbk', hcs', hsub'⟩ := TL.In.at_ (T.In_iff.1 hin') hs'
    have hsn := TL.nodes_mem (List.getElem_mem hlt')
    have hd1 : l.drop k = l[k] :: l.drop (k + 1) := List.drop_eq_getElem_cons hlt'
    have hd2 : l'.drop k = l'[k] :: l'.drop (k + 1) := List.drop_eq_getElem_cons hlt
    have heq' := heq.out
    rw [hd1, hd2, TL.same] at heq'
    have HQ := hide heq'
    generalize l[k] = s at *
    generalize l'[k] = s' at *
    have S := same_of_below hbel
    have q0 := fun (x : Later wr) => (hb0.below x.2 hb0.lt).cell
    have q1 := fun (x : Later wr) => (hb1.below x.2 hb1.lt).cell
    have n1 := fun (x : Later wr) => ((hcs.same S hbk).same (same_of_below x.2) (Nat.lt_of_lt_of_le hbk hbel.size)).node
    have n2 := fun (x : Later wr) => ((hcs'.same S hbk').same (same_of_below x.2) (Nat.lt_of_lt_of_le hbk' hbel.size)).node
    clear hs hs' hd1 hd2 heq' heq hcs hcs'
    have hcall := hide (fun (x : Later wr) => ih s s' B1 B2 c1 c2 x.val (by omega) (by omega) (hsub.same (S.trans ((same_of_below x.2).mono fun b hb => Nat.lt_of_lt_of_le hb hbel.size)) (fun y hy => Nat.lt_of_lt_of_le hy (Nat.le_trans hbel.size x.2.size)))
     (hsub'.same (S.trans ((same_of_below x.2).mono fun b hb => Nat.lt_of_lt_of_le hb hbel.size)) (fun y hy => Nat.lt_of_lt_of_le hy (Nat.le_trans hbel.size x.2.size))))
    clear S
    go_wp2_with fail
    refine wp_region_later (by kernel_rfl) (by kernel_rfl) ?_
    repeat (go_big_quiet_step ((exact calls_later (hcall.out _))))
    refine wpQuiet_nil ?_
    rintro w' ⟨⟨x, hx⟩, rfl⟩
    by_cases hq : s.same s' = true
    ·rw [hq]
     go_wp2_with fail
     go_roundw
     case rel =>
      have := HQ.out
      rw [hq, Bool.true_and] at this
      exact ⟨k + 1, by go_num, by omega, this, hbel.trans (hx.mono hbel.size), hb0.below hx hb0.lt, hb1.below hx hb1.lt⟩
     case measure => simp [intOf]; omega
    ·have hq' : s.same s' = false := by simpa using hq
     rw [hq']
     go_wp2_with fail
     go_ret
     refine ⟨?_, hbel.trans (hx.mono hbel.size)⟩
     have := HQ.out
     rw [hq', Bool.false_and] at this
     rw [← this]
     simp
   ·have hke : k = l'.length := by omega
    have hh := heq.out
    rw [List.drop_eq_nil_of_le (show l.length ≤ k by omega), List.drop_eq_nil_of_le (show l'.length ≤ k by omega), show TL.same [] [] = true from by simp [TL.same]] at hh
    have HQ := hide hh
    clear hh heq
    go_wp2_with fail
    go_ret
    refine ⟨?_, hbel⟩
    rw [← HQ.out]
    simp [k2, k7]
end Go.Proofs.YtpkcklpjbeginaaGreatDoor
