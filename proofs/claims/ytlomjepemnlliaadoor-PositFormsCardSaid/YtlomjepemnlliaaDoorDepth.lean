/- tree.Depth. (Printed by gen_depth.py.) -/
import Derived.Test.YtlomjepemnlliaaDoorDepths
set_option linter.unusedSimpArgs false
set_option linter.unusedVariables false
namespace Go.Proofs.YtlomjepemnlliaaDoor
open Go.RowKit

def Hd.deeper (h : Hd) (n : Nat) : Bool := h.kind == 8 && decide (0 < (n : Int)) && (h.min != 0 || (h.max != 1 && h.max != -1))
mutual
def T.depth : T → Int
  | .mk h l => (if h.deeper l.length then TL.depth l 0 + 1 else TL.depth l 0) + 1
def TL.depth : List T → Int → Int
  | [], n => n
  | t :: ts, n => TL.depth ts (mx2 n t.depth)
end
theorem TL.depth_eq : ∀ (l : List T) (n : Int), TL.depth l n = l.foldl (fun n s => mx2 n s.depth) n
  | [], _ => rfl
  | t :: ts, n => by simp only [TL.depth, List.foldl_cons]; exact TL.depth_eq ts _

theorem mx2_le {a b c : Int} (h : a ≤ c) (k : b ≤ c) : mx2 a b ≤ c := by unfold mx2; split <;> omega
theorem le_mx2 (a b : Int) : a ≤ mx2 a b := by unfold mx2; split <;> omega
mutual
theorem T.depth_bd : ∀ t : T, 0 ≤ t.depth ∧ t.depth ≤ 2 * t.nodes
  | .mk h l => by
    have := TL.depth_bd l 0 (by omega)
    simp only [T.depth, T.nodes]
    split <;> omega
theorem TL.depth_bd : ∀ (l : List T) (n : Int), 0 ≤ n → n ≤ TL.depth l n ∧ TL.depth l n ≤ n + 2 * TL.nodes l
  | [], n, h => by simp [TL.depth, TL.nodes]
  | t :: ts, n, h => by
    have h1 := T.depth_bd t
    have h2 := le_mx2 n t.depth
    have h3 := TL.depth_bd ts (mx2 n t.depth) (by omega)
    have h4 : mx2 n t.depth ≤ n + 2 * t.nodes := mx2_le (by omega) (by omega)
    simp only [TL.depth, TL.nodes]
    omega
end
theorem TL.depth_take (l : List T) (k : Nat) : 0 ≤ (l.take k).foldl (fun n s => mx2 n s.depth) 0 ∧ (l.take k).foldl (fun n s => mx2 n s.depth) 0 ≤ 2 * TL.nodes l := by
  rw [← TL.depth_eq]
  have h1 := TL.depth_bd (l.take k) 0 (by omega)
  have h2 : TL.nodes (l.take k) ≤ TL.nodes l := by
    have : ∀ (l : List T) (k : Nat), TL.nodes (l.take k) ≤ TL.nodes l := by
      intro l
      induction l with
      | nil => intro k; simp [TL.nodes]
      | cons t ts ih => intro k; cases k with
        | zero => simp [TL.nodes]
        | succ k => simp only [List.take_succ_cons, TL.nodes]; have := ih k; omega
    exact this l k
  omega

set_option maxRecDepth 100000 in
set_option maxHeartbeats 1000000 in
theorem depth_any (N : Nat) : ∀ (t : T) (A : Option Addr) (c : Nat) (w : World), t.nodes ≤ N → N ≤ 1000000 → T.In w (· < w.heap.size) t A →
    Calls Tryd.prog 97 #[.agg (t.hd.cells (.slice A t.subs.length c)).toArray] w fun e w' => e = .returned (.int .i64 t.depth) ∧ Below w.heap.size w w' := by
  induction N with
  | zero => intro t A c w h; have := t.nodes_pos; omega
  | succ N ih =>
    intro t A c w hN hM hin
    obtain ⟨h, l⟩ := t
    obtain ⟨kind, s0, s1, s2, s3, num, mn, mx, bare⟩ := h
    have hlen := T.length_lt (T.mk ⟨kind, s0, s1, s2, s3, num, mn, mx, bare⟩ l)
    simp only [T.nodes] at hN
    simp only [T.nodes, T.hd, T.subs, Hd.cells] at hlen ⊢
    have hgoal : (T.mk ⟨kind, s0, s1, s2, s3, num, mn, mx, bare⟩ l).depth = (if (kind == 8 && decide (0 < (l.length : Int)) && (mn != 0 || (mx != 1 && mx != -1))) then l.foldl (fun n s => mx2 n s.depth) 0 + 1 else l.foldl (fun n s => mx2 n s.depth) 0) + 1 := by rw [T.depth, TL.depth_eq]; rfl
    obtain ⟨res, hres⟩ : ∃ r, r = (T.mk ⟨kind, s0, s1, s2, s3, num, mn, mx, bare⟩ l).depth := ⟨_, rfl⟩
    rw [← hres]
    have HR := hide (hres.trans hgoal)
    clear hgoal hres
    go_enter Tryd.func97, Tryd.ntmps97
    go_wp2_with fail
    go_loopw [3, 9] (fun cv kv wr => ∃ (k : Nat) (cur : Int), kv = .int .i64 k ∧ cv = .int .i64 cur ∧ FoldInv l (fun n s => mx2 n s.depth) w wr w.heap.size #[.int .i64 kind, .int .u64 s0, .int .u64 s1, .int .u64 s2, .int .u64 s3, .slice A l.length c, .int .i64 num, .int .i64 mn, .int .i64 mx, .bool bare] k 0 cur)
      (fun _ kv _ => l.length - (intOf kv).toNat)
    case atStart => exact ⟨0, 0, rfl, rfl, ⟨Nat.zero_le _, rfl, Blk.new _ _ _, (Below.refl _ _).alloc (Nat.le_refl _) _⟩⟩
    case round =>
      obtain ⟨k, cur, rfl, rfl, hinv⟩ := hrel
      have hk := hinv.le
      have c0 := hinv.box.cell
      have z0 := hinv.box.lt
      by_cases hlt : k < l.length
      · have g1 : decide ((k : Int) < (l.length : Int)) = true := by simp; omega
        have hs := List.getElem?_eq_getElem hlt
        obtain ⟨b, o, B, c', rfl, hbk, hcs, hsub⟩ := TL.In.at_ (T.In_iff.1 hin) hs
        have hmem := List.getElem_mem hlt
        have hsn := TL.nodes_mem hmem
        generalize l[k] = s at *
        obtain ⟨n0, n1, n2, n3, n4, n5, n6, n7, n8, n9⟩ := (hcs.same (same_of_below hinv.below) hbk).node
        have HS := hide hs
        have HI := hide hinv
        have hbx := hide (hinv.below)
        have HX := hide (fun y hy => ih s B c' y (by omega) (by omega) hy)
        have HB := hide (hsub.same (ok' := (· < wr.heap.size)) (same_of_below hinv.below) (fun x hx => Nat.lt_of_lt_of_le hx hinv.below.size))
        clear hs hcs hinv
        go_wp2_with fail
        refine (HX.out _ (HB.out.same (fun b hb => Below.heap_alloc _ _ _ hb) (fun b hb => by simp; omega))).mono ?_
        rintro e w1 ⟨rfl, hb1⟩
        have hb1' : Below wr.heap.size wr w1 := ((Below.refl _ _).alloc (Nat.le_refl _) _).trans (hb1.mono (by simp))
        have hm : (if cur < s.depth then s.depth else cur) = mx2 cur s.depth := rfl
        generalize mx2 cur s.depth = nxt at hm
        have HM := hide hm
        have HH := hide hb1'
        clear hb1 hb1'
        go_wp2_with fail
        go_roundw
        case rel => exact ⟨k + 1, nxt, by go_num, rfl, ⟨hlt, by rw [fold_take HS.out, ← HI.out.eq]; exact HM.out.symm, HI.out.box.below HH.out z0, hbx.out.trans (HH.out.mono hbx.out.size)⟩⟩
        case measure => simp [intOf]; omega
      · have g1 : decide ((k : Int) < (l.length : Int)) = false := by simp; omega
        have hc := TL.depth_take l k
        rw [← hinv.eq] at hc
        have hce : cur = l.foldl (fun n s => mx2 n s.depth) 0 := by rw [hinv.eq, List.take_of_length_le (by omega)]
        have HE := hide hce
        have hcb : 0 ≤ cur ∧ cur ≤ 2000000 := by omega
        have HI := hide hinv.below
        clear hce hc hinv
        by_cases k8 : kind = 8
        case neg =>
          have e8 : (kind == 8) = false := by simp [k8]
          go_wp2_with fail
          go_ret
          exact ⟨by rw [HR.out, ← HE.out]; simp [e8], HI.out⟩
        subst k8
        by_cases kl : 0 < l.length
        case neg =>
          have el : decide (0 < (l.length : Int)) = false := decide_eq_false (by omega)
          go_wp2_with fail
          go_ret
          exact ⟨by rw [HR.out, ← HE.out, el]; simp [el], HI.out⟩
        have el : decide (0 < (l.length : Int)) = true := decide_eq_true (by omega)
        by_cases km : mn = 0
        case neg =>
          have em : (mn != 0) = true := by simp [km]
          go_wp2_with fail
          go_ret
          exact ⟨by rw [HR.out, ← HE.out, el]; simp [el, em], HI.out⟩
        subst km
        by_cases k1 : mx = 1
        case pos =>
          subst k1
          go_wp2_with fail
          go_ret
          exact ⟨by rw [HR.out, ← HE.out, el]; simp [el], HI.out⟩
        have e1 : (mx != 1) = true := by simp [k1]
        by_cases k2 : mx = -1
        case pos =>
          subst k2
          go_wp2_with fail
          go_ret
          exact ⟨by rw [HR.out, ← HE.out, el]; simp [el], HI.out⟩
        have e2 : (mx != -1) = true := by simp [k2]
        go_wp2_with fail
        go_ret
        exact ⟨by rw [HR.out, ← HE.out, el]; simp [el, e1, e2], HI.out⟩
end Go.Proofs.YtlomjepemnlliaaDoor
