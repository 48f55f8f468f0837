/- trawlref04.Depth, trawlref04.Check. (Printed by gen_refcheck20.py.) -/
import Derived.Test.YtpkcklpjbeginaaGreatDoorRefAll
import Derived.Test.YtpkcklpjbeginaaGreatDoorMake2
set_option linter.unusedSimpArgs false
set_option linter.unusedVariables false
namespace Go.Proofs.YtpkcklpjbeginaaGreatDoor
open Go.RowKit

set_option maxRecDepth 100000 in
set_option maxHeartbeats 1000000 in
theorem refDepth_any (N : Nat) : ∀ (t : T) (A : Option Addr) (c : Nat) (w : World), t.nodes ≤ N → N ≤ 1000000 → T.In w (· < w.heap.size) t A →
    Calls Tryz.prog 63 #[.agg (t.hd.cells (.slice A t.subs.length c)).toArray] w fun e w' => e = .returned (.int .i64 t.depth) ∧ Below w.heap.size w w' := by
  induction N with
  | zero => intro t A c w h; have := t.nodes_pos; omega
  | succ N ih =>
    intro t A c w hN hM hin
    obtain ⟨h, l⟩ := t
    obtain ⟨kind, s0, s1, s2, s3, num, mn, mx, bare⟩ := h
    have hlen := T.length_lt (T.mk ⟨kind, s0, s1, s2, s3, num, mn, mx, bare⟩ l)
    simp only [T.nodes] at hN
    simp only [T.nodes, T.hd, T.subs, Hd.cells] at hlen ⊢
    have hgoal : (T.mk ⟨kind, s0, s1, s2, s3, num, mn, mx, bare⟩ l).depth = (if (kind == 8 && decide (0 < (l.length : Int)) && (mn != 0 || (mx != 1 && mx != -1))) then l.foldl (fun n s => mx2 n s.depth) 0 + 1 else l.foldl (fun n s => mx2 n s.depth) 0) + 1 := by rw [T.depth, TL.depth_eq]; rfl
    obtain ⟨res, hres⟩ : ∃ r, r = (T.mk ⟨kind, s0, s1, s2, s3, num, mn, mx, bare⟩ l).depth := ⟨_, rfl⟩
    rw [← hres]
    have HR := hide (hres.trans hgoal)
    clear hgoal hres
    go_enter Tryz.func63, Tryz.ntmps63
    go_wp2_with fail
    go_loopw [3, 4] (fun cv kv wr => ∃ (k : Nat) (cur : Int), kv = .int .i64 k ∧ cv = .int .i64 cur ∧ FoldInv l (fun n s => mx2 n s.depth) w wr w.heap.size #[.int .i64 kind, .int .u64 s0, .int .u64 s1, .int .u64 s2, .int .u64 s3, .slice A l.length c, .int .i64 num, .int .i64 mn, .int .i64 mx, .bool bare] k 0 cur)
      (fun _ kv _ => l.length - (intOf kv).toNat)
    case atStart => exact ⟨0, 0, rfl, rfl, ⟨Nat.zero_le _, rfl, Blk.new _ _ _, (Below.refl _ _).alloc (Nat.le_refl _) _⟩⟩
    case round =>
      obtain ⟨k, cur, rfl, rfl, hinv⟩ := hrel
      have hk := hinv.le
      have c0 := hinv.box.cell
      have z0 := hinv.box.lt
      by_cases hlt : k < l.length
      · have g1 : decide ((k : Int) < (l.length : Int)) = true := by simp; omega
        have hs := List.getElem?_eq_getElem hlt
        obtain ⟨b, o, B, c', rfl, hbk, hcs, hsub⟩ := TL.In.at_ (T.In_iff.1 hin) hs
        have hmem := List.getElem_mem hlt
        have hsn := TL.nodes_mem hmem
        generalize l[k] = s at *
        obtain ⟨n0, n1, n2, n3, n4, n5, n6, n7, n8, n9⟩ := (hcs.same (same_of_below hinv.below) hbk).node
        have HS := hide hs
        have HI := hide hinv
        have hbx := hide (hinv.below)
        have HX := hide (ih s B c' wr (by omega) (by omega) (hsub.same (ok' := (· < wr.heap.size)) (same_of_below hinv.below) (fun x hx => Nat.lt_of_lt_of_le hx hinv.below.size)))
        clear hs hcs hinv
        go_wp2_with fail
        refine HX.out.mono ?_
        rintro e w1 ⟨rfl, hb1⟩
        have hm : (if cur < s.depth then s.depth else cur) = mx2 cur s.depth := rfl
        generalize mx2 cur s.depth = nxt at hm
        have HM := hide hm
        have HH := hide hb1
        clear hb1
        go_wp2_with fail
        go_roundw
        case rel => exact ⟨k + 1, nxt, by go_num, rfl, ⟨hlt, by rw [fold_take HS.out, ← HI.out.eq]; exact HM.out.symm, HI.out.box.below HH.out z0, hbx.out.trans (HH.out.mono hbx.out.size)⟩⟩
        case measure => simp [intOf]; omega
      · have g1 : decide ((k : Int) < (l.length : Int)) = false := by simp; omega
        have hc := TL.depth_take l k
        rw [← hinv.eq] at hc
        have hce : cur = l.foldl (fun n s => mx2 n s.depth) 0 := by rw [hinv.eq, List.take_of_length_le (by omega)]
        have HE := hide hce
        have hcb : 0 ≤ cur ∧ cur ≤ 2000000 := by omega
        have HI := hide hinv.below
        clear hce hc hinv
        obtain ⟨bm, hbm⟩ : ∃ b, (mn == 0) = b := ⟨_, rfl⟩
        obtain ⟨b1, hb1⟩ : ∃ b, (mx == 1) = b := ⟨_, rfl⟩
        obtain ⟨b2, hb2⟩ : ∃ b, (mx == -1) = b := ⟨_, rfl⟩
        obtain ⟨b8, hb8⟩ : ∃ b, (kind == 8) = b := ⟨_, rfl⟩
        have hr : res = (if (b8 && decide (0 < (l.length : Int)) && (!bm || (!b1 && !b2))) then cur + 1 else cur) + 1 := by
          rw [HR.out, ← HE.out]
          simp only [bne, hbm, hb1, hb2, hb8]
        have HQ := hide hr
        clear hr HR HE
        by_cases kl : 0 < l.length
        · have el : decide (0 < (l.length : Int)) = true := decide_eq_true (by omega)
          rw [el] at HQ
          cases bm <;> cases b1 <;> cases b2 <;> cases b8 <;>
            (go_wp2_with fail
             go_ret
             exact ⟨by rw [HQ.out]; simp; try omega, HI.out⟩)
        · have el : decide (0 < (l.length : Int)) = false := decide_eq_false (by omega)
          rw [el] at HQ
          cases bm <;> cases b1 <;> cases b2 <;> cases b8 <;>
            (go_wp2_with fail
             go_ret
             exact ⟨by rw [HQ.out]; simp; try omega, HI.out⟩)

/-- The number that the document gives a tree. -/
def T.chkN (t : T) : Int := if t.form = true then (if 200 < t.depth then 14 else if 2000 < t.size then 10 else 0) else 13
set_option maxRecDepth 100000 in
set_option maxHeartbeats 1000000 in
theorem refCheck_any (t : T) (A : Option Addr) (c : Nat) (w : World) (hN : t.nodes ≤ 1000000) (hin : T.In w (· < w.heap.size) t A) :
    Calls Tryz.prog 35 #[.agg (t.hd.cells (.slice A t.subs.length c)).toArray] w fun e w' => e = .returned (.int .i64 (t.chkN)) ∧ Below w.heap.size w w' := by
  have H1 := hide (fun x hi => refForm_any 1000000 t A c x hN (by omega) hi)
  have H2 := hide (fun hf x hi => refSize_any 1000000 t A c x hN (by omega) hf hi)
  have H3 := hide (fun x hi => refDepth_any 1000000 t A c x hN (by omega) hi)
  have hf : t.chkN = if t.form = true then (if 200 < t.depth then 14 else if 2000 < t.size then 10 else 0) else 13 := rfl
  have HT : ∀ x, Below w.heap.size w x → T.In x (· < x.heap.size) t A := fun x hx => hin.same (same_of_below hx) (fun y hy => Nat.lt_of_lt_of_le hy hx.size)
  have HTT := hide HT
  clear HT hin
  generalize t.chkN = res at *
  generalize t.form = f at *
  generalize t.size = sz at *
  generalize t.depth = dp at *
  have HF := hide hf
  clear hf
  obtain ⟨h, l⟩ := t
  obtain ⟨kind, s0, s1, s2, s3, num, mn, mx, bare⟩ := h
  simp only [T.hd, T.subs, Hd.cells] at H1 H2 H3 ⊢
  go_enter Tryz.func35, Tryz.ntmps35
  go_wp2_with fail
  refine (H1.out _ (HTT.out _ ((Below.refl _ _).alloc (Nat.le_refl _) _))).mono ?_
  rintro e w1 ⟨rfl, hb⟩
  have HB0 := hide ((Blk.new w 27 _).below hb (by simp))
  have HL := hide (((Below.refl _ _).alloc (Nat.le_refl _) _).trans (hb.mono (by simp)))
  clear hb
  cases f with
  | false =>
    have hr : res = 13 := by rw [HF.out]; simp
    subst hr
    go_wp2_with fail
    go_ret
    exact ⟨rfl, HL.out⟩
  | true =>
    have c0 := HB0.out.cell
    go_wp2_with fail
    refine (H3.out _ (HTT.out _ HL.out)).mono ?_
    rintro e w2 ⟨rfl, hb⟩
    replace HB0 := hide (HB0.out.next hb)
    replace HL := hide (HL.out.trans (hb.mono HL.out.size))
    clear hb c0
    by_cases hd : 200 < dp
    · have gd : decide ((200 : Int) < dp) = true := decide_eq_true hd
      have hr : res = 14 := by rw [HF.out]; simp [hd]
      subst hr
      go_wp2_with fail
      go_ret
      exact ⟨rfl, HL.out⟩
    · have gd : decide ((200 : Int) < dp) = false := decide_eq_false hd
      have c0 := HB0.out.cell
      go_wp2_with fail
      refine (H2.out trivial _ (HTT.out _ HL.out)).mono ?_
      rintro e w3 ⟨rfl, hb⟩
      replace HL := hide (HL.out.trans (hb.mono HL.out.size))
      clear hb c0
      by_cases hz : 2000 < sz
      · have gz : decide ((2000 : Int) < sz) = true := decide_eq_true hz
        have hr : res = 10 := by rw [HF.out]; simp [hd, hz]
        subst hr
        go_wp2_with fail
        go_ret
        exact ⟨rfl, HL.out⟩
      · have gz : decide ((2000 : Int) < sz) = false := decide_eq_false hz
        have hr : res = 0 := by rw [HF.out]; simp [hd, hz]
        subst hr
        go_wp2_with fail
        go_ret
        exact ⟨rfl, HL.out⟩

end Go.Proofs.YtpkcklpjbeginaaGreatDoor
