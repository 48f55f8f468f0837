/- tree.size, of a tree in form. (Printed by gen_size.py.) -/
import Derived.Test.YtlomjepemnlliaaDoorDepths
import Derived.Test.YtlomjepemnlliaaDoorRounds
import Derived.Test.YtlomjepemnlliaaDoorFormed
set_option linter.unusedSimpArgs false
set_option linter.unusedVariables false
namespace Go.Proofs.YtlomjepemnlliaaDoor
open Go.RowKit

mutual
def T.form : T → Bool
  | .mk h l => h.formed l.length && TL.form l
def TL.form : List T → Bool
  | [] => true
  | t :: ts => t.form && TL.form ts
end
theorem T.form_eq (t : T) : t.form = (t.hd.formed t.subs.length && TL.form t.subs) := by cases t; rfl
theorem TL.form_mem : ∀ {l : List T} {t : T}, TL.form l = true → t ∈ l → t.form = true
  | s :: l, t, h, hm => by
    simp only [TL.form, Bool.and_eq_true] at h
    rcases List.mem_cons.1 hm with e | hm
    · subst e; exact h.1
    · exact TL.form_mem h.2 hm

def Hd.grow (h : Hd) (n : Int) : Int := if h.kind = 8 then h.rounds n else n + 1
mutual
def T.size : T → Int
  | .mk h l => if h.kind = 8 ∧ h.max = 0 then 1 else mn2 (h.grow (TL.size l 0)) 2001
def TL.size : List T → Int → Int
  | [], n => n
  | t :: ts, n => TL.size ts (mn2 (n + t.size) 2001)
end
theorem TL.size_eq : ∀ (l : List T) (n : Int), TL.size l n = l.foldl (fun n s => mn2 (n + s.size) 2001) n
  | [], _ => rfl
  | t :: ts, n => by simp only [TL.size, List.foldl_cons]; exact TL.size_eq ts _

theorem Hd.rep_bd {h : Hd} {n : Int} (hf : h.formed n = true) (h8 : h.kind = 8) : 0 ≤ h.min ∧ h.min ≤ 255 ∧ (h.max = -1 ∨ (h.min ≤ h.max ∧ h.max ≤ 255)) := by
  simp only [Hd.formed, h8] at hf
  simp at hf
  obtain ⟨h1, h2⟩ := hf
  have h3 := h1.1.2
  have h4 := h1.1.1.2
  exact ⟨h4, h3, h2⟩

theorem Hd.rounds_pos {h : Hd} {n : Int} (h0 : 0 ≤ n) (h2 : 0 ≤ h.min) (h4 : h.max = -1 ∨ (h.min ≤ h.max ∧ h.max ≤ 255)) : 0 ≤ h.rounds n := by
  unfold Hd.rounds
  have := Int.mul_nonneg h2 h0
  split
  · omega
  · split
    · omega
    · split
      · omega
      · have := Int.mul_nonneg (a := h.max - h.min) (b := 1 + n) (by omega) (by omega)
        omega

theorem mn2_bd {x : Int} (h : 0 ≤ x) : 0 ≤ mn2 x 2001 ∧ mn2 x 2001 ≤ 2001 := by unfold mn2; split <;> omega

mutual
theorem T.size_bd : ∀ t : T, t.form = true → 0 ≤ t.size ∧ t.size ≤ 2001
  | .mk h l, hf => by
    simp only [T.form, Bool.and_eq_true] at hf
    have h1 := TL.size_bd l hf.2 0 (by omega) (by omega)
    simp only [T.size]
    split
    · omega
    · refine mn2_bd ?_
      unfold Hd.grow
      split
      · rename_i h8
        have := Hd.rep_bd hf.1 h8
        exact Hd.rounds_pos h1.1 this.1 this.2.2
      · omega
theorem TL.size_bd : ∀ l : List T, TL.form l = true → ∀ n, 0 ≤ n → n ≤ 2001 → 0 ≤ TL.size l n ∧ TL.size l n ≤ 2001
  | [], _, n, h0, h1 => ⟨h0, h1⟩
  | t :: ts, hf, n, h0, h1 => by
    simp only [TL.form, Bool.and_eq_true] at hf
    have h2 := T.size_bd t hf.1
    simp only [TL.size]
    refine TL.size_bd ts hf.2 _ ?_ ?_ <;> unfold mn2 <;> split <;> omega
end
theorem TL.form_take : ∀ (l : List T) (k : Nat), TL.form l = true → TL.form (l.take k) = true
  | [], k, h => by simp [TL.form]
  | t :: ts, 0, h => rfl
  | t :: ts, k + 1, h => by
    simp only [TL.form, Bool.and_eq_true, List.take_succ_cons] at h ⊢
    exact ⟨h.1, TL.form_take ts k h.2⟩

set_option maxRecDepth 100000 in
set_option maxHeartbeats 2000000 in
theorem size_any (N : Nat) : ∀ (t : T) (A : Option Addr) (c : Nat) (w : World), t.nodes ≤ N → N ≤ 1000000 → t.form = true → T.In w (· < w.heap.size) t A →
    Calls Tryd.prog 98 #[.agg (t.hd.cells (.slice A t.subs.length c)).toArray] w fun e w' => e = .returned (.int .i64 t.size) ∧ Below w.heap.size w w' := by
  induction N with
  | zero => intro t A c w h; have := t.nodes_pos; omega
  | succ N ih =>
    intro t A c w hN hM hform hin
    obtain ⟨h, l⟩ := t
    have hfl : TL.form l = true := by rw [T.form_eq, Bool.and_eq_true] at hform; exact hform.2
    have hbd := fun k8 => Hd.rep_bd (by rw [T.form_eq, Bool.and_eq_true] at hform; exact hform.1) (h := h) (n := (l.length : Int)) k8
    have hro := hide (fun (n : Int) x => rounds_any (.mk h l) A c n x)
    obtain ⟨kind, s0, s1, s2, s3, num, mn, mx, bare⟩ := h
    have hlen := T.length_lt (T.mk ⟨kind, s0, s1, s2, s3, num, mn, mx, bare⟩ l)
    simp only [T.nodes] at hN
    simp only [T.nodes, T.hd, T.subs, Hd.cells] at hlen hro hbd ⊢
    obtain ⟨res, hres⟩ : ∃ r, r = (T.mk ⟨kind, s0, s1, s2, s3, num, mn, mx, bare⟩ l).size := ⟨_, rfl⟩
    rw [← hres]
    have HR := hide hres
    have HF := hide hfl
    clear hform hres hfl
    by_cases k8 : kind = 8
    case pos =>
      subst k8
      have hb8 := hbd rfl
      clear hbd
      by_cases m0 : mx = 0
      case pos =>
        subst m0
        go_enter Tryd.func98, Tryd.ntmps98
        go_wp2_with fail
        go_ret
        exact ⟨by rw [HR.out]; simp [T.size], (Below.refl _ _).alloc (Nat.le_refl _) _⟩
      have em : (mx == 0) = false := by simp [m0]
      go_enter Tryd.func98, Tryd.ntmps98
      go_wp2_with fail
      go_loopw [3, 17] (fun cv kv wr => ∃ (k : Nat) (cur : Int), kv = .int .i64 k ∧ cv = .int .i64 cur ∧ FoldInv l (fun n s => mn2 (n + s.size) 2001) w wr w.heap.size #[.int .i64 8, .int .u64 s0, .int .u64 s1, .int .u64 s2, .int .u64 s3, .slice A l.length c, .int .i64 num, .int .i64 mn, .int .i64 mx, .bool bare] k 0 cur)
        (fun _ kv _ => l.length - (intOf kv).toNat)
      case atStart => exact ⟨0, 0, rfl, rfl, ⟨Nat.zero_le _, rfl, Blk.new _ _ _, (Below.refl _ _).alloc (Nat.le_refl _) _⟩⟩
      case round =>
        obtain ⟨k, cur, rfl, rfl, hinv⟩ := hrel
        have hk := hinv.le
        have c0 := hinv.box.cell
        have z0 := hinv.box.lt
        have hcb : 0 ≤ cur ∧ cur ≤ 2001 := by
          rw [hinv.eq, ← TL.size_eq]
          exact TL.size_bd _ (TL.form_take l k HF.out) 0 (by omega) (by omega)
        by_cases hlt : k < l.length
        · have g1 : decide ((k : Int) < (l.length : Int)) = true := decide_eq_true (by omega)
          have hs := List.getElem?_eq_getElem hlt
          obtain ⟨b, o, B, c', rfl, hbk, hcs, hsub⟩ := TL.In.at_ (T.In_iff.1 hin) hs
          have hmem := List.getElem_mem hlt
          have hsn := TL.nodes_mem hmem
          have hsf := TL.form_mem HF.out hmem
          generalize l[k] = s at *
          obtain ⟨n0, n1, n2, n3, n4, n5, n6, n7, n8, n9⟩ := (hcs.same (same_of_below hinv.below) hbk).node
          have hsb := T.size_bd s hsf
          have HS := hide hs
          have HI := hide hinv
          have hbx := hide (hinv.below)
          have HX := hide (fun y hy => ih s B c' y (by omega) (by omega) hsf hy)
          have HB := hide (hsub.same (ok' := (· < wr.heap.size)) (same_of_below hinv.below) (fun x hx => Nat.lt_of_lt_of_le hx hinv.below.size))
          clear hs hcs hinv hsf
          go_wp2_with fail
          refine (HX.out _ (HB.out.same (fun b hb => Below.heap_alloc _ _ _ hb) (fun b hb => by simp; omega))).mono ?_
          rintro e w1 ⟨rfl, hb1⟩
          have hb1' : Below wr.heap.size wr w1 := ((Below.refl _ _).alloc (Nat.le_refl _) _).trans (hb1.mono (by simp))
          have hm : (if 2001 < cur + s.size then 2001 else cur + s.size) = mn2 (cur + s.size) 2001 := rfl
          generalize mn2 (cur + s.size) 2001 = nxt at hm
          have HM := hide hm
          have HH := hide hb1'
          clear hb1 hb1'
          go_wp2_with fail
          go_roundw
          case rel => exact ⟨k + 1, nxt, by go_num, rfl, ⟨hlt, by rw [fold_take HS.out, ← HI.out.eq]; exact HM.out.symm, HI.out.box.below HH.out z0, hbx.out.trans (HH.out.mono hbx.out.size)⟩⟩
          case measure => simp [intOf]; omega
        · have g1 : decide ((k : Int) < (l.length : Int)) = false := decide_eq_false (by omega)
          have hce : cur = TL.size l 0 := by rw [TL.size_eq, hinv.eq, List.take_of_length_le (by omega)]
          have HE := hide hce
          have HI := hide hinv.below
          clear hce
          have HX := hide (hro.out cur wr hcb.1 hcb.2 hb8.1 hb8.2.1 hb8.2.2)
          clear hinv
          go_wp2_with fail
          refine HX.out.mono ?_
          rintro e w1 ⟨rfl, hb1⟩
          have hbf := hide (HI.out.trans (hb1.mono HI.out.size))
          have hm : (if 2001 < Hd.rounds ⟨8, s0, s1, s2, s3, num, mn, mx, bare⟩ cur then 2001 else Hd.rounds ⟨8, s0, s1, s2, s3, num, mn, mx, bare⟩ cur) = res := by
            have hr : res = mn2 (Hd.grow ⟨8, s0, s1, s2, s3, num, mn, mx, bare⟩ (TL.size l 0)) 2001 := by rw [HR.out, T.size, if_neg (fun h => m0 h.2)]
            rw [hr, ← HE.out]
            rfl
          clear hb1
          go_wp2_with fail
          go_ret
          exact ⟨rfl, hbf.out⟩
    case neg =>
      have e8 : (kind == 8) = false := by simp [k8]
      clear hbd hro
      go_enter Tryd.func98, Tryd.ntmps98
      go_wp2_with fail
      go_loopw [3, 17] (fun cv kv wr => ∃ (k : Nat) (cur : Int), kv = .int .i64 k ∧ cv = .int .i64 cur ∧ FoldInv l (fun n s => mn2 (n + s.size) 2001) w wr w.heap.size #[.int .i64 kind, .int .u64 s0, .int .u64 s1, .int .u64 s2, .int .u64 s3, .slice A l.length c, .int .i64 num, .int .i64 mn, .int .i64 mx, .bool bare] k 0 cur)
        (fun _ kv _ => l.length - (intOf kv).toNat)
      case atStart => exact ⟨0, 0, rfl, rfl, ⟨Nat.zero_le _, rfl, Blk.new _ _ _, (Below.refl _ _).alloc (Nat.le_refl _) _⟩⟩
      case round =>
        obtain ⟨k, cur, rfl, rfl, hinv⟩ := hrel
        have hk := hinv.le
        have c0 := hinv.box.cell
        have z0 := hinv.box.lt
        have hcb : 0 ≤ cur ∧ cur ≤ 2001 := by
          rw [hinv.eq, ← TL.size_eq]
          exact TL.size_bd _ (TL.form_take l k HF.out) 0 (by omega) (by omega)
        by_cases hlt : k < l.length
        · have g1 : decide ((k : Int) < (l.length : Int)) = true := decide_eq_true (by omega)
          have hs := List.getElem?_eq_getElem hlt
          obtain ⟨b, o, B, c', rfl, hbk, hcs, hsub⟩ := TL.In.at_ (T.In_iff.1 hin) hs
          have hmem := List.getElem_mem hlt
          have hsn := TL.nodes_mem hmem
          have hsf := TL.form_mem HF.out hmem
          generalize l[k] = s at *
          obtain ⟨n0, n1, n2, n3, n4, n5, n6, n7, n8, n9⟩ := (hcs.same (same_of_below hinv.below) hbk).node
          have hsb := T.size_bd s hsf
          have HS := hide hs
          have HI := hide hinv
          have hbx := hide (hinv.below)
          have HX := hide (fun y hy => ih s B c' y (by omega) (by omega) hsf hy)
          have HB := hide (hsub.same (ok' := (· < wr.heap.size)) (same_of_below hinv.below) (fun x hx => Nat.lt_of_lt_of_le hx hinv.below.size))
          clear hs hcs hinv hsf
          go_wp2_with fail
          refine (HX.out _ (HB.out.same (fun b hb => Below.heap_alloc _ _ _ hb) (fun b hb => by simp; omega))).mono ?_
          rintro e w1 ⟨rfl, hb1⟩
          have hb1' : Below wr.heap.size wr w1 := ((Below.refl _ _).alloc (Nat.le_refl _) _).trans (hb1.mono (by simp))
          have hm : (if 2001 < cur + s.size then 2001 else cur + s.size) = mn2 (cur + s.size) 2001 := rfl
          generalize mn2 (cur + s.size) 2001 = nxt at hm
          have HM := hide hm
          have HH := hide hb1'
          clear hb1 hb1'
          go_wp2_with fail
          go_roundw
          case rel => exact ⟨k + 1, nxt, by go_num, rfl, ⟨hlt, by rw [fold_take HS.out, ← HI.out.eq]; exact HM.out.symm, HI.out.box.below HH.out z0, hbx.out.trans (HH.out.mono hbx.out.size)⟩⟩
          case measure => simp [intOf]; omega
        · have g1 : decide ((k : Int) < (l.length : Int)) = false := decide_eq_false (by omega)
          have hce : cur = TL.size l 0 := by rw [TL.size_eq, hinv.eq, List.take_of_length_le (by omega)]
          have HE := hide hce
          have HI := hide hinv.below
          clear hce
          have hm : (if 2001 < cur + 1 then 2001 else cur + 1) = res := by
            have hr : res = mn2 (Hd.grow ⟨kind, s0, s1, s2, s3, num, mn, mx, bare⟩ (TL.size l 0)) 2001 := by rw [HR.out, T.size, if_neg (fun h => k8 h.1)]
            rw [hr, ← HE.out, Hd.grow, if_neg k8]
            rfl
          clear hinv
          go_wp2_with fail
          go_ret
          exact ⟨rfl, HI.out⟩
end Go.Proofs.YtlomjepemnlliaaDoor
