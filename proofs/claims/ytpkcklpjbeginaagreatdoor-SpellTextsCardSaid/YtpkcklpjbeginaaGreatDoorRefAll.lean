/- RefLaw: RefUsed: trawlref04.used: a node with nothing but what its kind uses.
RefLaw: The plain law: the document's form of a node is the program's.
RefForm: trawlref04.Form: the document's own form of a tree is the program's. (Printed by gen_refform.py.)
RefSize: trawlref04.count, size: the document's size of a tree in form is the program's.
RefAll: trawlref04.Size: of any tree. -/
import Derived.Test.YtpkcklpjbeginaaGreatDoorCheck
import Derived.Outline
import Derived.Deep.DeepCutAuto
set_option linter.unusedSimpArgs false
set_option linter.unusedVariables false
set_option linter.unnecessarySimpa false

/-! ## RefLaw -/
/-! ## RefUsed -/
namespace Go.Proofs.YtpkcklpjbeginaaGreatDoor
open Go.RowKit

/-- A node with nothing but what its kind uses. -/
def Hd.used (h : Hd) : Hd :=
 if h.kind = 2 then ⟨h.kind, h.s0, h.s1, h.s2, h.s3, 0, 0, 0, false⟩
 else if h.kind = 7 then ⟨h.kind, 0, 0, 0, 0, h.num, 0, 0, false⟩
 else if h.kind = 8 then ⟨h.kind, 0, 0, 0, 0, 0, h.min, h.max, h.bare⟩
 else ⟨h.kind, 0, 0, 0, 0, 0, 0, 0, false⟩

set_option maxRecDepth 100000 in
set_option maxHeartbeats 2000000 in
theorem used_any (t : T) (A : Option Addr) (c : Nat) (w : World) :
  Calls Tryz.prog 97 #[.agg (t.hd.cells (.slice A t.subs.length c)).toArray] w fun e w' => e = .returned (.agg (t.hd.used.cells (.slice none 0 0)).toArray) ∧ Below w.heap.size w w' := by
 obtain ⟨h, l⟩ := t
 obtain ⟨kind, s0, s1, s2, s3, num, mn, mx, bare⟩ := h
 simp only [T.hd, T.subs, Hd.cells]
 by_cases k2 : kind = 2
 ·subst k2
  go_enter Tryz.func97, Tryz.ntmps97
  go_wp2_with fail
  refine bodyPost_ret (v := .agg #[.int .i64 2, .int .u64 s0, .int .u64 s1, .int .u64 s2, .int .u64 s3, .slice none 0 0, .int .i64 0, .int .i64 0, .int .i64 0, .bool false])
   (by simp [results, Tryz.results97, go_sem]) rfl ?_
  refine ⟨by simp [Hd.used, Hd.cells], ?_⟩
  exact (((Below.refl _ _).alloc (Nat.le_refl _) _).alloc (by simp) _).alloc (by simp; omega) _
 by_cases k7 : kind = 7
 ·subst k7
  go_enter Tryz.func97, Tryz.ntmps97
  go_wp2_with fail
  refine bodyPost_ret (v := .agg #[.int .i64 7, .int .u64 0, .int .u64 0, .int .u64 0, .int .u64 0, .slice none 0 0, .int .i64 num, .int .i64 0, .int .i64 0, .bool false])
   (by simp [results, Tryz.results97, go_sem]) rfl ?_
  refine ⟨by simp [Hd.used, Hd.cells], ?_⟩
  exact (((Below.refl _ _).alloc (Nat.le_refl _) _).alloc (by simp) _).alloc (by simp; omega) _
 by_cases k8 : kind = 8
 ·subst k8
  go_enter Tryz.func97, Tryz.ntmps97
  go_wp2_with fail
  refine bodyPost_ret (v := .agg #[.int .i64 8, .int .u64 0, .int .u64 0, .int .u64 0, .int .u64 0, .slice none 0 0, .int .i64 0, .int .i64 mn, .int .i64 mx, .bool bare])
   (by simp [results, Tryz.results97, go_sem]) rfl ?_
  refine ⟨by simp [Hd.used, Hd.cells], ?_⟩
  exact (((Below.refl _ _).alloc (Nat.le_refl _) _).alloc (by simp) _).alloc (by simp; omega) _
 have e2 : (kind == 2) = false := by simp [k2]
 have e7 : (kind == 7) = false := by simp [k7]
 have e8 : (kind == 8) = false := by simp [k8]
 go_enter Tryz.func97, Tryz.ntmps97
 go_wp2_with fail
 refine bodyPost_ret (v := .agg #[.int .i64 kind, .int .u64 0, .int .u64 0, .int .u64 0, .int .u64 0, .slice none 0 0, .int .i64 0, .int .i64 0, .int .i64 0, .bool false])
  (by simp [results, Tryz.results97, go_sem]) rfl ?_
 refine ⟨by simp [Hd.used, Hd.cells, k2, k7, k8], ?_⟩
 exact (((Below.refl _ _).alloc (Nat.le_refl _) _).alloc (by simp) _).alloc (by simp; omega) _
end Go.Proofs.YtpkcklpjbeginaaGreatDoor

/-! ## RefLaw -/
namespace Go.Proofs.YtpkcklpjbeginaaGreatDoor

def Hd.bad (h : Hd) (u : Hd) : Bool :=
 decide (h.kind < 1) || decide (8 < h.kind) || !(h.s0 == u.s0 && h.s1 == u.s1 && h.s2 == u.s2 && h.s3 == u.s3) || h.num != u.num || h.min != u.min || h.max != u.max || h.bare != u.bare

/-- What the document asks beside, of a node of n Subs. -/
def Hd.shape (h : Hd) (n : Int) : Bool :=
 if h.kind = 5 ∨ h.kind = 6 then !decide (n < 2)
 else if h.kind = 7 then !(n != 1 || decide (h.num < 1) || decide (999 < h.num))
 else if h.kind = 8 then !(n != 1 || decide (h.min < 0) || decide (255 < h.min) || decide (h.max < -1) || decide (255 < h.max) || (decide (0 ≤ h.max) && decide (h.max < h.min)) || (h.bare && h.min != 0))
 else !(n != 0)

theorem Hd.formed_ref (h : Hd) (n : Int) : h.formed n = (!h.bad h.used && h.shape n) := by
 obtain ⟨k, s0, s1, s2, s3, num, mn, mx, ba⟩ := h
 by_cases h1 : k = 1
 ·subst h1
  rw [Bool.eq_iff_iff]
  cases ba <;> simp [Hd.formed, Hd.bad, Hd.used, Hd.shape, Hd.plain, Hd.noSet] <;> omega
 by_cases h2 : k = 2
 ·subst h2
  rw [Bool.eq_iff_iff]
  cases ba <;> simp [Hd.formed, Hd.bad, Hd.used, Hd.shape, Hd.plain, Hd.noSet] <;> omega
 by_cases h3 : k = 3
 ·subst h3
  rw [Bool.eq_iff_iff]
  cases ba <;> simp [Hd.formed, Hd.bad, Hd.used, Hd.shape, Hd.plain, Hd.noSet] <;> omega
 by_cases h4 : k = 4
 ·subst h4
  rw [Bool.eq_iff_iff]
  cases ba <;> simp [Hd.formed, Hd.bad, Hd.used, Hd.shape, Hd.plain, Hd.noSet] <;> omega
 by_cases h5 : k = 5
 ·subst h5
  rw [Bool.eq_iff_iff]
  cases ba <;> simp [Hd.formed, Hd.bad, Hd.used, Hd.shape, Hd.plain, Hd.noSet] <;> omega
 by_cases h6 : k = 6
 ·subst h6
  rw [Bool.eq_iff_iff]
  cases ba <;> simp [Hd.formed, Hd.bad, Hd.used, Hd.shape, Hd.plain, Hd.noSet] <;> omega
 by_cases h7 : k = 7
 ·subst h7
  rw [Bool.eq_iff_iff]
  cases ba <;> simp [Hd.formed, Hd.bad, Hd.used, Hd.shape, Hd.plain, Hd.noSet] <;> omega
 by_cases h8 : k = 8
 ·subst h8
  rw [Bool.eq_iff_iff]
  cases ba <;> simp [Hd.formed, Hd.bad, Hd.used, Hd.shape, Hd.plain, Hd.noSet] <;> omega
 ·have g1 : ¬ (k = 1 ∨ k = 3 ∨ k = 4) := by omega
  have g2 : ¬ (k = 5 ∨ k = 6) := by omega
  have g3 : k < 1 ∨ 8 < k := by omega
  simp only [Hd.formed, g1, g2, h2, h7, h8, if_false, Hd.bad]
  rcases g3 with g | g <;> simp [g]
end Go.Proofs.YtpkcklpjbeginaaGreatDoor

/-! ## RefForm -/
namespace Go.Proofs.YtpkcklpjbeginaaGreatDoor
open Go.RowKit

set_option maxRecDepth 100000 in
set_option maxHeartbeats 4000000 in
theorem refForm_gen (N : Nat) : ∀ (t : T) (A : Option Addr) (c : Nat) (w : World), t.nodes ≤ N → (N ≤ 1000000 ∨ t.wf) → T.In w (· < w.heap.size) t A →
  Calls Tryz.prog 62 #[.agg (t.hd.cells (.slice A t.subs.length c)).toArray] w fun e w' => e = .returned (.bool t.form) ∧ Below w.heap.size w w' := by
 induction N with
 | zero => intro t A c w h; have := t.nodes_pos; omega
 | succ N ih =>
  intro t A c w hN hM hin
  obtain ⟨h, l⟩ := t
  have hlen0 := T.length_lt (T.mk h l)
  simp only [T.nodes] at hN
  have hus := hide (fun x => used_any (.mk h l) A c x)
  have hfe := T.form_eq (.mk h l)
  simp only [T.hd, T.subs] at hfe
  obtain ⟨u, hu⟩ : ∃ u, u = h.used := ⟨_, rfl⟩
  have HU := hide hu
  simp only [T.hd, T.subs] at hus
  rw [← hu] at hus
  clear hu
  obtain ⟨kind, s0, s1, s2, s3, num, mn, mx, bare⟩ := h
  obtain ⟨uk, q0, q1, q2, q3, un, um, ux, ub⟩ := u
  simp only [T.nodes, T.hd, T.subs, Hd.cells] at hlen0 hus ⊢
  obtain ⟨res, hres⟩ : ∃ r, r = (T.mk ⟨kind, s0, s1, s2, s3, num, mn, mx, bare⟩ l).form := ⟨_, rfl⟩
  rw [← hres] at hfe ⊢
  clear hres
  obtain ⟨z, hz⟩ : ∃ z, z = (s0 == q0 && s1 == q1 && s2 == q2 && s3 == q3) := ⟨_, rfl⟩
  have hns := fun w => run_neq_set w s0 s1 s2 s3 q0 q1 q2 q3
  rw [← hz] at hns
  obtain ⟨sh, hsh⟩ : ∃ r, r = Hd.shape ⟨kind, s0, s1, s2, s3, num, mn, mx, bare⟩ l.length := ⟨_, rfl⟩
  have hrr : res = (!(decide (kind < 1) || decide (8 < kind) || !z || num != un || mn != um || mx != ux || bare != ub) && sh && TL.form l) := by
   rw [hfe, Hd.formed_ref, ← HU.out, hsh]
   simp only [Hd.bad, hz]
  have HR := hide hrr
  have HSH := hide hsh
  clear hz hfe hrr hsh HU
  go_enter Tryz.func62, Tryz.ntmps62
  go_wp2_with fail
  refine (hus.out _).mono ?_
  rintro e w1 ⟨rfl, hb⟩
  have hb0 := (Blk.new w 27 _).below hb (by simp)
  have hbel := ((Below.refl _ _).alloc (Nat.le_refl _) _).trans (hb.mono (by simp))
  clear hb hus
  go_upto_region 2 with fail
  have hbu := Blk.new w1 27 #[.int .i64 uk, .int .u64 q0, .int .u64 q1, .int .u64 q2, .int .u64 q3, .slice none 0 0, .int .i64 un, .int .i64 um, .int .i64 ux, .bool ub]
  have hbt := hb0.alloc (.cells #[.int .i64 uk, .int .u64 q0, .int .u64 q1, .int .u64 q2, .int .u64 q3, .slice none 0 0, .int .i64 un, .int .i64 um, .int .i64 ux, .bool ub] 27)
  have zt := hb0.lt
  have hbel2 := hbel.alloc (by omega) (.cells #[.int .i64 uk, .int .u64 q0, .int .u64 q1, .int .u64 q2, .int .u64 q3, .slice none 0 0, .int .i64 un, .int .i64 um, .int .i64 ux, .bool ub] 27)
  have zu : w1.heap.size < (w1.alloc (.cells #[.int .i64 uk, .int .u64 q0, .int .u64 q1, .int .u64 q2, .int .u64 q3, .slice none 0 0, .int .i64 un, .int .i64 um, .int .i64 ux, .bool ub] 27)).heap.size := by simp
  generalize (w1.alloc (.cells #[.int .i64 uk, .int .u64 q0, .int .u64 q1, .int .u64 q2, .int .u64 q3, .slice none 0 0, .int .i64 un, .int .i64 um, .int .i64 ux, .bool ub] 27)) = W at *
  generalize hgu : w1.heap.size = gu at *
  clear hb0 hbel hgu
  have HB := hide (And.intro hbt hbel2)
  clear hbel2
  have ct := hbt.cell
  have cu := hbu.cell
  clear hbt hbu
  go_cut [51] (fun v wx => v = .bool (decide (kind < 1) || decide (8 < kind) || !z || num != un || mn != um || mx != ux || bare != ub) ∧ wx = W)
  case first =>
   by_cases c0 : kind < 1
   case pos =>
    have e_c0 : decide (kind < 1) = true := decide_eq_true c0
    go_wp2_with fail
    go_meet
    case rel => exact ⟨by simp [e_c0], rfl⟩
   have e_c0 : decide (kind < 1) = false := decide_eq_false c0
   by_cases c1 : 8 < kind
   case pos =>
    have e_c1 : decide (8 < kind) = true := decide_eq_true c1
    go_wp2_with fail
    go_meet
    case rel => exact ⟨by simp [e_c0, e_c1], rfl⟩
   have e_c1 : decide (8 < kind) = false := decide_eq_false c1
   cases z with
   | false =>
    go_wp2_with fail
    go_meet
    case rel => exact ⟨by simp [e_c0, e_c1], rfl⟩
   | true =>
    by_cases k_num : num = un
    case neg =>
     have e_num : (num != un) = true := by simp [k_num]
     go_wp2_with fail
     go_meet
     case rel => exact ⟨by simp [e_c0, e_c1, e_num], rfl⟩
    have e_num : (num != un) = false := by simp [k_num]
    clear k_num
    by_cases k_mn : mn = um
    case neg =>
     have e_mn : (mn != um) = true := by simp [k_mn]
     go_wp2_with fail
     go_meet
     case rel => exact ⟨by simp [e_c0, e_c1, e_num, e_mn], rfl⟩
    have e_mn : (mn != um) = false := by simp [k_mn]
    clear k_mn
    by_cases k_mx : mx = ux
    case neg =>
     have e_mx : (mx != ux) = true := by simp [k_mx]
     go_wp2_with fail
     go_meet
     case rel => exact ⟨by simp [e_c0, e_c1, e_num, e_mn, e_mx], rfl⟩
    have e_mx : (mx != ux) = false := by simp [k_mx]
    clear k_mx
    go_wp2_with fail
    go_meet
    case rel => exact ⟨by simp [e_c0, e_c1, e_num, e_mn, e_mx]; cases bare <;> cases ub <;> rfl, rfl⟩
  case rest =>
   obtain ⟨rfl, rfl⟩ := hcut
   generalize (decide (kind < 1) || decide (8 < kind) || !z || num != un || mn != um || mx != ux || bare != ub) = bad at HR ⊢
   cases bad with
   | true =>
    go_wp2_with fail
    go_ret
    exact ⟨by rw [HR.out]; rfl, HB.out.2⟩
   | false =>
    have hl63 : l.length ≤ 9223372036854775807 := by
     rcases hM with hM | hM
     ·omega
     ·exact hM.2.1
    by_cases k5 : kind = 5
    case pos =>
     subst k5
     by_cases n2 : (l.length : Int) < 2
     case pos =>
      have e_n2 : decide ((l.length : Int) < 2) = true := decide_eq_true n2
      have hs : sh = false := by rw [HSH.out]; generalize (l.length : Int) = n at e_n2 ⊢; simp [Hd.shape, e_n2]
      subst hs
      go_wp2_with fail
      go_ret
      exact ⟨by rw [HR.out]; rfl, HB.out.2⟩
     have e_n2 : decide ((l.length : Int) < 2) = false := decide_eq_false n2
     have hs : sh = true := by rw [HSH.out]; generalize (l.length : Int) = n at e_n2 ⊢; simp [Hd.shape, e_n2]
     subst hs
     go_wp2_with fail
     clear ct cu
     go_loopw [5] (fun kv wr => ∃ k : Nat, kv = .int .i64 k ∧ FormInv l w wr w.heap.size #[.int .i64 5, .int .u64 s0, .int .u64 s1, .int .u64 s2, .int .u64 s3, .slice A l.length c, .int .i64 num, .int .i64 mn, .int .i64 mx, .bool bare] k) (fun kv _ => l.length - (intOf kv).toNat)
     case atStart => exact ⟨0, rfl, ⟨Nat.zero_le _, rfl, HB.out.1, HB.out.2⟩⟩
     case round =>
      obtain ⟨k, rfl, hinv⟩ := hrel
      have hk := hinv.le
      have c0 := hinv.box.cell
      have z0 := hinv.box.lt
      by_cases hlt : k < l.length
      ·have g1 : decide ((k : Int) < (l.length : Int)) = true := decide_eq_true (by omega)
       have hs := List.getElem?_eq_getElem hlt
       obtain ⟨b, o, B, c', rfl, hbk, hcs, hsub⟩ := TL.In.at_ (T.In_iff.1 hin) hs
       have hmem := List.getElem_mem hlt
       have hsn := TL.nodes_mem hmem
       have hdrop : l.drop k = l[k] :: l.drop (k + 1) := List.drop_eq_getElem_cons hlt
       have heq := hinv.eq
       rw [hdrop, TL.form] at heq
       generalize l[k] = s at *
       obtain ⟨n0, n1, n2, n3, n4, n5, n6, n7, n8, n9⟩ := (hcs.same (same_of_below hinv.below) hbk).node
       have HQ := hide heq
       have HI := hide hinv
       have HX := hide (fun y hy => ih s B c' y (by omega) (hM.imp (fun h => by omega) (fun h => TL.wf_mem h.2.2 (List.mem_of_getElem? hs))) hy)
       have HBB := hide (hsub.same (ok' := (· < wr.heap.size)) (same_of_below hinv.below) (fun x hx => Nat.lt_of_lt_of_le hx hinv.below.size))
       clear hs hcs hinv hdrop heq hsub
       go_wp2_with fail
       refine (HX.out _ HBB.out).mono ?_
       rintro e w2 ⟨rfl, hb1⟩
       have HH := hide hb1
       clear hb1
       generalize s.form = sf at *
       cases sf with
       | false =>
        go_wp2_with fail
        go_ret
        have hq := HQ.out
        rw [Bool.false_and] at hq
        exact ⟨by rw [HR.out, ← hq]; rfl, HI.out.below.trans (HH.out.mono HI.out.below.size)⟩
       | true =>
        go_wp2_with fail
        go_roundw
        case rel =>
         have hq := HQ.out
         rw [Bool.true_and] at hq
         exact ⟨k + 1, by go_num, ⟨hlt, hq, HI.out.box.below HH.out z0, HI.out.below.trans (HH.out.mono HI.out.below.size)⟩⟩
        case measure => simp [intOf]; omega
      ·have g1 : decide ((k : Int) < (l.length : Int)) = false := decide_eq_false (by omega)
       have hq := hinv.eq
       rw [List.drop_eq_nil_of_le (by omega)] at hq
       have HQ := hide (And.intro hq hinv.below)
       clear hq hinv
       go_wp2_with fail
       go_ret
       exact ⟨by rw [HR.out, ← HQ.out.1]; rfl, HQ.out.2⟩
    by_cases k6 : kind = 6
    case pos =>
     subst k6
     by_cases n2 : (l.length : Int) < 2
     case pos =>
      have e_n2 : decide ((l.length : Int) < 2) = true := decide_eq_true n2
      have hs : sh = false := by rw [HSH.out]; generalize (l.length : Int) = n at e_n2 ⊢; simp [Hd.shape, e_n2]
      subst hs
      go_wp2_with fail
      go_ret
      exact ⟨by rw [HR.out]; rfl, HB.out.2⟩
     have e_n2 : decide ((l.length : Int) < 2) = false := decide_eq_false n2
     have hs : sh = true := by rw [HSH.out]; generalize (l.length : Int) = n at e_n2 ⊢; simp [Hd.shape, e_n2]
     subst hs
     go_wp2_with fail
     clear ct cu
     go_loopw [5] (fun kv wr => ∃ k : Nat, kv = .int .i64 k ∧ FormInv l w wr w.heap.size #[.int .i64 6, .int .u64 s0, .int .u64 s1, .int .u64 s2, .int .u64 s3, .slice A l.length c, .int .i64 num, .int .i64 mn, .int .i64 mx, .bool bare] k) (fun kv _ => l.length - (intOf kv).toNat)
     case atStart => exact ⟨0, rfl, ⟨Nat.zero_le _, rfl, HB.out.1, HB.out.2⟩⟩
     case round =>
      obtain ⟨k, rfl, hinv⟩ := hrel
      have hk := hinv.le
      have c0 := hinv.box.cell
      have z0 := hinv.box.lt
      by_cases hlt : k < l.length
      ·have g1 : decide ((k : Int) < (l.length : Int)) = true := decide_eq_true (by omega)
       have hs := List.getElem?_eq_getElem hlt
       obtain ⟨b, o, B, c', rfl, hbk, hcs, hsub⟩ := TL.In.at_ (T.In_iff.1 hin) hs
       have hmem := List.getElem_mem hlt
       have hsn := TL.nodes_mem hmem
       have hdrop : l.drop k = l[k] :: l.drop (k + 1) := List.drop_eq_getElem_cons hlt
       have heq := hinv.eq
       rw [hdrop, TL.form] at heq
       generalize l[k] = s at *
       obtain ⟨n0, n1, n2, n3, n4, n5, n6, n7, n8, n9⟩ := (hcs.same (same_of_below hinv.below) hbk).node
       have HQ := hide heq
       have HI := hide hinv
       have HX := hide (fun y hy => ih s B c' y (by omega) (hM.imp (fun h => by omega) (fun h => TL.wf_mem h.2.2 (List.mem_of_getElem? hs))) hy)
       have HBB := hide (hsub.same (ok' := (· < wr.heap.size)) (same_of_below hinv.below) (fun x hx => Nat.lt_of_lt_of_le hx hinv.below.size))
       clear hs hcs hinv hdrop heq hsub
       go_wp2_with fail
       refine (HX.out _ HBB.out).mono ?_
       rintro e w2 ⟨rfl, hb1⟩
       have HH := hide hb1
       clear hb1
       generalize s.form = sf at *
       cases sf with
       | false =>
        go_wp2_with fail
        go_ret
        have hq := HQ.out
        rw [Bool.false_and] at hq
        exact ⟨by rw [HR.out, ← hq]; rfl, HI.out.below.trans (HH.out.mono HI.out.below.size)⟩
       | true =>
        go_wp2_with fail
        go_roundw
        case rel =>
         have hq := HQ.out
         rw [Bool.true_and] at hq
         exact ⟨k + 1, by go_num, ⟨hlt, hq, HI.out.box.below HH.out z0, HI.out.below.trans (HH.out.mono HI.out.below.size)⟩⟩
        case measure => simp [intOf]; omega
      ·have g1 : decide ((k : Int) < (l.length : Int)) = false := decide_eq_false (by omega)
       have hq := hinv.eq
       rw [List.drop_eq_nil_of_le (by omega)] at hq
       have HQ := hide (And.intro hq hinv.below)
       clear hq hinv
       go_wp2_with fail
       go_ret
       exact ⟨by rw [HR.out, ← HQ.out.1]; rfl, HQ.out.2⟩
    by_cases k7 : kind = 7
    case pos =>
     subst k7
     by_cases n1 : ¬ ((l.length : Int) = 1)
     case pos =>
      have e_n1 : (((l.length : Int)) != 1) = true := bne_iff_ne.2 n1
      have hs : sh = false := by rw [HSH.out]; generalize (l.length : Int) = n at e_n1 ⊢; simp [Hd.shape, e_n1]
      subst hs
      go_wp2_with fail
      go_ret
      exact ⟨by rw [HR.out]; rfl, HB.out.2⟩
     have f_n1 : (l.length : Int) = 1 := by omega
     have e_n1 : (((l.length : Int)) != 1) = false := bne_eq_false_iff_eq.2 f_n1
     clear f_n1
     by_cases m1 : num < 1
     case pos =>
      have e_m1 : decide (num < 1) = true := decide_eq_true m1
      have hs : sh = false := by rw [HSH.out]; generalize (l.length : Int) = n at e_n1 ⊢; simp [Hd.shape, e_n1, e_m1]
      subst hs
      go_wp2_with fail
      go_ret
      exact ⟨by rw [HR.out]; rfl, HB.out.2⟩
     have e_m1 : decide (num < 1) = false := decide_eq_false m1
     by_cases m2 : 999 < num
     case pos =>
      have e_m2 : decide (999 < num) = true := decide_eq_true m2
      have hs : sh = false := by rw [HSH.out]; generalize (l.length : Int) = n at e_n1 ⊢; simp [Hd.shape, e_n1, e_m1, e_m2]
      subst hs
      go_wp2_with fail
      go_ret
      exact ⟨by rw [HR.out]; rfl, HB.out.2⟩
     have e_m2 : decide (999 < num) = false := decide_eq_false m2
     have hs : sh = true := by rw [HSH.out]; generalize (l.length : Int) = n at e_n1 ⊢; simp [Hd.shape, e_n1, e_m1, e_m2]
     subst hs
     go_wp2_with fail
     clear ct cu
     go_loopw [5] (fun kv wr => ∃ k : Nat, kv = .int .i64 k ∧ FormInv l w wr w.heap.size #[.int .i64 7, .int .u64 s0, .int .u64 s1, .int .u64 s2, .int .u64 s3, .slice A l.length c, .int .i64 num, .int .i64 mn, .int .i64 mx, .bool bare] k) (fun kv _ => l.length - (intOf kv).toNat)
     case atStart => exact ⟨0, rfl, ⟨Nat.zero_le _, rfl, HB.out.1, HB.out.2⟩⟩
     case round =>
      obtain ⟨k, rfl, hinv⟩ := hrel
      have hk := hinv.le
      have c0 := hinv.box.cell
      have z0 := hinv.box.lt
      by_cases hlt : k < l.length
      ·have g1 : decide ((k : Int) < (l.length : Int)) = true := decide_eq_true (by omega)
       have hs := List.getElem?_eq_getElem hlt
       obtain ⟨b, o, B, c', rfl, hbk, hcs, hsub⟩ := TL.In.at_ (T.In_iff.1 hin) hs
       have hmem := List.getElem_mem hlt
       have hsn := TL.nodes_mem hmem
       have hdrop : l.drop k = l[k] :: l.drop (k + 1) := List.drop_eq_getElem_cons hlt
       have heq := hinv.eq
       rw [hdrop, TL.form] at heq
       generalize l[k] = s at *
       obtain ⟨n0, n1, n2, n3, n4, n5, n6, n7, n8, n9⟩ := (hcs.same (same_of_below hinv.below) hbk).node
       have HQ := hide heq
       have HI := hide hinv
       have HX := hide (fun y hy => ih s B c' y (by omega) (hM.imp (fun h => by omega) (fun h => TL.wf_mem h.2.2 (List.mem_of_getElem? hs))) hy)
       have HBB := hide (hsub.same (ok' := (· < wr.heap.size)) (same_of_below hinv.below) (fun x hx => Nat.lt_of_lt_of_le hx hinv.below.size))
       clear hs hcs hinv hdrop heq hsub
       go_wp2_with fail
       refine (HX.out _ HBB.out).mono ?_
       rintro e w2 ⟨rfl, hb1⟩
       have HH := hide hb1
       clear hb1
       generalize s.form = sf at *
       cases sf with
       | false =>
        go_wp2_with fail
        go_ret
        have hq := HQ.out
        rw [Bool.false_and] at hq
        exact ⟨by rw [HR.out, ← hq]; rfl, HI.out.below.trans (HH.out.mono HI.out.below.size)⟩
       | true =>
        go_wp2_with fail
        go_roundw
        case rel =>
         have hq := HQ.out
         rw [Bool.true_and] at hq
         exact ⟨k + 1, by go_num, ⟨hlt, hq, HI.out.box.below HH.out z0, HI.out.below.trans (HH.out.mono HI.out.below.size)⟩⟩
        case measure => simp [intOf]; omega
      ·have g1 : decide ((k : Int) < (l.length : Int)) = false := decide_eq_false (by omega)
       have hq := hinv.eq
       rw [List.drop_eq_nil_of_le (by omega)] at hq
       have HQ := hide (And.intro hq hinv.below)
       clear hq hinv
       go_wp2_with fail
       go_ret
       exact ⟨by rw [HR.out, ← HQ.out.1]; rfl, HQ.out.2⟩
    by_cases k8 : kind = 8
    case pos =>
     subst k8
     by_cases n1 : ¬ ((l.length : Int) = 1)
     case pos =>
      have e_n1 : (((l.length : Int)) != 1) = true := bne_iff_ne.2 n1
      have hs : sh = false := by rw [HSH.out]; generalize (l.length : Int) = n at e_n1 ⊢; simp [Hd.shape, e_n1]
      subst hs
      go_wp2_with fail
      go_ret
      exact ⟨by rw [HR.out]; rfl, HB.out.2⟩
     have f_n1 : (l.length : Int) = 1 := by omega
     have e_n1 : (((l.length : Int)) != 1) = false := bne_eq_false_iff_eq.2 f_n1
     clear f_n1
     by_cases m1 : mn < 0
     case pos =>
      have e_m1 : decide (mn < 0) = true := decide_eq_true m1
      have hs : sh = false := by rw [HSH.out]; generalize (l.length : Int) = n at e_n1 ⊢; simp [Hd.shape, e_n1, e_m1]
      subst hs
      go_wp2_with fail
      go_ret
      exact ⟨by rw [HR.out]; rfl, HB.out.2⟩
     have e_m1 : decide (mn < 0) = false := decide_eq_false m1
     by_cases m2 : 255 < mn
     case pos =>
      have e_m2 : decide (255 < mn) = true := decide_eq_true m2
      have hs : sh = false := by rw [HSH.out]; generalize (l.length : Int) = n at e_n1 ⊢; simp [Hd.shape, e_n1, e_m1, e_m2]
      subst hs
      go_wp2_with fail
      go_ret
      exact ⟨by rw [HR.out]; rfl, HB.out.2⟩
     have e_m2 : decide (255 < mn) = false := decide_eq_false m2
     by_cases m3 : mx < -1
     case pos =>
      have e_m3 : decide (mx < -1) = true := decide_eq_true m3
      have hs : sh = false := by rw [HSH.out]; generalize (l.length : Int) = n at e_n1 ⊢; simp [Hd.shape, e_n1, e_m1, e_m2, e_m3]
      subst hs
      go_wp2_with fail
      go_ret
      exact ⟨by rw [HR.out]; rfl, HB.out.2⟩
     have e_m3 : decide (mx < -1) = false := decide_eq_false m3
     by_cases m4 : 255 < mx
     case pos =>
      have e_m4 : decide (255 < mx) = true := decide_eq_true m4
      have hs : sh = false := by rw [HSH.out]; generalize (l.length : Int) = n at e_n1 ⊢; simp [Hd.shape, e_n1, e_m1, e_m2, e_m3, e_m4]
      subst hs
      go_wp2_with fail
      go_ret
      exact ⟨by rw [HR.out]; rfl, HB.out.2⟩
     have e_m4 : decide (255 < mx) = false := decide_eq_false m4
     by_cases m5 : 0 ≤ mx
     case pos =>
      have e_m5 : decide (0 ≤ mx) = true := decide_eq_true m5
      by_cases m6 : mx < mn
      case pos =>
       have e_m6 : decide (mx < mn) = true := decide_eq_true m6
       have hs : sh = false := by rw [HSH.out]; generalize (l.length : Int) = n at e_n1 ⊢; simp [Hd.shape, e_n1, e_m1, e_m2, e_m3, e_m4, e_m5, e_m6]
       subst hs
       go_wp2_with fail
       go_ret
       exact ⟨by rw [HR.out]; rfl, HB.out.2⟩
      have e_m6 : decide (mx < mn) = false := decide_eq_false m6
      cases bare with
      | false =>
       have hs : sh = true := by rw [HSH.out]; generalize (l.length : Int) = n at e_n1 ⊢; simp [Hd.shape, e_n1, e_m1, e_m2, e_m3, e_m4, e_m5, e_m6]
       subst hs
       go_wp2_with fail
       clear ct cu
       go_loopw [5] (fun kv wr => ∃ k : Nat, kv = .int .i64 k ∧ FormInv l w wr w.heap.size #[.int .i64 8, .int .u64 s0, .int .u64 s1, .int .u64 s2, .int .u64 s3, .slice A l.length c, .int .i64 num, .int .i64 mn, .int .i64 mx, .bool false] k) (fun kv _ => l.length - (intOf kv).toNat)
       case atStart => exact ⟨0, rfl, ⟨Nat.zero_le _, rfl, HB.out.1, HB.out.2⟩⟩
       case round =>
        obtain ⟨k, rfl, hinv⟩ := hrel
        have hk := hinv.le
        have c0 := hinv.box.cell
        have z0 := hinv.box.lt
        by_cases hlt : k < l.length
        ·have g1 : decide ((k : Int) < (l.length : Int)) = true := decide_eq_true (by omega)
         have hs := List.getElem?_eq_getElem hlt
         obtain ⟨b, o, B, c', rfl, hbk, hcs, hsub⟩ := TL.In.at_ (T.In_iff.1 hin) hs
         have hmem := List.getElem_mem hlt
         have hsn := TL.nodes_mem hmem
         have hdrop : l.drop k = l[k] :: l.drop (k + 1) := List.drop_eq_getElem_cons hlt
         have heq := hinv.eq
         rw [hdrop, TL.form] at heq
         generalize l[k] = s at *
         obtain ⟨n0, n1, n2, n3, n4, n5, n6, n7, n8, n9⟩ := (hcs.same (same_of_below hinv.below) hbk).node
         have HQ := hide heq
         have HI := hide hinv
         have HX := hide (fun y hy => ih s B c' y (by omega) (hM.imp (fun h => by omega) (fun h => TL.wf_mem h.2.2 (List.mem_of_getElem? hs))) hy)
         have HBB := hide (hsub.same (ok' := (· < wr.heap.size)) (same_of_below hinv.below) (fun x hx => Nat.lt_of_lt_of_le hx hinv.below.size))
         clear hs hcs hinv hdrop heq hsub
         go_wp2_with fail
         refine (HX.out _ HBB.out).mono ?_
         rintro e w2 ⟨rfl, hb1⟩
         have HH := hide hb1
         clear hb1
         generalize s.form = sf at *
         cases sf with
         | false =>
          go_wp2_with fail
          go_ret
          have hq := HQ.out
          rw [Bool.false_and] at hq
          exact ⟨by rw [HR.out, ← hq]; rfl, HI.out.below.trans (HH.out.mono HI.out.below.size)⟩
         | true =>
          go_wp2_with fail
          go_roundw
          case rel =>
           have hq := HQ.out
           rw [Bool.true_and] at hq
           exact ⟨k + 1, by go_num, ⟨hlt, hq, HI.out.box.below HH.out z0, HI.out.below.trans (HH.out.mono HI.out.below.size)⟩⟩
          case measure => simp [intOf]; omega
        ·have g1 : decide ((k : Int) < (l.length : Int)) = false := decide_eq_false (by omega)
         have hq := hinv.eq
         rw [List.drop_eq_nil_of_le (by omega)] at hq
         have HQ := hide (And.intro hq hinv.below)
         clear hq hinv
         go_wp2_with fail
         go_ret
         exact ⟨by rw [HR.out, ← HQ.out.1]; rfl, HQ.out.2⟩
      | true =>
       by_cases m7 : ¬ (mn = 0)
       case pos =>
        have e_m7 : ((mn) != 0) = true := bne_iff_ne.2 m7
        have hs : sh = false := by rw [HSH.out]; generalize (l.length : Int) = n at e_n1 ⊢; simp [Hd.shape, e_n1, e_m1, e_m2, e_m3, e_m4, e_m5, e_m6, e_m7]
        subst hs
        go_wp2_with fail
        go_ret
        exact ⟨by rw [HR.out]; rfl, HB.out.2⟩
       have f_m7 : mn = 0 := by omega
       have e_m7 : ((mn) != 0) = false := bne_eq_false_iff_eq.2 f_m7
       clear f_m7
       have hs : sh = true := by rw [HSH.out]; generalize (l.length : Int) = n at e_n1 ⊢; simp [Hd.shape, e_n1, e_m1, e_m2, e_m3, e_m4, e_m5, e_m6, e_m7]
       subst hs
       go_wp2_with fail
       clear ct cu
       go_loopw [5] (fun kv wr => ∃ k : Nat, kv = .int .i64 k ∧ FormInv l w wr w.heap.size #[.int .i64 8, .int .u64 s0, .int .u64 s1, .int .u64 s2, .int .u64 s3, .slice A l.length c, .int .i64 num, .int .i64 mn, .int .i64 mx, .bool true] k) (fun kv _ => l.length - (intOf kv).toNat)
       case atStart => exact ⟨0, rfl, ⟨Nat.zero_le _, rfl, HB.out.1, HB.out.2⟩⟩
       case round =>
        obtain ⟨k, rfl, hinv⟩ := hrel
        have hk := hinv.le
        have c0 := hinv.box.cell
        have z0 := hinv.box.lt
        by_cases hlt : k < l.length
        ·have g1 : decide ((k : Int) < (l.length : Int)) = true := decide_eq_true (by omega)
         have hs := List.getElem?_eq_getElem hlt
         obtain ⟨b, o, B, c', rfl, hbk, hcs, hsub⟩ := TL.In.at_ (T.In_iff.1 hin) hs
         have hmem := List.getElem_mem hlt
         have hsn := TL.nodes_mem hmem
         have hdrop : l.drop k = l[k] :: l.drop (k + 1) := List.drop_eq_getElem_cons hlt
         have heq := hinv.eq
         rw [hdrop, TL.form] at heq
         generalize l[k] = s at *
         obtain ⟨n0, n1, n2, n3, n4, n5, n6, n7, n8, n9⟩ := (hcs.same (same_of_below hinv.below) hbk).node
         have HQ := hide heq
         have HI := hide hinv
         have HX := hide (fun y hy => ih s B c' y (by omega) (hM.imp (fun h => by omega) (fun h => TL.wf_mem h.2.2 (List.mem_of_getElem? hs))) hy)
         have HBB := hide (hsub.same (ok' := (· < wr.heap.size)) (same_of_below hinv.below) (fun x hx => Nat.lt_of_lt_of_le hx hinv.below.size))
         clear hs hcs hinv hdrop heq hsub
         go_wp2_with fail
         refine (HX.out _ HBB.out).mono ?_
         rintro e w2 ⟨rfl, hb1⟩
         have HH := hide hb1
         clear hb1
         generalize s.form = sf at *
         cases sf with
         | false =>
          go_wp2_with fail
          go_ret
          have hq := HQ.out
          rw [Bool.false_and] at hq
          exact ⟨by rw [HR.out, ← hq]; rfl, HI.out.below.trans (HH.out.mono HI.out.below.size)⟩
         | true =>
          go_wp2_with fail
          go_roundw
          case rel =>
           have hq := HQ.out
           rw [Bool.true_and] at hq
           exact ⟨k + 1, by go_num, ⟨hlt, hq, HI.out.box.below HH.out z0, HI.out.below.trans (HH.out.mono HI.out.below.size)⟩⟩
          case measure => simp [intOf]; omega
        ·have g1 : decide ((k : Int) < (l.length : Int)) = false := decide_eq_false (by omega)
         have hq := hinv.eq
         rw [List.drop_eq_nil_of_le (by omega)] at hq
         have HQ := hide (And.intro hq hinv.below)
         clear hq hinv
         go_wp2_with fail
         go_ret
         exact ⟨by rw [HR.out, ← HQ.out.1]; rfl, HQ.out.2⟩
     case neg =>
      have e_m5 : decide (0 ≤ mx) = false := decide_eq_false m5
      cases bare with
      | false =>
       have hs : sh = true := by rw [HSH.out]; generalize (l.length : Int) = n at e_n1 ⊢; simp [Hd.shape, e_n1, e_m1, e_m2, e_m3, e_m4, e_m5]
       subst hs
       go_wp2_with fail
       clear ct cu
       go_loopw [5] (fun kv wr => ∃ k : Nat, kv = .int .i64 k ∧ FormInv l w wr w.heap.size #[.int .i64 8, .int .u64 s0, .int .u64 s1, .int .u64 s2, .int .u64 s3, .slice A l.length c, .int .i64 num, .int .i64 mn, .int .i64 mx, .bool false] k) (fun kv _ => l.length - (intOf kv).toNat)
       case atStart => exact ⟨0, rfl, ⟨Nat.zero_le _, rfl, HB.out.1, HB.out.2⟩⟩
       case round =>
        obtain ⟨k, rfl, hinv⟩ := hrel
        have hk := hinv.le
        have c0 := hinv.box.cell
        have z0 := hinv.box.lt
        by_cases hlt : k < l.length
        ·have g1 : decide ((k : Int) < (l.length : Int)) = true := decide_eq_true (by omega)
         have hs := List.getElem?_eq_getElem hlt
         obtain ⟨b, o, B, c', rfl, hbk, hcs, hsub⟩ := TL.In.at_ (T.In_iff.1 hin) hs
         have hmem := List.getElem_mem hlt
         have hsn := TL.nodes_mem hmem
         have hdrop : l.drop k = l[k] :: l.drop (k + 1) := List.drop_eq_getElem_cons hlt
         have heq := hinv.eq
         rw [hdrop, TL.form] at heq
         generalize l[k] = s at *
         obtain ⟨n0, n1, n2, n3, n4, n5, n6, n7, n8, n9⟩ := (hcs.same (same_of_below hinv.below) hbk).node
         have HQ := hide heq
         have HI := hide hinv
         have HX := hide (fun y hy => ih s B c' y (by omega) (hM.imp (fun h => by omega) (fun h => TL.wf_mem h.2.2 (List.mem_of_getElem? hs))) hy)
         have HBB := hide (hsub.same (ok' := (· < wr.heap.size)) (same_of_below hinv.below) (fun x hx => Nat.lt_of_lt_of_le hx hinv.below.size))
         clear hs hcs hinv hdrop heq hsub
         go_wp2_with fail
         refine (HX.out _ HBB.out).mono ?_
         rintro e w2 ⟨rfl, hb1⟩
         have HH := hide hb1
         clear hb1
         generalize s.form = sf at *
         cases sf with
         | false =>
          go_wp2_with fail
          go_ret
          have hq := HQ.out
          rw [Bool.false_and] at hq
          exact ⟨by rw [HR.out, ← hq]; rfl, HI.out.below.trans (HH.out.mono HI.out.below.size)⟩
         | true =>
          go_wp2_with fail
          go_roundw
          case rel =>
           have hq := HQ.out
           rw [Bool.true_and] at hq
           exact ⟨k + 1, by go_num, ⟨hlt, hq, HI.out.box.below HH.out z0, HI.out.below.trans (HH.out.mono HI.out.below.size)⟩⟩
          case measure => simp [intOf]; omega
        ·have g1 : decide ((k : Int) < (l.length : Int)) = false := decide_eq_false (by omega)
         have hq := hinv.eq
         rw [List.drop_eq_nil_of_le (by omega)] at hq
         have HQ := hide (And.intro hq hinv.below)
         clear hq hinv
         go_wp2_with fail
         go_ret
         exact ⟨by rw [HR.out, ← HQ.out.1]; rfl, HQ.out.2⟩
      | true =>
       by_cases m7 : ¬ (mn = 0)
       case pos =>
        have e_m7 : ((mn) != 0) = true := bne_iff_ne.2 m7
        have hs : sh = false := by rw [HSH.out]; generalize (l.length : Int) = n at e_n1 ⊢; simp [Hd.shape, e_n1, e_m1, e_m2, e_m3, e_m4, e_m5, e_m7]
        subst hs
        go_wp2_with fail
        go_ret
        exact ⟨by rw [HR.out]; rfl, HB.out.2⟩
       have f_m7 : mn = 0 := by omega
       have e_m7 : ((mn) != 0) = false := bne_eq_false_iff_eq.2 f_m7
       clear f_m7
       have hs : sh = true := by rw [HSH.out]; generalize (l.length : Int) = n at e_n1 ⊢; simp [Hd.shape, e_n1, e_m1, e_m2, e_m3, e_m4, e_m5, e_m7]
       subst hs
       go_wp2_with fail
       clear ct cu
       go_loopw [5] (fun kv wr => ∃ k : Nat, kv = .int .i64 k ∧ FormInv l w wr w.heap.size #[.int .i64 8, .int .u64 s0, .int .u64 s1, .int .u64 s2, .int .u64 s3, .slice A l.length c, .int .i64 num, .int .i64 mn, .int .i64 mx, .bool true] k) (fun kv _ => l.length - (intOf kv).toNat)
       case atStart => exact ⟨0, rfl, ⟨Nat.zero_le _, rfl, HB.out.1, HB.out.2⟩⟩
       case round =>
        obtain ⟨k, rfl, hinv⟩ := hrel
        have hk := hinv.le
        have c0 := hinv.box.cell
        have z0 := hinv.box.lt
        by_cases hlt : k < l.length
        ·have g1 : decide ((k : Int) < (l.length : Int)) = true := decide_eq_true (by omega)
         have hs := List.getElem?_eq_getElem hlt
         obtain ⟨b, o, B, c', rfl, hbk, hcs, hsub⟩ := TL.In.at_ (T.In_iff.1 hin) hs
         have hmem := List.getElem_mem hlt
         have hsn := TL.nodes_mem hmem
         have hdrop : l.drop k = l[k] :: l.drop (k + 1) := List.drop_eq_getElem_cons hlt
         have heq := hinv.eq
         rw [hdrop, TL.form] at heq
         generalize l[k] = s at *
         obtain ⟨n0, n1, n2, n3, n4, n5, n6, n7, n8, n9⟩ := (hcs.same (same_of_below hinv.below) hbk).node
         have HQ := hide heq
         have HI := hide hinv
         have HX := hide (fun y hy => ih s B c' y (by omega) (hM.imp (fun h => by omega) (fun h => TL.wf_mem h.2.2 (List.mem_of_getElem? hs))) hy)
         have HBB := hide (hsub.same (ok' := (· < wr.heap.size)) (same_of_below hinv.below) (fun x hx => Nat.lt_of_lt_of_le hx hinv.below.size))
         clear hs hcs hinv hdrop heq hsub
         go_wp2_with fail
         refine (HX.out _ HBB.out).mono ?_
         rintro e w2 ⟨rfl, hb1⟩
         have HH := hide hb1
         clear hb1
         generalize s.form = sf at *
         cases sf with
         | false =>
          go_wp2_with fail
          go_ret
          have hq := HQ.out
          rw [Bool.false_and] at hq
          exact ⟨by rw [HR.out, ← hq]; rfl, HI.out.below.trans (HH.out.mono HI.out.below.size)⟩
         | true =>
          go_wp2_with fail
          go_roundw
          case rel =>
           have hq := HQ.out
           rw [Bool.true_and] at hq
           exact ⟨k + 1, by go_num, ⟨hlt, hq, HI.out.box.below HH.out z0, HI.out.below.trans (HH.out.mono HI.out.below.size)⟩⟩
          case measure => simp [intOf]; omega
        ·have g1 : decide ((k : Int) < (l.length : Int)) = false := decide_eq_false (by omega)
         have hq := hinv.eq
         rw [List.drop_eq_nil_of_le (by omega)] at hq
         have HQ := hide (And.intro hq hinv.below)
         clear hq hinv
         go_wp2_with fail
         go_ret
         exact ⟨by rw [HR.out, ← HQ.out.1]; rfl, HQ.out.2⟩
    have e5 : (kind == 5) = false := by simp [k5]
    have e6 : (kind == 6) = false := by simp [k6]
    have e7 : (kind == 7) = false := by simp [k7]
    have e8 : (kind == 8) = false := by simp [k8]
    by_cases n0 : ¬ ((l.length : Int) = 0)
    case pos =>
     have e_n0 : (((l.length : Int)) != 0) = true := bne_iff_ne.2 n0
     have hs : sh = false := by rw [HSH.out]; generalize (l.length : Int) = n at e_n0 ⊢; simp [Hd.shape, k5, k6, k7, k8, e_n0]
     subst hs
     go_wp2_with fail
     go_ret
     exact ⟨by rw [HR.out]; rfl, HB.out.2⟩
    have f_n0 : (l.length : Int) = 0 := by omega
    have e_n0 : (((l.length : Int)) != 0) = false := bne_eq_false_iff_eq.2 f_n0
    clear f_n0
    have hs : sh = true := by rw [HSH.out]; generalize (l.length : Int) = n at e_n0 ⊢; simp [Hd.shape, k5, k6, k7, k8, e_n0]
    subst hs
    go_wp2_with fail
    clear ct cu e_n0
    go_loopw [5] (fun kv wr => ∃ k : Nat, kv = .int .i64 k ∧ FormInv l w wr w.heap.size #[.int .i64 kind, .int .u64 s0, .int .u64 s1, .int .u64 s2, .int .u64 s3, .slice A l.length c, .int .i64 num, .int .i64 mn, .int .i64 mx, .bool bare] k) (fun kv _ => l.length - (intOf kv).toNat)
    case atStart => exact ⟨0, rfl, ⟨Nat.zero_le _, rfl, HB.out.1, HB.out.2⟩⟩
    case round =>
     obtain ⟨k, rfl, hinv⟩ := hrel
     have hk := hinv.le
     have c0 := hinv.box.cell
     have z0 := hinv.box.lt
     by_cases hlt : k < l.length
     ·exfalso
      omega
     ·have g1 : decide ((k : Int) < (l.length : Int)) = false := decide_eq_false (by omega)
      have hq := hinv.eq
      rw [List.drop_eq_nil_of_le (by omega)] at hq
      have HQ := hide (And.intro hq hinv.below)
      clear hq hinv
      go_wp2_with fail
      go_ret
      exact ⟨by rw [HR.out, ← HQ.out.1]; rfl, HQ.out.2⟩
theorem refForm_any (N : Nat) (t : T) (A : Option Addr) (c : Nat) (w : World) (hN : t.nodes ≤ N) (hM : N ≤ 1000000) (hin : T.In w (· < w.heap.size) t A) :
  Calls Tryz.prog 62 #[.agg (t.hd.cells (.slice A t.subs.length c)).toArray] w fun e w' => e = .returned (.bool t.form) ∧ Below w.heap.size w w' := refForm_gen N t A c w hN (.inl hM) hin
end Go.Proofs.YtpkcklpjbeginaaGreatDoor

/-! ## RefSize -/
namespace Go.Proofs.YtpkcklpjbeginaaGreatDoor
open Go.RowKit

theorem count_any (a b : Int) (w : World) (ha : 0 ≤ a ∧ a ≤ 4000) (hb : 0 ≤ b ∧ b ≤ 4000) : Calls Tryz.prog 98 #[.int .i64 a, .int .i64 b] w fun e w' => e = .returned (.int .i64 (mn2 (a + b) 2001)) ∧ w = w' := by
 obtain ⟨a1, a2⟩ := ha
 obtain ⟨b1, b2⟩ := hb
 by_cases h : a + b < 2001
 ·go_enter Tryz.func98, Tryz.ntmps98
  go_wp2_with fail
  go_ret
  refine ⟨?_, rfl⟩
  have : mn2 (a + b) 2001 = a + b := by unfold mn2; rw [if_neg (by omega)]
  rw [this]
  rfl
 ·go_enter Tryz.func98, Tryz.ntmps98
  go_wp2_with fail
  go_ret
  refine ⟨?_, rfl⟩
  have : mn2 (a + b) 2001 = 2001 := by unfold mn2; split <;> omega
  rw [this]
  rfl

theorem mn2_one {a b : Int} (ha : 0 ≤ a) (hb : 0 ≤ b) : mn2 (mn2 (1 + a) 2001 + b) 2001 = mn2 (1 + mn2 (a + b) 2001) 2001 := by unfold mn2; repeat' split; all_goals omega
theorem mn2_add {a b : Int} (ha : 0 ≤ a) (hb : 0 ≤ b) : mn2 (mn2 a 2001 + b) 2001 = mn2 (a + b) 2001 := by unfold mn2; repeat' split; all_goals omega

theorem Hd.formed_len' {h : Hd} {n : Nat} (hf : h.formed n = true) (h8 : h.kind = 8) : n = 1 := by
 unfold Hd.formed at hf
 rw [if_neg (by omega), if_neg (by omega), if_neg (by omega), if_neg (by omega), if_pos h8] at hf
 simp only [Bool.and_eq_true, Bool.not_eq_true', Bool.or_eq_false_iff, bne_eq_false_iff_eq] at hf
 have := hf.1.1.1.1.2
 omega

structure SizeInv (l : List T) (w wr : World) (k : Nat) (cur : Int) : Prop where
 le : k ≤ l.length
 eq : cur = mn2 (1 + TL.size (l.take k) 0) 2001
 pos : 0 ≤ TL.size (l.take k) 0
 below : Below w.heap.size w wr

theorem TL.size_take {l : List T} {k : Nat} {s : T} (hs : l[k]? = some s) : TL.size (l.take (k + 1)) 0 = mn2 (TL.size (l.take k) 0 + s.size) 2001 := by
 rw [TL.size_eq, TL.size_eq, List.take_add_one, hs]
 simp

theorem SizeInv.next {l : List T} {w wr wr' : World} {k : Nat} {cur : Int} {s : T} (h : SizeInv l w wr k cur) (hs : l[k]? = some s) (h0 : 0 ≤ s.size) (hb : Below wr.heap.size wr wr') : SizeInv l w wr' (k + 1) (mn2 (cur + s.size) 2001) := by
 have hp := h.pos
 refine ⟨(List.getElem?_eq_some_iff.1 hs).1, ?_, ?_, h.below.trans (hb.mono h.below.size)⟩
 ·rw [h.eq, TL.size_take hs, mn2_one hp h0]
 ·rw [TL.size_take hs]; exact (mn2_bd (by omega)).1

/-- The numbers of a repeat: what the loops have laid so far, before it is cut at the limit. -/
structure CutSum (k : Nat) (step p : Int) : Prop where
 eq : p = k * step
 pos : 0 ≤ p
theorem CutSum.next {k : Nat} {step p : Int} (h : CutSum k step p) (h0 : 0 ≤ step) : CutSum (k + 1) step (p + step) := by
 have := h.eq
 have := h.pos
 refine ⟨?_, by omega⟩
 rw [h.eq, show ((k + 1 : Nat) : Int) = (k : Int) + 1 by omega, Int.add_mul, Int.one_mul]

set_option maxRecDepth 100000 in
set_option maxHeartbeats 4000000 in
theorem refSize_gen (N : Nat) : ∀ (t : T) (A : Option Addr) (c : Nat) (w : World), t.nodes ≤ N → (N ≤ 1000000 ∨ t.wf) → t.form = true → T.In w (· < w.heap.size) t A →
  Calls Tryz.prog 64 #[.agg (t.hd.cells (.slice A t.subs.length c)).toArray] w fun e w' => e = .returned (.int .i64 t.size) ∧ Below w.heap.size w w' := by
 induction N with
 | zero => intro t A c w h; have := t.nodes_pos; omega
 | succ N ih =>
  intro t A c w hN hM hform hin
  have hform' := hform
  rw [T.form_eq] at hform'
  simp only [Bool.and_eq_true] at hform'
  obtain ⟨hfo, hfl⟩ := hform'
  have hbd := T.size_bd t hform
  obtain ⟨h, l⟩ := t
  have hsz : (T.mk h l).size = if h.kind = 8 ∧ h.max = 0 then 1 else mn2 (h.grow (TL.size l 0)) 2001 := by simp only [T.size]
  have hlen0 := T.length_lt (T.mk h l)
  simp only [T.nodes, T.hd, T.subs] at hN hlen0 hfo hfl ⊢
  generalize (T.mk h l).size = res at *
  have hl63 : l.length ≤ 9223372036854775807 := by
   rcases hM with hM | hM
   ·omega
   ·exact hM.2.1
  by_cases h8 : h.kind = 8
  case neg =>
   obtain ⟨kind, s0, s1, s2, s3, num, mn, mx, bare⟩ := h
   simp only at h8
   have e8 : (kind != 8) = true := by simp [h8]
   have hres : res = mn2 (TL.size l 0 + 1) 2001 := by rw [hsz]; simp [Hd.grow, h8]
   have HR := hide hres
   have HF := hide (And.intro hfl hin)
   clear hsz hres hfo hfl hform hbd hin
   simp only [Hd.cells]
   go_enter Tryz.func64, Tryz.ntmps64
   go_wp2_with fail
   have hbt := Blk.new w 27 #[.int .i64 kind, .int .u64 s0, .int .u64 s1, .int .u64 s2, .int .u64 s3, .slice A l.length c, .int .i64 num, .int .i64 mn, .int .i64 mx, .bool bare]
   have hbel := (Below.refl w.heap.size w).alloc (Nat.le_refl _) (.cells #[.int .i64 kind, .int .u64 s0, .int .u64 s1, .int .u64 s2, .int .u64 s3, .slice A l.length c, .int .i64 num, .int .i64 mn, .int .i64 mx, .bool bare] 27)
   generalize w.alloc (.cells #[.int .i64 kind, .int .u64 s0, .int .u64 s1, .int .u64 s2, .int .u64 s3, .slice A l.length c, .int .i64 num, .int .i64 mn, .int .i64 mx, .bool bare] 27) = W at *
   go_loopw [3, 4] (fun nv kv wr => ∃ (k : Nat) (cur : Int), nv = .int .i64 cur ∧ kv = .int .i64 k ∧ SizeInv l w wr k cur ∧ Blk wr w.heap.size 27 #[.int .i64 kind, .int .u64 s0, .int .u64 s1, .int .u64 s2, .int .u64 s3, .slice A l.length c, .int .i64 num, .int .i64 mn, .int .i64 mx, .bool bare]) (fun _ kv _ => l.length - (intOf kv).toNat)
   case atStart => exact ⟨0, 1, rfl, rfl, ⟨Nat.zero_le _, rfl, by simp [TL.size], hbel⟩, hbt⟩
   case round =>
    clear hbt hbel
    obtain ⟨k, cur, rfl, rfl, hinv, hbt⟩ := hrel
    have ct := hbt.cell
    have zt := hbt.lt
    have hcb : 0 ≤ cur ∧ cur ≤ 2001 := by rw [hinv.eq]; exact mn2_bd (by have := hinv.pos; omega)
    obtain ⟨hc1, hc2⟩ := hcb
    have HI := hide (And.intro hinv hbt)
    by_cases hlt : k < l.length
    ·have g1 : decide ((k : Int) < (l.length : Int)) = true := decide_eq_true (by omega)
     have hs := List.getElem?_eq_getElem hlt
     obtain ⟨b, o, B, c', rfl, hbk, hcs, hsub⟩ := TL.In.at_ (T.In_iff.1 HF.out.2) hs
     have hmem := List.getElem_mem hlt
     have hsn := TL.nodes_mem hmem
     have hsf := TL.form_mem HF.out.1 hmem
     have hsb := T.size_bd _ hsf
     generalize l[k] = s at *
     obtain ⟨n0, n1, n2, n3, n4, n5, n6, n7, n8, n9⟩ := (hcs.same (same_of_below hinv.below) hbk).node
     have HX := hide (ih s B c' wr (by omega) (hM.imp (fun h => by omega) (fun h => TL.wf_mem h.2.2 hmem)) hsf (hsub.same (same_of_below hinv.below) (fun x hx => Nat.lt_of_lt_of_le hx hinv.below.size)))
     have HC := hide (fun y => count_any cur s.size y ⟨hc1, by omega⟩ ⟨hsb.1, by omega⟩)
     have HN := hide (fun y hy => hinv.next (wr' := y) hs hsb.1 hy)
     simp only [Hd.cells] at HX
     clear hs hcs hinv hsub hbt hsf hsb
     go_wp2_with fail
     refine HX.out.mono ?_
     rintro e w1 ⟨rfl, hb⟩
     have HB := hide hb
     clear hb
     go_wp2_with fail
     refine (HC.out _).mono ?_
     rintro e w1 ⟨rfl, rfl⟩
     go_wp2_with fail
     go_roundw
     case rel => exact ⟨k + 1, _, rfl, by go_num, HN.out _ HB.out, HI.out.2.below HB.out zt⟩
     case measure => simp [intOf]; omega
    ·have g1 : decide ((k : Int) < (l.length : Int)) = false := decide_eq_false (by omega)
     have hk := hinv.le
     have hq := hinv.eq
     rw [List.take_of_length_le (by omega)] at hq
     have HQ := hide hq
     clear hinv hbt hq hk
     go_wp2_with fail
     go_ret
     refine ⟨?_, HI.out.1.below⟩
     rw [HR.out, Int.add_comm, ← HQ.out]
     rfl
  case pos =>
   obtain ⟨r1, r2, r3⟩ := Hd.rep_bd hfo h8
   have hl1 := (Hd.formed_len' hfo) h8
   obtain ⟨s, rfl⟩ : ∃ s, l = [s] := by
    match l, hl1 with
    | [s], _ => exact ⟨s, rfl⟩
   have hsf : s.form = true := by simpa [TL.form] using hfl
   obtain ⟨hsb1, hsb2⟩ := T.size_bd s hsf
   have hone : TL.size [s] 0 = s.size := by simp only [TL.size]; unfold mn2; split <;> omega
   rw [hone] at hsz
   obtain ⟨kind, s0, s1, s2, s3, num, mi, mx, bare⟩ := h
   simp only at h8 r1 r2 r3 hsz
   subst h8
   obtain ⟨mn, rfl⟩ : ∃ q : Nat, mi = q := ⟨mi.toNat, by omega⟩
   simp only [TL.nodes] at hN
   simp only [Hd.cells, List.length_cons, List.length_nil, Nat.zero_add]
   by_cases hz : mx = 0
   ·subst hz
    have HR := hide hsz
    clear hsz hfo hfl hform hbd hin
    go_enter Tryz.func64, Tryz.ntmps64
    go_wp2_with fail
    go_ret
    exact ⟨by rw [HR.out]; rfl, (Below.refl _ _).alloc (Nat.le_refl _) _⟩
   ·have hsz' : res = mn2 (Hd.rounds ⟨8, s0, s1, s2, s3, num, mn, mx, bare⟩ s.size) 2001 := by
     rw [hsz, if_neg (by rintro ⟨_, h⟩; exact hz h)]
     rfl
    have HR := hide hsz'
    have gz : (mx == 0) = false := by simp [hz]
    obtain ⟨b, o, B, c', rfl, hbk, hcs, hsub⟩ := TL.In.at_ (i := 0) (T.In_iff.1 hin) rfl
    simp only [Nat.zero_mul, Nat.add_zero] at hcs
    have hbel := (Below.refl w.heap.size w).alloc (Nat.le_refl _) (.cells #[.int .i64 8, .int .u64 s0, .int .u64 s1, .int .u64 s2, .int .u64 s3, .slice (some ⟨b, o, none⟩) 1 c, .int .i64 num, .int .i64 (mn : Int), .int .i64 mx, .bool bare] 27)
    obtain ⟨n0, n1, n2, n3, n4, n5, n6, n7, n8, n9⟩ := (hcs.same (same_of_below hbel) hbk).node
    have hbt := Blk.new w 27 #[.int .i64 8, .int .u64 s0, .int .u64 s1, .int .u64 s2, .int .u64 s3, .slice (some ⟨b, o, none⟩) 1 c, .int .i64 num, .int .i64 (mn : Int), .int .i64 mx, .bool bare]
    have HX := hide (ih s B c' _ (by omega) (hM.imp (fun h => by omega) (fun h => TL.wf_mem h.2.2 (by simp))) hsf (hsub.same (same_of_below hbel) (fun x hx => Nat.lt_of_lt_of_le hx hbel.size)))
    simp only [Hd.cells] at HX
    have HBT := hide (And.intro hbt hbel)
    clear hsz hsz' hfo hfl hform hbd hin hcs hsub hbt hbel hone
    generalize s.size = sub at *
    go_enter Tryz.func64, Tryz.ntmps64
    go_wp2_with fail
    refine HX.out.mono ?_
    rintro e w1 ⟨rfl, hb⟩
    have hbt := HBT.out.1.below hb (by simp)
    have hbel := HBT.out.2.trans (hb.mono HBT.out.2.size)
    have ct := hbt.cell
    have HB := hide hbel
    clear hb hbel hbt HX HBT n0 n1 n2 n3 n4 n5 n6 n7 n8 n9
    go_wp2_with fail
    go_loopw [6, 7, 8] (fun pv nv kv wr => ∃ (k : Nat) (p : Int), pv = .int .i64 k ∧ nv = .int .i64 (mn2 p 2001) ∧ kv = .int .i64 k ∧ k ≤ mn ∧ CutSum k sub p ∧ wr = w1) (fun _ _ kv _ => mn - (intOf kv).toNat)
    case atStart => exact ⟨0, 0, rfl, rfl, rfl, Nat.zero_le _, ⟨by simp, by omega⟩, rfl⟩
    case round =>
     obtain ⟨k, p, rfl, rfl, rfl, hk, hsum, rfl⟩ := hrel
     by_cases hlt : k < mn
     ·have g1 : decide ((k : Int) < (mn : Int)) = true := decide_eq_true (by omega)
      have hmb := mn2_bd hsum.pos
      have HC := hide (fun y => count_any (mn2 p 2001) sub y ⟨hmb.1, by omega⟩ ⟨hsb1, by omega⟩)
      rw [mn2_add hsum.pos hsb1] at HC
      have HS := hide hsum
      clear hsum hmb
      go_wp2_with fail
      refine (HC.out _).mono ?_
      rintro e w2 ⟨rfl, rfl⟩
      go_wp2_with fail
      go_roundw
      case rel => exact ⟨k + 1, p + sub, by go_num, rfl, by go_num, hlt, HS.out.next hsb1, trivial⟩
      case measure => simp [intOf]; omega
     ·have ek : mn = k := by omega
      subst ek
      have HS := hide hsum
      clear hsum
      go_wp2_with fail
      go_loopw [6, 7, 9] (fun pv nv kv wr' => ∃ (j : Nat) (q : Int), pv = .int .i64 ((mn : Int) + j) ∧ nv = .int .i64 (mn2 (p + q) 2001) ∧ kv = .int .i64 ((mn : Int) + j) ∧ (j = 0 ∨ (mn : Int) + j ≤ mx) ∧ CutSum j (sub + 1) q ∧ wr' = wr) (fun _ _ kv _ => (mx - intOf kv).toNat)
      case atStart => exact ⟨0, 0, by simp, by simp, by simp, .inl rfl, ⟨by simp, by omega⟩, rfl⟩
      case round =>
       obtain ⟨j, q, rfl, rfl, rfl, hj, hq, rfl⟩ := hrel
       have hpq : 0 ≤ p + q := by have := HS.out.pos; have := hq.pos; omega
       have hmb := mn2_bd hpq
       by_cases hlt : (mn : Int) + j < mx
       ·have g1 : decide ((mn : Int) + j < mx) = true := decide_eq_true hlt
        have HC := hide (fun y => count_any (mn2 (p + q) 2001) sub y ⟨hmb.1, by omega⟩ ⟨hsb1, by omega⟩)
        rw [mn2_add hpq hsb1] at HC
        have hmb2 := mn2_bd (x := p + q + sub) (by omega)
        have HC2 := hide (fun y => count_any (mn2 (p + q + sub) 2001) 1 y ⟨hmb2.1, by omega⟩ ⟨by omega, by omega⟩)
        rw [mn2_add (by omega) (by omega)] at HC2
        have HQ := hide hq
        have e : p + q + sub + 1 = p + (q + (sub + 1)) := by omega
        rw [e] at HC2
        clear hq hmb hmb2 e
        go_wp2_with fail
        refine (HC.out _).mono ?_
        rintro e w2 ⟨rfl, rfl⟩
        go_wp2_with fail
        refine (HC2.out _).mono ?_
        rintro e w2 ⟨rfl, rfl⟩
        go_wp2_with fail
        go_roundw
        case rel => exact ⟨j + 1, q + (sub + 1), by go_num, rfl, by go_num, by omega, HQ.out.next (by omega), trivial⟩
        case measure => simp [intOf]; omega
       ·have g1 : decide ((mn : Int) + j < mx) = false := decide_eq_false hlt
        by_cases hm : mx = -1
        ·subst hm
         have hj0 : j = 0 := by omega
         subst hj0
         have hq0 : q = 0 := by have := hq.eq; simpa using this
         subst hq0
         have HC := hide (fun y => count_any (mn2 (p + 0) 2001) sub y ⟨hmb.1, by omega⟩ ⟨hsb1, by omega⟩)
         rw [mn2_add hpq hsb1] at HC
         have hmb2 := mn2_bd (x := p + 0 + sub) (by omega)
         have HC2 := hide (fun y => count_any (mn2 (p + 0 + sub) 2001) 1 y ⟨hmb2.1, by omega⟩ ⟨by omega, by omega⟩)
         rw [mn2_add (by omega) (by omega)] at HC2
         have hmb3 := mn2_bd (x := p + 0 + sub + 1) (by omega)
         have HC3 := hide (fun y => count_any (mn2 (p + 0 + sub + 1) 2001) 1 y ⟨hmb3.1, by omega⟩ ⟨by omega, by omega⟩)
         rw [mn2_add (by omega) (by omega)] at HC3
         simp only [Int.add_zero] at HC HC2 HC3
         clear hq hmb hmb2 hmb3
         have hmn := HS.out.eq
         have HE := hide hmn
         clear hmn
         by_cases h0 : mn = 0
         ·subst h0
          go_wp2_with fail
          refine (HC.out _).mono ?_
          rintro e w2 ⟨rfl, rfl⟩
          go_wp2_with fail
          refine (HC2.out _).mono ?_
          rintro e w2 ⟨rfl, rfl⟩
          go_wp2_with fail
          go_ret
          refine ⟨?_, HB.out⟩
          have := HE.out
          have hr : Hd.rounds ⟨8, s0, s1, s2, s3, num, ((0 : Nat) : Int), -1, bare⟩ sub = p + sub + 1 := by
           simp [Hd.rounds]; simp at this; omega
          rw [HR.out, hr]
          rfl
         ·have g2 : decide ((1 : Int) < (mn : Int) + 1) = true := decide_eq_true (by omega)
          go_wp2_with fail
          refine (HC.out _).mono ?_
          rintro e w2 ⟨rfl, rfl⟩
          go_wp2_with fail
          refine (HC2.out _).mono ?_
          rintro e w2 ⟨rfl, rfl⟩
          go_wp2_with fail
          refine (HC3.out _).mono ?_
          rintro e w2 ⟨rfl, rfl⟩
          go_wp2_with fail
          go_ret
          refine ⟨?_, HB.out⟩
          have := HE.out
          have hr : Hd.rounds ⟨8, s0, s1, s2, s3, num, (mn : Int), -1, bare⟩ sub = p + sub + 1 + 1 := by
           unfold Hd.rounds
           simp only
           rw [if_neg (by omega), if_neg (by omega), if_pos trivial, ← this]
           omega
          rw [HR.out, hr]
          rfl
        ·have hmj : mx = (mn : Int) + j := by omega
         subst hmj
         have gm : ((mn : Int) + j == -1) = false := by simpa using hm
         have HC := hide (fun y => count_any (mn2 (p + q) 2001) 1 y ⟨hmb.1, by omega⟩ ⟨by omega, by omega⟩)
         rw [mn2_add hpq (by omega)] at HC
         have HE := hide (And.intro HS.out.eq hq.eq)
         clear hq hmb
         by_cases h2 : (1 : Int) < (mn : Int) + j
         ·have g2 : decide ((1 : Int) < (mn : Int) + j) = true := decide_eq_true h2
          go_wp2_with fail
          refine (HC.out _).mono ?_
          rintro e w2 ⟨rfl, rfl⟩
          go_wp2_with fail
          go_ret
          refine ⟨?_, HB.out⟩
          obtain ⟨e1, e2⟩ := HE.out
          have hr : Hd.rounds ⟨8, s0, s1, s2, s3, num, (mn : Int), (mn : Int) + j, bare⟩ sub = p + q + 1 := by
           unfold Hd.rounds
           simp only
           rw [if_neg (by omega), if_neg (by omega), if_neg (by omega), ← e1, show (mn : Int) + j - mn = j by omega, Int.add_comm 1 sub, ← e2]
           omega
          rw [HR.out, hr]
          rfl
         ·have g2 : decide ((1 : Int) < (mn : Int) + j) = false := decide_eq_false h2
          go_wp2_with fail
          go_ret
          refine ⟨?_, HB.out⟩
          obtain ⟨e1, e2⟩ := HE.out
          have hr : Hd.rounds ⟨8, s0, s1, s2, s3, num, (mn : Int), (mn : Int) + j, bare⟩ sub = p + q := by
           have : (mn = 0 ∧ j = 1) ∨ (mn = 1 ∧ j = 0) := by omega
           rcases this with ⟨h, h'⟩ | ⟨h, h'⟩
           ·subst h; subst h'; simp [Hd.rounds]; simp at e1 e2; omega
           ·subst h; subst h'; simp [Hd.rounds]; simp at e1 e2; omega
          rw [HR.out, hr]
          rfl
theorem refSize_any (N : Nat) (t : T) (A : Option Addr) (c : Nat) (w : World) (hN : t.nodes ≤ N) (hM : N ≤ 1000000) (hf : t.form = true) (hin : T.In w (· < w.heap.size) t A) :
  Calls Tryz.prog 64 #[.agg (t.hd.cells (.slice A t.subs.length c)).toArray] w fun e w' => e = .returned (.int .i64 t.size) ∧ Below w.heap.size w w' := refSize_gen N t A c w hN (.inl hM) hf hin
end Go.Proofs.YtpkcklpjbeginaaGreatDoor

/-! ## RefAll -/
namespace Go.Proofs.YtpkcklpjbeginaaGreatDoor
open Go.RowKit

end Go.Proofs.YtpkcklpjbeginaaGreatDoor
