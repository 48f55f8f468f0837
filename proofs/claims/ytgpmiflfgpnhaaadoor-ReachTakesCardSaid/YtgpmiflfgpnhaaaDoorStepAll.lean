/- reach.step: to which places a tree leads from some places. -/
import Derived.Test.YtgpmiflfgpnhaaaDoorRep
import Derived.Test.YtgpmiflfgpnhaaaDoorPick
set_option linter.unusedSimpArgs false
set_option linter.unusedVariables false
namespace Go.Proofs.YtgpmiflfgpnhaaaDoor
open Go.RowKit

structure SeqInv (x : Sc) (l : List T) (f : Nat) (w wr : World) (k cur : Nat) : Prop where
  le : k ≤ l.length
  img : Img (TL.Rseq x (l.take k)) f cur
  fits : Fits x.len cur
  below : Below w.heap.size w wr
structure AltInv (x : Sc) (l : List T) (f : Nat) (w wr : World) (k cur : Nat) : Prop where
  le : k ≤ l.length
  img : Img (TL.Ralt x (l.take k)) f cur
  fits : Fits x.len cur
  below : Below w.heap.size w wr

theorem TL.Rseq_app (x : Sc) : ∀ (a : List T) (t : T) (i j : Nat), TL.Rseq x (a ++ [t]) i j ↔ ∃ m, TL.Rseq x a i m ∧ t.R x m j
  | [], t, i, j => by simp [TL.Rseq]
  | s :: a, t, i, j => by
    simp only [List.cons_append, TL.Rseq, TL.Rseq_app x a]
    constructor
    · rintro ⟨m, h1, p, h2, h3⟩; exact ⟨p, ⟨m, h1, h2⟩, h3⟩
    · rintro ⟨p, ⟨m, h1, h2⟩, h3⟩; exact ⟨m, h1, p, h2, h3⟩
theorem TL.Ralt_app (x : Sc) : ∀ (a : List T) (t : T) (i j : Nat), TL.Ralt x (a ++ [t]) i j ↔ TL.Ralt x a i j ∨ t.R x i j
  | [], t, i, j => by simp [TL.Ralt]
  | s :: a, t, i, j => by simp only [List.cons_append, TL.Ralt, TL.Ralt_app x a, or_assoc]

theorem SeqInv.next {x : Sc} {l : List T} {f k cur tw : Nat} {w wr wr' : World} {s : T} (h : SeqInv x l f w wr k cur) (hs : l[k]? = some s) (ht : Img (s.R x) cur tw) (hf : Fits x.len tw) (hb : Below wr.heap.size wr wr') : SeqInv x l f w wr' (k + 1) tw := by
  refine ⟨(List.getElem?_eq_some_iff.1 hs).1, ?_, hf, h.below.trans (hb.mono h.below.size)⟩
  rw [List.take_add_one, hs]
  exact (h.img.comp ht).congr fun i j => (TL.Rseq_app x _ s i j).symm
theorem AltInv.next {x : Sc} {l : List T} {f k cur tw cur2 : Nat} {w wr wr' : World} {s : T} (h : AltInv x l f w wr k cur) (hs : l[k]? = some s) (ht : Img (s.R x) f tw) (hf : Fits x.len tw) (hb : Below wr.heap.size wr wr') (hc : cur ||| tw = cur2) : AltInv x l f w wr' (k + 1) cur2 := by
  subst hc
  refine ⟨(List.getElem?_eq_some_iff.1 hs).1, ?_, h.fits.or hf, h.below.trans (hb.mono h.below.size)⟩
  rw [List.take_add_one, hs]
  exact (h.img.or ht).congr fun i j => (TL.Ralt_app x _ s i j).symm

theorem Hd.formed_len {h : Hd} {n : Int} (hf : h.formed n = true) : 1 ≤ h.kind ∧ h.kind ≤ 8 ∧ (h.kind = 7 ∨ h.kind = 8 → n = 1) := by
  unfold Hd.formed at hf
  by_cases h1 : h.kind = 1 ∨ h.kind = 3 ∨ h.kind = 4
  · omega
  rw [if_neg h1] at hf
  by_cases h2 : h.kind = 2
  · omega
  rw [if_neg h2] at hf
  by_cases h5 : h.kind = 5 ∨ h.kind = 6
  · omega
  rw [if_neg h5] at hf
  by_cases h7 : h.kind = 7
  · rw [if_pos h7] at hf
    simp only [Bool.and_eq_true, beq_iff_eq] at hf
    exact ⟨by omega, by omega, fun _ => hf.2⟩
  rw [if_neg h7] at hf
  by_cases h8 : h.kind = 8
  · rw [if_pos h8] at hf
    simp only [Bool.and_eq_true, Bool.not_eq_true', Bool.or_eq_false_iff, bne_eq_false_iff_eq] at hf
    exact ⟨by omega, by omega, fun _ => hf.1.1.1.1.2⟩
  rw [if_neg h8] at hf
  cases hf

set_option maxRecDepth 100000 in
set_option maxHeartbeats 4000000 in
theorem step_any (N : Nat) {x : Sc} {b m : Nat} (hn : x.len ≤ 63) : ∀ t : T, t.nodes ≤ N → N ≤ 1000000 → t.wf → t.form = true → StepC x b m t := by
  induction N with
  | zero => intro t h; have := t.nodes_pos; omega
  | succ N ih =>
    intro t hN hM hwf hform A c f w hin hscn hT hf
    have hform' := hform
    rw [T.form_eq] at hform'
    simp only [Bool.and_eq_true] at hform'
    obtain ⟨hfo, hfl⟩ := hform'
    have hk := Hd.formed_len hfo
    have hRE := T.R_eq x t
    have hwf' := T.wf_eq.1 hwf
    obtain ⟨h, l⟩ := t
    simp only [T.hd, T.subs, T.nodes] at hN hwf' hfo hfl hk hRE ⊢
    have hlen : l.length ≤ 1000000 := by have := TL.length_le l; omega
    obtain ⟨u0, u1, u2, u3⟩ := And.intro hwf'.1.2.1 (And.intro hwf'.1.2.2.1 (And.intro hwf'.1.2.2.2.1 hwf'.1.2.2.2.2.1))
    have hwl := hwf'.2.2
    by_cases h0 : f = 0
    · subst h0
      obtain ⟨kind, s0, s1, s2, s3, num, mn, mx, bare⟩ := h
      simp only [Hd.cells]
      clear hRE
      go_enter Tryd.func57, Tryd.ntmps57
      go_wp2_with fail
      go_ret
      exact ⟨0, rfl, Img.zero _, Fits.zero _, ((Below.refl _ _).alloc (Nat.le_refl _) _).alloc (by simp) _⟩
    have g0 : ((f : Int) == 0) = false := by simp [h0]
    obtain ⟨hk1, hk8, hk7⟩ := hk
    have hkc : h.kind = 1 ∨ h.kind = 2 ∨ h.kind = 3 ∨ h.kind = 4 ∨ h.kind = 5 ∨ h.kind = 6 ∨ h.kind = 7 ∨ h.kind = 8 := by omega
    obtain ⟨kind, s0, s1, s2, s3, num, mn, mx, bare⟩ := h
    simp only at hkc hk7 u0 u1 u2 u3 hRE
    simp only [Hd.cells]
    generalize hRR : (T.mk ⟨kind, s0, s1, s2, s3, num, mn, mx, bare⟩ l).R x = RR at *
    have HRE := hide hRE
    have HA := hide (And.intro hscn (And.intro hT (And.intro hf hin)))
    have HF := hide (And.intro hwf (And.intro hform (And.intro hfo hfl)))
    have HK7 := hide hk7
    clear hRE hscn hT hf hin hRR hwf hform hfo hfl hwf' hk7 hk1 hk8
    rcases hkc with e | e | e | e | e | e | e | e <;> subst e
    · -- the empty tree
      go_enter Tryd.func57, Tryd.ntmps57
      go_wp2_with fail
      go_ret
      exact ⟨f, rfl, (Img.id f).congr fun i j => by rw [HRE.out]; rfl, HA.out.2.2.1, ((Below.refl _ _).alloc (Nat.le_refl _) _).alloc (by simp) _⟩
    · -- bytes
      have hbel := ((Below.refl w.heap.size w).alloc (Nat.le_refl _) (.cells #[.pointer (some ⟨b, 0, none⟩)] 104)).alloc (by simp) (.cells #[.int .i64 2, .int .u64 s0, .int .u64 s1, .int .u64 s2, .int .u64 s3, .slice A l.length c, .int .i64 num, .int .i64 mn, .int .i64 mx, .bool bare] 52)
      have HC := hide (rbytes_any (HA.out.1.below hbel) (HA.out.2.1.below hbel) hn s0 s1 s2 s3 u0 u1 u2 u3 f HA.out.2.2.1)
      have HB := hide hbel
      clear hbel
      go_enter Tryd.func57, Tryd.ntmps57
      go_wp2_with fail
      refine HC.out.mono ?_
      rintro e w1 ⟨tw, rfl, himg, hfit, hb⟩
      have H2 := hide (And.intro himg (And.intro hfit hb))
      clear himg hfit hb
      go_wp2_with fail
      go_ret
      exact ⟨tw, rfl, H2.out.1.congr fun i j => by rw [HRE.out]; exact Iff.rfl, H2.out.2.1, HB.out.trans (H2.out.2.2.mono HB.out.size)⟩
    · -- beginnings
      have hbel := ((Below.refl w.heap.size w).alloc (Nat.le_refl _) (.cells #[.pointer (some ⟨b, 0, none⟩)] 104)).alloc (by simp) (.cells #[.int .i64 3, .int .u64 s0, .int .u64 s1, .int .u64 s2, .int .u64 s3, .slice A l.length c, .int .i64 num, .int .i64 mn, .int .i64 mx, .bool bare] 52)
      have HC := hide (marked_any (HA.out.1.below hbel) (HA.out.2.1.below hbel) hn 0 (by decide) f HA.out.2.2.1)
      have HB := hide hbel
      clear hbel
      go_enter Tryd.func57, Tryd.ntmps57
      go_wp2_with fail
      refine HC.out.mono ?_
      rintro e w1 ⟨tw, rfl, himg, hfit, hb⟩
      have H2 := hide (And.intro himg (And.intro hfit hb))
      clear himg hfit hb
      go_wp2_with fail
      go_ret
      exact ⟨tw, rfl, H2.out.1.congr fun i j => by rw [HRE.out]; exact Iff.rfl, H2.out.2.1, HB.out.trans (H2.out.2.2.mono HB.out.size)⟩
    · -- ends
      have hbel := ((Below.refl w.heap.size w).alloc (Nat.le_refl _) (.cells #[.pointer (some ⟨b, 0, none⟩)] 104)).alloc (by simp) (.cells #[.int .i64 4, .int .u64 s0, .int .u64 s1, .int .u64 s2, .int .u64 s3, .slice A l.length c, .int .i64 num, .int .i64 mn, .int .i64 mx, .bool bare] 52)
      have HC := hide (marked_any (HA.out.1.below hbel) (HA.out.2.1.below hbel) hn 1 (by decide) f HA.out.2.2.1)
      have HB := hide hbel
      clear hbel
      go_enter Tryd.func57, Tryd.ntmps57
      go_wp2_with fail
      refine HC.out.mono ?_
      rintro e w1 ⟨tw, rfl, himg, hfit, hb⟩
      have H2 := hide (And.intro himg (And.intro hfit hb))
      clear himg hfit hb
      go_wp2_with fail
      go_ret
      exact ⟨tw, rfl, H2.out.1.congr fun i j => by rw [HRE.out]; exact Iff.rfl, H2.out.2.1, HB.out.trans (H2.out.2.2.mono HB.out.size)⟩
    · -- a row
      have hbj : Blk ((w.alloc (.cells #[.pointer (some ⟨b, 0, none⟩)] 104)).alloc (.cells #[.int .i64 5, .int .u64 s0, .int .u64 s1, .int .u64 s2, .int .u64 s3, .slice A l.length c, .int .i64 num, .int .i64 mn, .int .i64 mx, .bool bare] 52)) w.heap.size 104 #[.pointer (some ⟨b, 0, none⟩)] := (Blk.new w _ _).alloc _
      have hbt := Blk.new (w.alloc (.cells #[.pointer (some ⟨b, 0, none⟩)] 104)) 52 #[.int .i64 5, .int .u64 s0, .int .u64 s1, .int .u64 s2, .int .u64 s3, .slice A l.length c, .int .i64 num, .int .i64 mn, .int .i64 mx, .bool bare]
      simp only [World.size_alloc] at hbt
      have hbel := ((Below.refl w.heap.size w).alloc (Nat.le_refl _) (.cells #[.pointer (some ⟨b, 0, none⟩)] 104)).alloc (by simp) (.cells #[.int .i64 5, .int .u64 s0, .int .u64 s1, .int .u64 s2, .int .u64 s3, .slice A l.length c, .int .i64 num, .int .i64 mn, .int .i64 mx, .bool bare] 52)
      go_enter Tryd.func57, Tryd.ntmps57
      go_wp2_with fail
      generalize ((w.alloc (.cells #[.pointer (some ⟨b, 0, none⟩)] 104)).alloc (.cells #[.int .i64 5, .int .u64 s0, .int .u64 s1, .int .u64 s2, .int .u64 s3, .slice A l.length c, .int .i64 num, .int .i64 mn, .int .i64 mx, .bool bare] 52)) = W at *
      go_loopw [2, 41] (fun fv kv wr => ∃ k cur : Nat, fv = .int .u64 cur ∧ kv = .int .i64 k ∧ SeqInv x l f w wr k cur ∧ Blk wr w.heap.size 104 #[.pointer (some ⟨b, 0, none⟩)] ∧ Blk wr (w.heap.size + 1) 52 #[.int .i64 5, .int .u64 s0, .int .u64 s1, .int .u64 s2, .int .u64 s3, .slice A l.length c, .int .i64 num, .int .i64 mn, .int .i64 mx, .bool bare]) (fun _ kv _ => l.length - (intOf kv).toNat)
      case atStart => exact ⟨0, f, rfl, rfl, ⟨Nat.zero_le _, (Img.id f).congr fun i j => Iff.rfl, HA.out.2.2.1, hbel⟩, hbj, hbt⟩
      case round =>
        clear hbj hbt hbel
        obtain ⟨k, cur, rfl, rfl, hinv, hbj, hbt⟩ := hrel
        have cj := hbj.cell
        have ct := hbt.cell
        have zt := hbt.lt
        have zj := hbj.lt
        have HJ := hide (And.intro hbj hbt)
        clear hbj hbt
        have HI := hide hinv
        by_cases hlt : k < l.length
        · have g1 : decide ((k : Int) < (l.length : Int)) = true := decide_eq_true (by omega)
          have hs := List.getElem?_eq_getElem hlt
          obtain ⟨b', o, B, c', rfl, hbk, hcs, hsub⟩ := TL.In.at_ (T.In_iff.1 HA.out.2.2.2) hs
          have hmem := List.getElem_mem hlt
          have hsn := TL.nodes_mem hmem
          have hsw := TL.wf_mem hwl hmem
          have hsf := TL.form_mem HF.out.2.2.2 hmem
          generalize l[k] = s at *
          obtain ⟨n0, n1, n2, n3, n4, n5, n6, n7, n8, n9⟩ := (hcs.same (same_of_below hinv.below) hbk).node
          have hcur := hinv.fits
          have HX := hide (fun y (hy : Below wr.heap.size wr y) => ih s (by omega) (by omega) hsw hsf B c' cur y (hsub.same ((same_of_below hinv.below).trans ((same_of_below hy).mono fun q hq => Nat.lt_of_lt_of_le hq hinv.below.size)) (fun q hq => Nat.lt_of_lt_of_le hq (Nat.le_trans hinv.below.size hy.size)))
            ((HA.out.1.below hinv.below).below hy) ((HA.out.2.1.below hinv.below).below hy) hcur)
          simp only [Hd.cells] at HX
          have HS := hide hs
          have HY := hide ((Below.refl wr.heap.size wr).alloc (Nat.le_refl _) (.cells (s.hd.cells (.slice B s.subs.length c')).toArray 52))
          simp only [Hd.cells] at HY
          clear hs hcs hinv hsub hcur hsw hsf hmem
          go_wp2_with fail
          refine (HX.out _ HY.out).mono ?_
          rintro e w1 ⟨tw, rfl, himg, hfit, hb⟩
          have hb1 := HY.out.trans (hb.mono HY.out.size)
          have HB := hide (And.intro (HI.out.next HS.out himg hfit hb1) hb1)
          clear himg hfit hb hb1
          go_wp2_with fail
          go_roundw
          case rel => exact ⟨k + 1, tw, rfl, by go_num, HB.out.1, HJ.out.1.below HB.out.2 (by omega), HJ.out.2.below HB.out.2 (by omega)⟩
          case measure => simp [intOf]; omega
        · have g1 : decide ((k : Int) < (l.length : Int)) = false := decide_eq_false (by omega)
          clear hinv
          go_wp2_with fail
          go_ret
          have hI := HI.out.img
          rw [List.take_of_length_le (by omega)] at hI
          exact ⟨cur, rfl, hI.congr fun i j => by rw [HRE.out]; exact Iff.rfl, HI.out.fits, HI.out.below⟩
    · -- alternatives
      have hbj : Blk ((w.alloc (.cells #[.pointer (some ⟨b, 0, none⟩)] 104)).alloc (.cells #[.int .i64 6, .int .u64 s0, .int .u64 s1, .int .u64 s2, .int .u64 s3, .slice A l.length c, .int .i64 num, .int .i64 mn, .int .i64 mx, .bool bare] 52)) w.heap.size 104 #[.pointer (some ⟨b, 0, none⟩)] := (Blk.new w _ _).alloc _
      have hbt := Blk.new (w.alloc (.cells #[.pointer (some ⟨b, 0, none⟩)] 104)) 52 #[.int .i64 6, .int .u64 s0, .int .u64 s1, .int .u64 s2, .int .u64 s3, .slice A l.length c, .int .i64 num, .int .i64 mn, .int .i64 mx, .bool bare]
      simp only [World.size_alloc] at hbt
      have hbel := ((Below.refl w.heap.size w).alloc (Nat.le_refl _) (.cells #[.pointer (some ⟨b, 0, none⟩)] 104)).alloc (by simp) (.cells #[.int .i64 6, .int .u64 s0, .int .u64 s1, .int .u64 s2, .int .u64 s3, .slice A l.length c, .int .i64 num, .int .i64 mn, .int .i64 mx, .bool bare] 52)
      go_enter Tryd.func57, Tryd.ntmps57
      go_wp2_with fail
      generalize ((w.alloc (.cells #[.pointer (some ⟨b, 0, none⟩)] 104)).alloc (.cells #[.int .i64 6, .int .u64 s0, .int .u64 s1, .int .u64 s2, .int .u64 s3, .slice A l.length c, .int .i64 num, .int .i64 mn, .int .i64 mx, .bool bare] 52)) = W at *
      go_loopw [9, 56] (fun fv kv wr => ∃ k cur : Nat, fv = .int .u64 cur ∧ kv = .int .i64 k ∧ AltInv x l f w wr k cur ∧ Blk wr w.heap.size 104 #[.pointer (some ⟨b, 0, none⟩)] ∧ Blk wr (w.heap.size + 1) 52 #[.int .i64 6, .int .u64 s0, .int .u64 s1, .int .u64 s2, .int .u64 s3, .slice A l.length c, .int .i64 num, .int .i64 mn, .int .i64 mx, .bool bare]) (fun _ kv _ => l.length - (intOf kv).toNat)
      case atStart => exact ⟨0, 0, rfl, rfl, ⟨Nat.zero_le _, (Img.none f).congr fun i j => Iff.rfl, Fits.zero _, hbel⟩, hbj, hbt⟩
      case round =>
        clear hbj hbt hbel
        obtain ⟨k, cur, rfl, rfl, hinv, hbj, hbt⟩ := hrel
        have cj := hbj.cell
        have ct := hbt.cell
        have zt := hbt.lt
        have zj := hbj.lt
        have HJ := hide (And.intro hbj hbt)
        clear hbj hbt
        have HI := hide hinv
        by_cases hlt : k < l.length
        · have g1 : decide ((k : Int) < (l.length : Int)) = true := decide_eq_true (by omega)
          have hs := List.getElem?_eq_getElem hlt
          obtain ⟨b', o, B, c', rfl, hbk, hcs, hsub⟩ := TL.In.at_ (T.In_iff.1 HA.out.2.2.2) hs
          have hmem := List.getElem_mem hlt
          have hsn := TL.nodes_mem hmem
          have hsw := TL.wf_mem hwl hmem
          have hsf := TL.form_mem HF.out.2.2.2 hmem
          generalize l[k] = s at *
          obtain ⟨n0, n1, n2, n3, n4, n5, n6, n7, n8, n9⟩ := (hcs.same (same_of_below hinv.below) hbk).node
          have hcur := HA.out.2.2.1
          have HX := hide (fun y (hy : Below wr.heap.size wr y) => ih s (by omega) (by omega) hsw hsf B c' f y (hsub.same ((same_of_below hinv.below).trans ((same_of_below hy).mono fun q hq => Nat.lt_of_lt_of_le hq hinv.below.size)) (fun q hq => Nat.lt_of_lt_of_le hq (Nat.le_trans hinv.below.size hy.size)))
            ((HA.out.1.below hinv.below).below hy) ((HA.out.2.1.below hinv.below).below hy) hcur)
          simp only [Hd.cells] at HX
          have HS := hide hs
          have HY := hide ((Below.refl wr.heap.size wr).alloc (Nat.le_refl _) (.cells (s.hd.cells (.slice B s.subs.length c')).toArray 52))
          simp only [Hd.cells] at HY
          clear hs hcs hinv hsub hcur hsw hsf hmem
          have hcl := HI.out.fits.lt hn
          have HCL := hide hcl
          clear hcl
          go_wp2_with fail
          refine (HX.out _ HY.out).mono ?_
          rintro e w1 ⟨tw, rfl, himg, hfit, hb⟩
          have hb1 := HY.out.trans (hb.mono HY.out.size)
          obtain ⟨cur2, hc2⟩ : ∃ v, cur ||| tw = v := ⟨_, rfl⟩
          have hor := word_or HCL.out (hfit.lt hn)
          rw [hc2] at hor
          have HB := hide (And.intro (HI.out.next HS.out himg hfit hb1 hc2) hb1)
          clear hc2
          clear himg hfit hb hb1
          go_wp2_with fail
          go_roundw
          case rel => exact ⟨k + 1, cur2, rfl, by go_num, HB.out.1, HJ.out.1.below HB.out.2 (by omega), HJ.out.2.below HB.out.2 (by omega)⟩
          case measure => simp [intOf]; omega
        · have g1 : decide ((k : Int) < (l.length : Int)) = false := decide_eq_false (by omega)
          clear hinv
          go_wp2_with fail
          go_ret
          have hI := HI.out.img
          rw [List.take_of_length_le (by omega)] at hI
          exact ⟨cur, rfl, hI.congr fun i j => by rw [HRE.out]; exact Iff.rfl, HI.out.fits, HI.out.below⟩
    · -- a group
      have hl1 : l.length = 1 := by have := HK7.out (.inl rfl); omega
      obtain ⟨s, rfl⟩ : ∃ s, l = [s] := by
        match l, hl1 with
        | [s], _ => exact ⟨s, rfl⟩
      obtain ⟨b', o, B, c', rfl, hbk, hcs, hsub⟩ := TL.In.at_ (i := 0) (T.In_iff.1 HA.out.2.2.2) rfl
      simp only [Nat.zero_mul, Nat.add_zero] at hcs
      have hff := HF.out.2.2.2
      simp only [TL.nodes] at hN
      simp only [TL.form, Bool.and_true] at hff
      simp only [TL.wf, and_true] at hwl
      simp only [List.length_cons, List.length_nil, Nat.zero_add]
      have hbj : Blk ((w.alloc (.cells #[.pointer (some ⟨b, 0, none⟩)] 104)).alloc (.cells #[.int .i64 7, .int .u64 s0, .int .u64 s1, .int .u64 s2, .int .u64 s3, .slice (some ⟨b', o, none⟩) 1 c, .int .i64 num, .int .i64 mn, .int .i64 mx, .bool bare] 52)) w.heap.size 104 #[.pointer (some ⟨b, 0, none⟩)] := (Blk.new w _ _).alloc _
      have hbt := Blk.new (w.alloc (.cells #[.pointer (some ⟨b, 0, none⟩)] 104)) 52 #[.int .i64 7, .int .u64 s0, .int .u64 s1, .int .u64 s2, .int .u64 s3, .slice (some ⟨b', o, none⟩) 1 c, .int .i64 num, .int .i64 mn, .int .i64 mx, .bool bare]
      simp only [World.size_alloc] at hbt
      have hbel := ((Below.refl w.heap.size w).alloc (Nat.le_refl _) (.cells #[.pointer (some ⟨b, 0, none⟩)] 104)).alloc (by simp) (.cells #[.int .i64 7, .int .u64 s0, .int .u64 s1, .int .u64 s2, .int .u64 s3, .slice (some ⟨b', o, none⟩) 1 c, .int .i64 num, .int .i64 mn, .int .i64 mx, .bool bare] 52)
      go_enter Tryd.func57, Tryd.ntmps57
      go_wp2_with fail
      generalize ((w.alloc (.cells #[.pointer (some ⟨b, 0, none⟩)] 104)).alloc (.cells #[.int .i64 7, .int .u64 s0, .int .u64 s1, .int .u64 s2, .int .u64 s3, .slice (some ⟨b', o, none⟩) 1 c, .int .i64 num, .int .i64 mn, .int .i64 mx, .bool bare] 52)) = W at *
      refine wp_region_mix (fun y => Below W.heap.size W y) [6] (by kernel_rfl) (fun hcl => ?_)
      have hS : Below W.heap.size W W.drew := (Below.refl _ _).drew
      have zz := hbel.size
      have hnode := hide ((hcs.same (same_of_below hbel) hbk))
      clear hcs
      refine wpAnyT_take (i := 0) hcl rfl (by kernel_rfl) (v := ?_) (fun _ _ _ h => h) hS (Or.inl ⟨rfl, fun w' hS => ?_⟩) (fun hcl => ?_)
      rotate_left
      · skip
        have cj := (hbj.below hS hbj.lt).cell
        go_simp
        with_reducible rfl
      simp only [List.getElem_toArray, List.getElem_cons_zero, List.getElem_cons_succ, Act.put, List.setIfInBounds_toArray, List.set_cons_zero, List.set_cons_succ]
      refine wpAnyT_free (i := 1) hcl rfl (by kernel_rfl) (v := ?_) (fun _ _ _ h => h) hS (Or.inl ⟨rfl, fun w' _ => ?_⟩) (fun hcl => ?_)
      rotate_left
      · go_simp
        with_reducible rfl
      simp only [List.getElem_toArray, List.getElem_cons_zero, List.getElem_cons_succ, Act.put, List.setIfInBounds_toArray, List.set_cons_zero, List.set_cons_succ]
      refine wpAnyT_take (i := 2) hcl rfl (by kernel_rfl) (v := ?_) (fun _ _ _ h => h) hS (Or.inl ⟨rfl, fun w' hS => ?_⟩) (fun hcl => ?_)
      rotate_left
      · skip
        have ct := (hbt.below hS hbt.lt).cell
        go_simp
        with_reducible rfl
      simp only [List.getElem_toArray, List.getElem_cons_zero, List.getElem_cons_succ, Act.put, List.setIfInBounds_toArray, List.set_cons_zero, List.set_cons_succ]
      refine wpAnyT_free (i := 3) hcl rfl (by kernel_rfl) (v := ?_) (fun _ _ _ h => h) hS (Or.inl ⟨rfl, fun w' _ => ?_⟩) (fun hcl => ?_)
      rotate_left
      · go_simp
        with_reducible rfl
      simp only [List.getElem_toArray, List.getElem_cons_zero, List.getElem_cons_succ, Act.put, List.setIfInBounds_toArray, List.set_cons_zero, List.set_cons_succ]
      refine wpAnyT_take (i := 4) hcl rfl (by kernel_rfl) (v := ?_) (fun _ _ _ h => h) hS (Or.inl ⟨rfl, fun w' hS => ?_⟩) (fun hcl => ?_)
      rotate_left
      · skip
        obtain ⟨n0, n1, n2, n3, n4, n5, n6, n7, n8, n9⟩ := (hnode.out.same (same_of_below hS) (Nat.lt_of_lt_of_le hbk zz)).node
        go_simp
        with_reducible rfl
      simp only [List.getElem_toArray, List.getElem_cons_zero, List.getElem_cons_succ, Act.put, List.setIfInBounds_toArray, List.set_cons_zero, List.set_cons_succ]
      refine wpAnyT_free (i := 5) hcl rfl (by kernel_rfl) (v := ?_) (fun _ _ _ h => h) hS (Or.inl ⟨rfl, fun w' _ => ?_⟩) (fun hcl => ?_)
      rotate_left
      · go_simp
        with_reducible rfl
      simp only [List.getElem_toArray, List.getElem_cons_zero, List.getElem_cons_succ, Act.put, List.setIfInBounds_toArray, List.set_cons_zero, List.set_cons_succ]
      refine wpAnyT_last (i := 6) hcl rfl (by kernel_rfl) (by kernel_rfl) (fun hcl => ?_)
      simp only [List.getElem_toArray, List.getElem_cons_zero, List.getElem_cons_succ, Act.put, List.setIfInBounds_toArray, List.set_cons_zero, List.set_cons_succ]

      have HX := hide (ih s (by omega) (by omega) hwl hff B c' f _ (hsub.same ((same_of_below hbel).trans ((same_of_below hS).mono fun q hq => Nat.lt_of_lt_of_le hq hbel.size)) (fun q hq => Nat.lt_of_lt_of_le hq (Nat.le_trans hbel.size hS.size)))
            ((HA.out.1.below hbel).below hS) ((HA.out.2.1.below hbel).below hS) HA.out.2.2.1)
      simp only [Hd.cells] at HX
      have HB := hide (hbel.trans (hS.mono hbel.size))
      clear hS hnode hbj hbt hbel zz
      go_wp2_with fail
      refine HX.out.mono ?_
      rintro e w1 ⟨tw, rfl, himg, hfit, hb⟩
      have H2 := hide (And.intro himg (And.intro hfit (HB.out.trans (hb.mono HB.out.size))))
      clear himg hfit hb
      go_wp2_with fail
      refine wpAnyT_last (i := 7) hcl rfl (by kernel_rfl) (by kernel_rfl) (fun hcl => ?_)
      simp only [List.getElem_toArray, List.getElem_cons_zero, List.getElem_cons_succ, Act.put, List.setIfInBounds_toArray, List.set_cons_zero, List.set_cons_succ]

      go_wp2_with fail
      refine wpAnyT_done (by kernel_rfl) ?_ _
      go_wp2_with fail
      go_ret
      exact ⟨tw, rfl, H2.out.1.congr fun i j => by rw [HRE.out]; exact Iff.rfl, H2.out.2.1, H2.out.2.2⟩
    · -- a repeat
      have hl1 : l.length = 1 := by have := HK7.out (.inr rfl); omega
      obtain ⟨s, rfl⟩ : ∃ s, l = [s] := by
        match l, hl1 with
        | [s], _ => exact ⟨s, rfl⟩
      have hff := HF.out.2.2.2
      simp only [TL.nodes] at hN
      simp only [TL.form, Bool.and_true] at hff
      simp only [TL.wf, and_true] at hwl
      obtain ⟨r1, r2, r3⟩ := Hd.rep_bd HF.out.2.2.1 rfl
      simp only at r1 r2 r3
      obtain ⟨q, hq⟩ : ∃ q : Nat, mn = q := ⟨mn.toNat, by omega⟩
      subst hq
      simp only [List.length_cons, List.length_nil, Nat.zero_add]
      have hbel := ((Below.refl w.heap.size w).alloc (Nat.le_refl _) (.cells #[.pointer (some ⟨b, 0, none⟩)] 104)).alloc (by simp) (.cells #[.int .i64 8, .int .u64 s0, .int .u64 s1, .int .u64 s2, .int .u64 s3, .slice A 1 c, .int .i64 num, .int .i64 (q : Int), .int .i64 mx, .bool bare] 52)
      have HC := hide (repeat_any ⟨8, s0, s1, s2, s3, num, q, mx, bare⟩ s A c f _ hn (ih s (by omega) (by omega) hwl hff) q rfl (by omega) r3 (HA.out.2.2.2.same (same_of_below hbel) (fun y hy => Nat.lt_of_lt_of_le hy hbel.size)) (HA.out.1.below hbel) (HA.out.2.1.below hbel) HA.out.2.2.1)
      simp only [Hd.cells] at HC
      have HB := hide hbel
      clear hbel
      go_enter Tryd.func57, Tryd.ntmps57
      go_wp2_with fail
      refine HC.out.mono ?_
      rintro e w1 ⟨tw, rfl, himg, hfit, hb⟩
      have H2 := hide (And.intro himg (And.intro hfit hb))
      clear himg hfit hb
      go_wp2_with fail
      go_ret
      exact ⟨tw, rfl, H2.out.1.congr fun i j => by rw [HRE.out]; exact Iff.rfl, H2.out.2.1, HB.out.trans (H2.out.2.2.mono HB.out.size)⟩
end Go.Proofs.YtgpmiflfgpnhaaaDoor
