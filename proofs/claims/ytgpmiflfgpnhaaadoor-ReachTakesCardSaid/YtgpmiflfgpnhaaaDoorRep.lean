/- reach.repeat: a repeat, where its Sub is known. -/
import Derived.Test.YtgpmiflfgpnhaaaDoorStep
set_option linter.unusedSimpArgs false
set_option linter.unusedVariables false
namespace Go.Proofs.YtgpmiflfgpnhaaaDoor
open Go.RowKit

/-- What reach.step does with a tree. -/
def StepC (x : Sc) (b m : Nat) (t : T) : Prop :=
  ∀ (A : Option Addr) (c f : Nat) (w : World), T.In w (· < w.heap.size) t A → Scn w b m x → Tab w → Fits x.len f →
    Calls Tryd.prog 57 #[.agg #[.pointer (some ⟨b, 0, none⟩)], .agg (t.hd.cells (.slice A t.subs.length c)).toArray, .int .u64 f] w (Stepped x.len (t.R x) f w)

/-- What holds at the head of the first loop's round k. -/
structure RepInv (R : Nat → Nat → Prop) (n f : Nat) (w wr : World) (k cur : Nat) : Prop where
  img : Img (Iter R k) f cur
  fits : Fits n cur
  below : Below w.heap.size w wr

/-- What holds at the head of the second loop's round k. -/
structure RepInv2 (R : Nat → Nat → Prop) (n start mn : Nat) (mx : Int) (w wr : World) (k all last : Nat) : Prop where
  rounds : Rounds R start k all last
  fits : Fits n all
  low : Fits n last
  below : Below w.heap.size w wr
  max : mx = -1 ∨ ((mn : Int) + k ≤ mx)
  few : k ≤ count all + 1
  less : last ≠ 0 → k ≤ count all

theorem RepInv2.next {R : Nat → Nat → Prop} {n start mn k all last tw new all2 : Nat} {mx : Int} {w wr wr' : World} (h : RepInv2 R n start mn mx w wr k all last) (hn : n ≤ 63) (hl : last ≠ 0) (hm : ¬ ((mn : Int) + k = mx)) (ht : Img R last tw) (hf : Fits n tw)
    (hb : Below wr.heap.size wr wr') (h1 : tw &&& (18446744073709551615 - all) = new) (h2 : all ||| new = all2) :
    RepInv2 R n start mn mx w wr' (k + 1) all2 new ∧ (64 - count all2) * 2 + min new 1 < (64 - count all) * 2 + min last 1 := by
  have hall := h.fits.lt hn
  have htw := hf.lt hn
  have hnew : ∀ j, new.testBit j = (tw.testBit j && !all.testBit j) := fun j => by rw [← h1, less_bit htw hall]
  have hfn : Fits n new := fun j hj => by
    rw [hnew] at hj
    simp only [Bool.and_eq_true] at hj
    exact hf j hj.1
  have hdis : ∀ j, new.testBit j = true → all.testBit j = false := fun j hj => by
    rw [hnew] at hj
    simp only [Bool.and_eq_true, Bool.not_eq_true'] at hj
    exact hj.2
  have hc : new ≠ 0 → count all < count all2 := fun h0 => by
    rw [← h2]; exact count_or (hfn.lt hn) hdis h0
  have hc0 : new = 0 → all2 = all := fun h0 => by rw [← h2, h0]; simp
  have hle := h.less hl
  have hcl := count_le all2
  refine ⟨⟨?_, ?_, hfn, h.below.trans (hb.mono h.below.size), ?_, ?_, ?_⟩, ?_⟩
  · rw [← h2]; exact h.rounds.next ht hnew
  · rw [← h2]; exact h.fits.or hfn
  · have := h.max; omega
  · by_cases h0 : new = 0
    · rw [hc0 h0]; omega
    · have := hc h0; omega
  · intro h0; have := hc h0; omega
  · by_cases h0 : new = 0
    · rw [hc0 h0]; omega
    · have := hc h0; omega

set_option maxRecDepth 100000 in
set_option maxHeartbeats 2000000 in
theorem repeat_any {x : Sc} {b m : Nat} (h : Hd) (s : T) (A : Option Addr) (c : Nat) (f : Nat) (w : World) (hn : x.len ≤ 63) (hS : StepC x b m s) (mn : Nat) (hmn : h.min = mn) (hmn2 : mn ≤ 255) (hmx : h.max = -1 ∨ ((mn : Int) ≤ h.max ∧ h.max ≤ 255))
    (hin : T.In w (· < w.heap.size) (.mk h [s]) A) (hscn : Scn w b m x) (hT : Tab w) (hf : Fits x.len f) :
    Calls Tryd.prog 88 #[.agg #[.pointer (some ⟨b, 0, none⟩)], .agg (h.cells (.slice A 1 c)).toArray, .int .u64 f] w
      (Stepped x.len (fun i j => ∃ q : Nat, (mn : Int) ≤ q ∧ (h.max = -1 ∨ (q : Int) ≤ h.max) ∧ Iter (s.R x) q i j) f w) := by
  obtain ⟨b', o, B, c', rfl, hbk, hcs, hsub⟩ := TL.In.at_ (i := 0) (T.In_iff.1 hin) rfl
  obtain ⟨n0, n1, n2, n3, n4, n5, n6, n7, n8, n9⟩ := hcs.node
  simp only [Nat.zero_mul, Nat.add_zero] at n0 n1 n2 n3 n4 n5 n6 n7 n8 n9
  obtain ⟨kind, s0, s1, s2, s3, num, mi, mx, bare⟩ := h
  simp only [Hd.cells] at hmn hmx ⊢
  subst hmn
  have HA := hide (And.intro hscn (And.intro hT (And.intro hf (And.intro hin hsub))))
  have HS := hide hS
  clear hscn hT hf hin hsub hS hcs
  by_cases hz : mx = 0
  · subst hz
    go_enter Tryd.func88, Tryd.ntmps88
    go_wp2_with fail
    go_ret
    refine ⟨f, rfl, (Img.id f).congr fun i j => ?_, HA.out.2.2.1, ((Below.refl _ _).alloc (Nat.le_refl _) _).alloc (by simp) _⟩
    constructor
    · intro e; exact ⟨0, by omega, .inr (by omega), e⟩
    · rintro ⟨q, h1, h2, h3⟩
      obtain rfl : q = 0 := by omega
      exact h3
  · have g0 : (mx == 0) = false := by simp [hz]
    go_enter Tryd.func88, Tryd.ntmps88
    go_wp2_with fail
    have hbj : Blk (((w.alloc (.cells #[.pointer (some ⟨b, 0, none⟩)] 104)).alloc (.cells #[.int .i64 kind, .int .u64 s0, .int .u64 s1, .int .u64 s2, .int .u64 s3, .slice (some ⟨b', o, none⟩) 1 c, .int .i64 num, .int .i64 (mn : Int), .int .i64 mx, .bool bare] 52)).alloc (.cells #[.int .i64 s.hd.kind, .int .u64 s.hd.s0, .int .u64 s.hd.s1, .int .u64 s.hd.s2, .int .u64 s.hd.s3, .slice B s.subs.length c', .int .i64 s.hd.num, .int .i64 s.hd.min, .int .i64 s.hd.max, .bool s.hd.bare] 52)) w.heap.size 104 #[.pointer (some ⟨b, 0, none⟩)] := ((Blk.new w _ _).alloc _).alloc _
    have hbt := (Blk.new (w.alloc (.cells #[.pointer (some ⟨b, 0, none⟩)] 104)) 52 #[.int .i64 kind, .int .u64 s0, .int .u64 s1, .int .u64 s2, .int .u64 s3, .slice (some ⟨b', o, none⟩) 1 c, .int .i64 num, .int .i64 (mn : Int), .int .i64 mx, .bool bare]).alloc (.cells #[.int .i64 s.hd.kind, .int .u64 s.hd.s0, .int .u64 s.hd.s1, .int .u64 s.hd.s2, .int .u64 s.hd.s3, .slice B s.subs.length c', .int .i64 s.hd.num, .int .i64 s.hd.min, .int .i64 s.hd.max, .bool s.hd.bare] 52)
    have hbs := Blk.new ((w.alloc (.cells #[.pointer (some ⟨b, 0, none⟩)] 104)).alloc (.cells #[.int .i64 kind, .int .u64 s0, .int .u64 s1, .int .u64 s2, .int .u64 s3, .slice (some ⟨b', o, none⟩) 1 c, .int .i64 num, .int .i64 (mn : Int), .int .i64 mx, .bool bare] 52)) 52 #[.int .i64 s.hd.kind, .int .u64 s.hd.s0, .int .u64 s.hd.s1, .int .u64 s.hd.s2, .int .u64 s.hd.s3, .slice B s.subs.length c', .int .i64 s.hd.num, .int .i64 s.hd.min, .int .i64 s.hd.max, .bool s.hd.bare]
    simp only [World.size_alloc] at hbt hbs
    have hbel := (((Below.refl w.heap.size w).alloc (Nat.le_refl _) (.cells #[.pointer (some ⟨b, 0, none⟩)] 104)).alloc (by simp) (.cells #[.int .i64 kind, .int .u64 s0, .int .u64 s1, .int .u64 s2, .int .u64 s3, .slice (some ⟨b', o, none⟩) 1 c, .int .i64 num, .int .i64 (mn : Int), .int .i64 mx, .bool bare] 52)).alloc (by simp; omega) (.cells #[.int .i64 s.hd.kind, .int .u64 s.hd.s0, .int .u64 s.hd.s1, .int .u64 s.hd.s2, .int .u64 s.hd.s3, .slice B s.subs.length c', .int .i64 s.hd.num, .int .i64 s.hd.min, .int .i64 s.hd.max, .bool s.hd.bare] 52)
    generalize (((w.alloc (.cells #[.pointer (some ⟨b, 0, none⟩)] 104)).alloc (.cells #[.int .i64 kind, .int .u64 s0, .int .u64 s1, .int .u64 s2, .int .u64 s3, .slice (some ⟨b', o, none⟩) 1 c, .int .i64 num, .int .i64 (mn : Int), .int .i64 mx, .bool bare] 52)).alloc (.cells #[.int .i64 s.hd.kind, .int .u64 s.hd.s0, .int .u64 s.hd.s1, .int .u64 s.hd.s2, .int .u64 s.hd.s3, .slice B s.subs.length c', .int .i64 s.hd.num, .int .i64 s.hd.min, .int .i64 s.hd.max, .bool s.hd.bare] 52)) = W at *
    clear n0 n1 n2 n3 n4 n5 n6 n7 n8 n9
    go_loopw [2, 21] (fun fv kv wr => ∃ k cur : Nat, fv = .int .u64 cur ∧ kv = .int .i64 k ∧ k ≤ mn ∧ RepInv (s.R x) x.len f w wr k cur ∧ Blk wr w.heap.size 104 #[.pointer (some ⟨b, 0, none⟩)] ∧ Blk wr (w.heap.size + 1) 52 #[.int .i64 kind, .int .u64 s0, .int .u64 s1, .int .u64 s2, .int .u64 s3, .slice (some ⟨b', o, none⟩) 1 c, .int .i64 num, .int .i64 (mn : Int), .int .i64 mx, .bool bare] ∧ Blk wr (w.heap.size + 1 + 1) 52 #[.int .i64 s.hd.kind, .int .u64 s.hd.s0, .int .u64 s.hd.s1, .int .u64 s.hd.s2, .int .u64 s.hd.s3, .slice B s.subs.length c', .int .i64 s.hd.num, .int .i64 s.hd.min, .int .i64 s.hd.max, .bool s.hd.bare]) (fun _ kv _ => mn - (intOf kv).toNat)
    case atStart => exact ⟨0, f, rfl, rfl, Nat.zero_le _, ⟨Img.id f, HA.out.2.2.1, hbel⟩, hbj, hbt, hbs⟩
    case round =>
      clear hbj hbt hbs hbel
      obtain ⟨k, cur, rfl, rfl, hk, hinv, hbj, hbt, hbs⟩ := hrel
      have cj := hbj.cell
      have ct := hbt.cell
      have cs := hbs.cell
      have zs := hbs.lt
      have HJ := hide (And.intro hbj (And.intro hbt hbs))
      clear hbj hbt hbs
      have HI := hide hinv
      by_cases hlt : k < mn
      · have g1 : decide ((k : Int) < (mn : Int)) = true := decide_eq_true (by omega)
        have HSt := hide (HS.out B c' cur wr (HA.out.2.2.2.2.same (same_of_below hinv.below) (fun y hy => Nat.lt_of_lt_of_le hy hinv.below.size)) (HA.out.1.below hinv.below) (HA.out.2.1.below hinv.below) hinv.fits)
        simp only [Hd.cells] at HSt
        clear hinv
        go_wp2_with fail
        refine HSt.out.mono ?_
        rintro e w1 ⟨tw, rfl, himg, hfit, hb⟩
        have HB := hide (And.intro himg hb)
        clear himg hb
        go_wp2_with fail
        go_roundw
        case rel =>
          refine ⟨k + 1, tw, rfl, by go_num, hlt, ⟨HI.out.img.comp HB.out.1, hfit, HI.out.below.trans (HB.out.2.mono HI.out.below.size)⟩, HJ.out.1.below HB.out.2 (by omega), HJ.out.2.1.below HB.out.2 (by omega), HJ.out.2.2.below HB.out.2 (by omega)⟩
        case measure => simp [intOf]; omega
      · have ek : mn = k := by omega
        subst ek
        clear hinv
        go_wp2_with fail
        clear cj ct cs
        go_loopw [8, 9, 10] (fun av lv nv wr' => ∃ k all last : Nat, av = .int .u64 all ∧ lv = .int .u64 last ∧ nv = .int .i64 ((mn : Int) + k) ∧ RepInv2 (s.R x) x.len cur mn mx w wr' k all last ∧ Blk wr' w.heap.size 104 #[.pointer (some ⟨b, 0, none⟩)] ∧ Blk wr' (w.heap.size + 1) 52 #[.int .i64 kind, .int .u64 s0, .int .u64 s1, .int .u64 s2, .int .u64 s3, .slice (some ⟨b', o, none⟩) 1 c, .int .i64 num, .int .i64 (mn : Int), .int .i64 mx, .bool bare] ∧ Blk wr' (w.heap.size + 1 + 1) 52 #[.int .i64 s.hd.kind, .int .u64 s.hd.s0, .int .u64 s.hd.s1, .int .u64 s.hd.s2, .int .u64 s.hd.s3, .slice B s.subs.length c', .int .i64 s.hd.num, .int .i64 s.hd.min, .int .i64 s.hd.max, .bool s.hd.bare])
          (fun av lv _ _ => (64 - count (intOf av).toNat) * 2 + min (intOf lv).toNat 1)
        case atStart => exact ⟨0, cur, cur, rfl, rfl, by simp, ⟨Rounds.start _ _, HI.out.fits, HI.out.fits, HI.out.below, by omega, by omega, by omega⟩, HJ.out.1, HJ.out.2.1, HJ.out.2.2⟩
        case round =>
          clear HJ zs
          have H1 := hide HI.out.img
          clear HI
          obtain ⟨k, all, last, rfl, rfl, rfl, hinv, hbj, hbt, hbs⟩ := hrel
          have cj := hbj.cell
          have ct := hbt.cell
          have cs := hbs.cell
          have zs := hbs.lt
          have HJ := hide (And.intro hbj (And.intro hbt hbs))
          clear hbj hbt hbs
          have HI := hide hinv
          have hk66 : k ≤ 65 := by have := hinv.few; have := count_le all; omega
          by_cases hm : (mn : Int) + k = mx
          · subst hm
            clear hinv
            go_wp2_with fail
            go_ret
            exact ⟨all, rfl, rep_done H1.out HI.out.rounds HI.out.max (.inl rfl), HI.out.fits, HI.out.below⟩
          · have g1 : ((mn : Int) + k != mx) = true := by simp [hm]
            by_cases hl : last = 0
            · subst hl
              clear hinv
              go_wp2_with fail
              go_ret
              exact ⟨all, rfl, rep_done H1.out HI.out.rounds HI.out.max (.inr rfl), HI.out.fits, HI.out.below⟩
            · have g2 : ((last : Int) != 0) = true := by simp [hl]
              have HSt := hide (HS.out B c' last wr (HA.out.2.2.2.2.same (same_of_below hinv.below) (fun y hy => Nat.lt_of_lt_of_le hy hinv.below.size)) (HA.out.1.below hinv.below) (HA.out.2.1.below hinv.below) hinv.low)
              simp only [Hd.cells] at HSt
              have hab := hinv.fits.lt hn
              have HAB := hide hab
              clear hinv hab
              go_wp2_with fail
              refine HSt.out.mono ?_
              rintro e w1 ⟨tw, rfl, himg, hfit, hb⟩
              have htb := hfit.lt hn
              obtain ⟨new, hnew⟩ : ∃ v, tw &&& (18446744073709551615 - all) = v := ⟨_, rfl⟩
              have hless := word_less htb HAB.out
              rw [hnew] at hless
              obtain ⟨all2, hall2⟩ : ∃ v, all ||| new = v := ⟨_, rfl⟩
              have hnb : new < 18446744073709551616 := by rw [← hnew]; exact Nat.lt_of_le_of_lt Nat.and_le_left htb
              have hor := word_or HAB.out hnb
              rw [hall2] at hor
              have HB := hide (And.intro (HI.out.next hn hl hm himg hfit hb hnew hall2) hb)
              clear himg hb htb hnew hall2 hnb hfit
              go_wp2_with fail
              go_roundw
              case rel => exact ⟨k + 1, all2, new, rfl, rfl, by go_num, HB.out.1.1, HJ.out.1.below HB.out.2 (by omega), HJ.out.2.1.below HB.out.2 (by omega), HJ.out.2.2.below HB.out.2 (by omega)⟩
              case measure =>
                have := HB.out.1.2
                simp only [intOf, Int.toNat_natCast]
                exact this
end Go.Proofs.YtgpmiflfgpnhaaaDoor
