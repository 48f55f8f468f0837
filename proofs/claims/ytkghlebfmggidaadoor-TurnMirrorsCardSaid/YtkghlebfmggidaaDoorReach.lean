/- Step: reach.step and what it calls: to which places a tree leads from some places.
Rep: reach.repeat: a repeat, where its Sub is known.
StepAll: reach.step: to which places a tree leads from some places.
Reach: reach.asked, Ends, Takes.
Takes: reach.Takes: does a tree take the piece between two places. (Printed by gen_takes.py.) -/
import Derived.Test.YtkghlebfmggidaaDoorTz
import Derived.Test.YtkghlebfmggidaaDoorHas
import Derived.Test.YtkghlebfmggidaaDoorSceneNew
import Derived.Test.YtkghlebfmggidaaDoorCheck
import Derived.Deep.DeepCutAuto
import Derived.Test.YtkghlebfmggidaaDoorPick
import Derived.Stop.IfaceNil
set_option linter.unusedSimpArgs false
set_option linter.unusedVariables false
set_option linter.unnecessarySimpa false

/-! ## Step -/
namespace Go.Proofs.YtkghlebfmggidaaDoor
open Go.RowKit

/-- The call returned the set of places to which R leads from f. -/
def Stepped (n : Nat) (R : Nat → Nat → Prop) (f : Nat) (w : World) (e : Ending) (w' : World) : Prop :=
  ∃ tw : Nat, e = .returned (.int .u64 tw) ∧ Img R f tw ∧ Fits n tw ∧ Below w.heap.size w w'

theorem wrap_two {k : Nat} (hk : k < 64) : IntKind.u64.wrap (2 ^ k) = ((2 ^ k : Nat) : Int) := by
  have h2 := two_pow_lt hk
  rw [show ((2 : Int) ^ k) = ((2 ^ k : Nat) : Int) by simp]
  generalize 2 ^ k = p at *
  rw [IntWalk.u64_in _ (by omega)]

/-- What holds at the head of a round over the places of a word. -/
structure WordInv (R : Nat → Nat → Prop) (n f : Nat) (w wr : World) (tw ww : Nat) : Prop where
  gone : Gone R f ww tw
  fits : Fits n tw
  low : Fits n ww
  below : Below w.heap.size w wr

theorem WordInv.next {R : Nat → Nat → Prop} {n f tw ww w2 : Nat} {w wr wr' : World} (h : WordInv R n f w wr tw ww) (h0 : ww ≠ 0) (hn : n ≤ 63) (h2 : ww &&& (ww - 1) = w2) (hb : Below wr.heap.size wr wr') (hR : ∀ j, ¬ R (Lib.ctz 64 ww) j) : WordInv R n f w wr' tw w2 := by
  subst h2
  exact ⟨h.gone.skip h0 (h.low.lt hn) hR, h.fits, fun i hi => h.low i (by rw [clear_low h0 (h.low.lt hn)] at hi; simp only [Bool.and_eq_true] at hi; exact hi.1), h.below.trans (hb.mono h.below.size)⟩
theorem WordInv.more {R : Nat → Nat → Prop} {n f tw ww w2 k tw2 : Nat} {w wr wr' : World} (h : WordInv R n f w wr tw ww) (h0 : ww ≠ 0) (hn : n ≤ 63) (h2 : ww &&& (ww - 1) = w2) (hb : Below wr.heap.size wr wr') (hR : ∀ j, R (Lib.ctz 64 ww) j ↔ j = k) (hk : k ≤ n) (h3 : tw ||| 2 ^ k = tw2) :
    WordInv R n f w wr' tw2 w2 := by
  subst h2; subst h3
  refine ⟨h.gone.take h0 (h.low.lt hn) hR, fun i hi => ?_, fun i hi => h.low i (by rw [clear_low h0 (h.low.lt hn)] at hi; simp only [Bool.and_eq_true] at hi; exact hi.1), h.below.trans (hb.mono h.below.size)⟩
  rw [set_bit, Bool.or_eq_true, decide_eq_true_eq] at hi
  rcases hi with hi | hi
  · exact h.fits i hi
  · omega

set_option maxRecDepth 100000 in
set_option maxHeartbeats 2000000 in
theorem rbytes_any {w : World} {b m : Nat} {x : Sc} (h : Scn w b m x) (hT : Tab w) (hn : x.len ≤ 63) (s0 s1 s2 s3 : Int) (h0 : IsU64 s0) (h1 : IsU64 s1) (h2 : IsU64 s2) (h3 : IsU64 s3) (f : Nat) (hf : Fits x.len f) :
    Calls Tryd.prog 40 #[.agg #[.pointer (some ⟨b, 0, none⟩)], .agg #[.int .u64 s0, .int .u64 s1, .int .u64 s2, .int .u64 s3], .int .u64 f] w
      (Stepped x.len (fun i j => j = i + 1 ∧ i < x.len ∧ Hd.has ⟨0, s0, s1, s2, s3, 0, 0, 0, false⟩ (x.text.data.toList.getD i 0).toNat = true) f w) := by
  generalize hR : (fun i j => j = i + 1 ∧ i < x.len ∧ Hd.has ⟨0, s0, s1, s2, s3, 0, 0, 0, false⟩ (x.text.data.toList.getD i 0).toNat = true) = R
  have HR := hide (fun i j => (iff_of_eq (congrFun (congrFun hR i) j)).symm)
  clear hR
  have HA := hide (And.intro h (And.intro hT hf))
  have HH := hide (fun bt hbt y => has_any s0 s1 s2 s3 bt hbt y h0 h1 h2 h3)
  clear h hT hf h0 h1 h2 h3
  go_enter Tryd.func40, Tryd.ntmps40
  go_wp2_with fail
  go_loopw [7, 8] (fun tv wv wr => ∃ tw ww : Nat, tv = .int .u64 tw ∧ wv = .int .u64 ww ∧ WordInv R x.len f w wr tw ww ∧ Blk wr w.heap.size 67 #[.pointer (some ⟨b, 0, none⟩)] ∧ Blk wr (w.heap.size + 1) 24 #[.int .u64 s0, .int .u64 s1, .int .u64 s2, .int .u64 s3]) (fun _ wv _ => (intOf wv).toNat)
  case atStart =>
    refine ⟨0, f, rfl, rfl, ⟨Gone.start R f, Fits.zero _, HA.out.2.2, ((Below.refl _ _).alloc (Nat.le_refl _) _).alloc (by simp) _⟩, (Blk.new w _ _).alloc _, ?_⟩
    have := Blk.new (w.alloc (.cells #[.pointer (some ⟨b, 0, none⟩)] 67)) 24 #[.int .u64 s0, .int .u64 s1, .int .u64 s2, .int .u64 s3]
    rwa [World.size_alloc] at this
  case round =>
    obtain ⟨tw, ww, rfl, rfl, hinv, hbj, hbs⟩ := hrel
    have cj := hbj.cell
    have cs := hbs.cell
    have HJ := hide (And.intro hbj hbs)
    clear hbj hbs
    by_cases hw : ww = 0
    · subst hw
      go_wp2_with fail
      go_ret
      exact ⟨tw, rfl, (hinv.gone.done).congr fun i j => Iff.rfl, hinv.fits, hinv.below⟩
    · have hlt := hinv.low.lt hn
      obtain ⟨l1, l2, l3⟩ := low_bit hw hlt
      have hkn := hinv.low _ l1
      have g1 : ((ww : Int) != 0) = true := by simp [hw]
      have HTz := hide (fun y hy => tz_any ww hw hlt y hy)
      obtain ⟨k, hk⟩ : ∃ k, k = Lib.ctz 64 ww := ⟨_, rfl⟩
      obtain ⟨w2, hw2⟩ : ∃ v, ww &&& (ww - 1) = v := ⟨_, rfl⟩
      obtain ⟨p, hp⟩ : ∃ p, 2 ^ (k + 1) = p := ⟨_, rfl⟩
      obtain ⟨tw2, htw2⟩ : ∃ v, tw ||| p = v := ⟨_, rfl⟩
      have hclr := word_clear hw hlt
      rw [hw2] at hclr
      rw [← hk] at HTz hkn
      have hTab := hide (HA.out.2.1.below (w' := wr) hinv.below)
      have hScn := hide (HA.out.1.below (w' := wr) hinv.below)
      have HI := hide hinv
      have HK := hide (And.intro hk (And.intro hw2 (And.intro hp htw2)))
      clear l1 l2 l3
      by_cases hkl : k < x.len
      · have hshl := wrap_two (k := k + 1) (by omega)
        have hpb : p < 18446744073709551616 := by rw [← hp]; exact two_pow_lt (by omega)
        have htb := hinv.fits.lt hn
        have hor := word_or htb hpb
        rw [htw2] at hor
        rw [hp] at hshl
        clear hp htw2 hw2 hk hinv htb hpb
        generalize hbt : (x.text.data.toList.getD k 0).toNat = bt
        have hb256 : bt < 256 := by rw [← hbt]; exact UInt8.toNat_lt _
        have HBy := hide (byte_in hScn.out k hkl)
        rw [hbt] at HBy
        have HHb := hide (HH.out bt hb256)
        have HBT := hide hbt
        clear hbt
        cases hhas : Hd.has ⟨0, s0, s1, s2, s3, 0, 0, 0, false⟩ bt
        · rw [hhas] at HHb
          have HHS := hide hhas
          clear hhas
          go_wp2_with fail
          refine (HTz.out wr hTab.out).mono ?_
          rintro e w1 ⟨rfl, rfl⟩
          go_wp2_with fail
          refine HBy.out.mono ?_
          rintro e w1 ⟨rfl, rfl⟩
          go_wp2_with fail
          refine (HHb.out _).mono ?_
          rintro e w1 ⟨rfl, hb⟩
          have HB := hide hb
          clear hb
          go_wp2_with fail
          go_roundw
          case rel =>
            refine ⟨tw, w2, rfl, rfl, HI.out.next hw hn HK.out.2.1 HB.out (fun j => ?_), HJ.out.1.below HB.out HJ.out.1.lt, HJ.out.2.below HB.out HJ.out.2.lt⟩
            rw [HR.out, ← HK.out.1, HBT.out, HHS.out]
            simp
          case measure =>
            have hx := clear_lt hw hlt
            rw [HK.out.2.1] at hx
            simp [intOf]
            exact hx
        · rw [hhas] at HHb
          have HHS := hide hhas
          clear hhas
          go_wp2_with fail
          refine (HTz.out wr hTab.out).mono ?_
          rintro e w1 ⟨rfl, rfl⟩
          go_wp2_with fail
          refine HBy.out.mono ?_
          rintro e w1 ⟨rfl, rfl⟩
          go_wp2_with fail
          refine (HHb.out _).mono ?_
          rintro e w1 ⟨rfl, hb⟩
          have HB := hide hb
          clear hb
          go_wp2_with fail
          go_roundw
          case rel =>
            refine ⟨tw2, w2, rfl, rfl, HI.out.more (k := k + 1) hw hn HK.out.2.1 HB.out (fun j => ?_) (by omega) (by rw [HK.out.2.2.1]; exact HK.out.2.2.2), HJ.out.1.below HB.out HJ.out.1.lt, HJ.out.2.below HB.out HJ.out.2.lt⟩
            rw [HR.out, ← HK.out.1, HBT.out, HHS.out]
            simp [hkl]
          case measure =>
            have hx := clear_lt hw hlt
            rw [HK.out.2.1] at hx
            simp [intOf]
            exact hx
      · have HBy := hide (byte_out hScn.out k (.inr (by omega)) ⟨by omega, by omega⟩)
        clear hinv hp htw2 hw2 hk
        go_wp2_with fail
        refine (HTz.out wr hTab.out).mono ?_
        rintro e w1 ⟨rfl, rfl⟩
        go_wp2_with fail
        refine HBy.out.mono ?_
        rintro e w1 ⟨rfl, rfl⟩
        go_wp2_with fail
        go_roundw
        case rel =>
          refine ⟨tw, w2, rfl, rfl, HI.out.next hw hn HK.out.2.1 (Below.refl _ _) (fun j => ?_), HJ.out.1, HJ.out.2⟩
          rw [HR.out, ← HK.out.1]
          omega
        case measure =>
          have hx := clear_lt hw hlt
          rw [HK.out.2.1] at hx
          simp [intOf]
          exact hx

/-- The places with a mark's bit. -/
theorem marked_any {w : World} {b m : Nat} {x : Sc} (h : Scn w b m x) (hT : Tab w) (hn : x.len ≤ 63) (q : Nat) (hq : q < 2) (f : Nat) (hf : Fits x.len f) :
    Calls Tryd.prog 41 #[.agg #[.pointer (some ⟨b, 0, none⟩)], .int .u64 f, .int .i64 ((2 ^ q : Nat) : Int)] w
      (Stepped x.len (fun i j => i = j ∧ (x.mark i).testBit q = true) f w) := by
  generalize hR : (fun i j => i = j ∧ (x.mark i).testBit q = true) = R
  have HR := hide (fun i j => (iff_of_eq (congrFun (congrFun hR i) j)).symm)
  clear hR
  have HA := hide (And.intro h (And.intro hT hf))
  clear h hT hf
  obtain ⟨g, hg⟩ : ∃ g, 2 ^ q = g := ⟨_, rfl⟩
  rw [hg]
  have HG := hide hg
  clear hg
  go_enter Tryd.func41, Tryd.ntmps41
  go_wp2_with fail
  go_loopw [7, 8] (fun tv wv wr => ∃ tw ww : Nat, tv = .int .u64 tw ∧ wv = .int .u64 ww ∧ WordInv R x.len f w wr tw ww ∧ Blk wr w.heap.size 67 #[.pointer (some ⟨b, 0, none⟩)]) (fun _ wv _ => (intOf wv).toNat)
  case atStart => exact ⟨0, f, rfl, rfl, ⟨Gone.start R f, Fits.zero _, HA.out.2.2, (Below.refl _ _).alloc (Nat.le_refl _) _⟩, Blk.new w _ _⟩
  case round =>
    obtain ⟨tw, ww, rfl, rfl, hinv, hbj⟩ := hrel
    have cj := hbj.cell
    have HJ := hide hbj
    clear hbj
    by_cases hw : ww = 0
    · subst hw
      go_wp2_with fail
      go_ret
      exact ⟨tw, rfl, (hinv.gone.done).congr fun i j => Iff.rfl, hinv.fits, hinv.below⟩
    · have hlt := hinv.low.lt hn
      obtain ⟨l1, l2, l3⟩ := low_bit hw hlt
      have hkn := hinv.low _ l1
      have g1 : ((ww : Int) != 0) = true := by simp [hw]
      have HTz := hide (fun y hy => tz_any ww hw hlt y hy)
      obtain ⟨k, hk⟩ : ∃ k, k = Lib.ctz 64 ww := ⟨_, rfl⟩
      obtain ⟨w2, hw2⟩ : ∃ v, ww &&& (ww - 1) = v := ⟨_, rfl⟩
      obtain ⟨p, hp⟩ : ∃ p, 2 ^ k = p := ⟨_, rfl⟩
      obtain ⟨tw2, htw2⟩ : ∃ v, tw ||| p = v := ⟨_, rfl⟩
      have hclr := word_clear hw hlt
      rw [hw2] at hclr
      rw [← hk] at HTz hkn
      have hTab := hide (HA.out.2.1.below (w' := wr) hinv.below)
      have hScn := hide (HA.out.1.below (w' := wr) hinv.below)
      have HI := hide hinv
      have HK := hide (And.intro hk (And.intro hw2 (And.intro hp htw2)))
      clear l1 l2 l3
      have hshl := wrap_two (k := k) (by omega)
      have hpb : p < 18446744073709551616 := by rw [← hp]; exact two_pow_lt (by omega)
      have htb := hinv.fits.lt hn
      have hor := word_or htb hpb
      rw [htw2] at hor
      rw [hp] at hshl
      clear hp htw2 hw2 hk hinv htb hpb
      have HMk := hide (marks_in hScn.out k hkn)
      have hm4 := hScn.out.small k
      generalize hmk : x.mark k = mk at *
      have hand : (bits .and .i64 (mk : Int) (g : Int) != 0) = mk.testBit q := by
        rw [← HG.out]
        have e1 : q = 0 ∨ q = 1 := by omega
        have e2 : mk = 0 ∨ mk = 1 ∨ mk = 2 ∨ mk = 3 := by omega
        rcases e1 with e | e <;> rcases e2 with e' | e' | e' | e' <;> subst e <;> subst e' <;> decide
      have HM := hide hmk
      clear hmk
      cases hbit : mk.testBit q
      · rw [hbit] at hand
        have HHS := hide hbit
        clear hbit
        go_wp2_with fail
        refine (HTz.out wr hTab.out).mono ?_
        rintro e w1 ⟨rfl, rfl⟩
        go_wp2_with fail
        refine HMk.out.mono ?_
        rintro e w1 ⟨rfl, rfl⟩
        go_wp2_with fail
        go_roundw
        case rel =>
          refine ⟨tw, w2, rfl, rfl, HI.out.next hw hn HK.out.2.1 (Below.refl _ _) (fun j => ?_), HJ.out⟩
          rw [HR.out, ← HK.out.1, HM.out, HHS.out]
          simp
        case measure =>
          have hx := clear_lt hw hlt
          rw [HK.out.2.1] at hx
          simp [intOf]
          exact hx
      · rw [hbit] at hand
        have HHS := hide hbit
        clear hbit
        go_wp2_with fail
        refine (HTz.out wr hTab.out).mono ?_
        rintro e w1 ⟨rfl, rfl⟩
        go_wp2_with fail
        refine HMk.out.mono ?_
        rintro e w1 ⟨rfl, rfl⟩
        go_wp2_with fail
        go_roundw
        case rel =>
          refine ⟨tw2, w2, rfl, rfl, HI.out.more (k := k) hw hn HK.out.2.1 (Below.refl _ _) (fun j => ?_) hkn (by rw [HK.out.2.2.1]; exact HK.out.2.2.2), HJ.out⟩
          rw [HR.out, ← HK.out.1, HM.out, HHS.out]
          simp only [and_true]
          exact eq_comm
        case measure =>
          have hx := clear_lt hw hlt
          rw [HK.out.2.1] at hx
          simp [intOf]
          exact hx
end Go.Proofs.YtkghlebfmggidaaDoor

/-! ## Rep -/
namespace Go.Proofs.YtkghlebfmggidaaDoor
open Go.RowKit

/-- What reach.step does with a tree. -/
def StepC (x : Sc) (b m : Nat) (t : T) : Prop :=
  ∀ (A : Option Addr) (c f : Nat) (w : World), T.In w (· < w.heap.size) t A → Scn w b m x → Tab w → Fits x.len f →
    Calls Tryd.prog 31 #[.agg #[.pointer (some ⟨b, 0, none⟩)], .agg (t.hd.cells (.slice A t.subs.length c)).toArray, .int .u64 f] w (Stepped x.len (t.R x) f w)

/-- What holds at the head of the first loop's round k. -/
structure RepInv (R : Nat → Nat → Prop) (n f : Nat) (w wr : World) (k cur : Nat) : Prop where
  img : Img (Iter R k) f cur
  fits : Fits n cur
  below : Below w.heap.size w wr

/-- What holds at the head of the second loop's round k. -/
structure RepInv2 (R : Nat → Nat → Prop) (n start mn : Nat) (mx : Int) (w wr : World) (k all last : Nat) : Prop where
  rounds : Rounds R start k all last
  fits : Fits n all
  low : Fits n last
  below : Below w.heap.size w wr
  max : mx = -1 ∨ ((mn : Int) + k ≤ mx)
  few : k ≤ count all + 1
  less : last ≠ 0 → k ≤ count all

theorem RepInv2.next {R : Nat → Nat → Prop} {n start mn k all last tw new all2 : Nat} {mx : Int} {w wr wr' : World} (h : RepInv2 R n start mn mx w wr k all last) (hn : n ≤ 63) (hl : last ≠ 0) (hm : ¬ ((mn : Int) + k = mx)) (ht : Img R last tw) (hf : Fits n tw)
    (hb : Below wr.heap.size wr wr') (h1 : tw &&& (18446744073709551615 - all) = new) (h2 : all ||| new = all2) :
    RepInv2 R n start mn mx w wr' (k + 1) all2 new ∧ (64 - count all2) * 2 + min new 1 < (64 - count all) * 2 + min last 1 := by
  have hall := h.fits.lt hn
  have htw := hf.lt hn
  have hnew : ∀ j, new.testBit j = (tw.testBit j && !all.testBit j) := fun j => by rw [← h1, less_bit htw hall]
  have hfn : Fits n new := fun j hj => by
    rw [hnew] at hj
    simp only [Bool.and_eq_true] at hj
    exact hf j hj.1
  have hdis : ∀ j, new.testBit j = true → all.testBit j = false := fun j hj => by
    rw [hnew] at hj
    simp only [Bool.and_eq_true, Bool.not_eq_true'] at hj
    exact hj.2
  have hc : new ≠ 0 → count all < count all2 := fun h0 => by
    rw [← h2]; exact count_or (hfn.lt hn) hdis h0
  have hc0 : new = 0 → all2 = all := fun h0 => by rw [← h2, h0]; simp
  have hle := h.less hl
  have hcl := count_le all2
  refine ⟨⟨?_, ?_, hfn, h.below.trans (hb.mono h.below.size), ?_, ?_, ?_⟩, ?_⟩
  · rw [← h2]; exact h.rounds.next ht hnew
  · rw [← h2]; exact h.fits.or hfn
  · have := h.max; omega
  · by_cases h0 : new = 0
    · rw [hc0 h0]; omega
    · have := hc h0; omega
  · intro h0; have := hc h0; omega
  · by_cases h0 : new = 0
    · rw [hc0 h0]; omega
    · have := hc h0; omega

set_option maxRecDepth 100000 in
set_option maxHeartbeats 2000000 in
theorem rround_any {x : Sc} {b m : Nat} (h : Hd) (s : T) (A : Option Addr) (c : Nat) (f : Nat) (w : World) (hn : x.len ≤ 63) (hS : StepC x b m s) (mn : Nat) (hmn : h.min = mn) (hmn2 : mn ≤ 255) (hmx : h.max = -1 ∨ ((mn : Int) ≤ h.max ∧ h.max ≤ 255))
    (hin : T.In w (· < w.heap.size) (.mk h [s]) A) (hscn : Scn w b m x) (hT : Tab w) (hf : Fits x.len f) :
    Calls Tryd.prog 42 #[.agg #[.pointer (some ⟨b, 0, none⟩)], .agg (h.cells (.slice A 1 c)).toArray, .int .u64 f] w
      (Stepped x.len (fun i j => ∃ q : Nat, (mn : Int) ≤ q ∧ (h.max = -1 ∨ (q : Int) ≤ h.max) ∧ Iter (s.R x) q i j) f w) := by
  obtain ⟨b', o, B, c', rfl, hbk, hcs, hsub⟩ := TL.In.at_ (i := 0) (T.In_iff.1 hin) rfl
  obtain ⟨n0, n1, n2, n3, n4, n5, n6, n7, n8, n9⟩ := hcs.node
  simp only [Nat.zero_mul, Nat.add_zero] at n0 n1 n2 n3 n4 n5 n6 n7 n8 n9
  obtain ⟨kind, s0, s1, s2, s3, num, mi, mx, bare⟩ := h
  simp only [Hd.cells] at hmn hmx ⊢
  subst hmn
  have HA := hide (And.intro hscn (And.intro hT (And.intro hf (And.intro hin hsub))))
  have HS := hide hS
  clear hscn hT hf hin hsub hS hcs
  by_cases hz : mx = 0
  · subst hz
    go_enter Tryd.func42, Tryd.ntmps42
    go_wp2_with fail
    go_ret
    refine ⟨f, rfl, (Img.id f).congr fun i j => ?_, HA.out.2.2.1, ((Below.refl _ _).alloc (Nat.le_refl _) _).alloc (by simp) _⟩
    constructor
    · intro e; exact ⟨0, by omega, .inr (by omega), e⟩
    · rintro ⟨q, h1, h2, h3⟩
      obtain rfl : q = 0 := by omega
      exact h3
  · have g0 : (mx == 0) = false := by simp [hz]
    go_enter Tryd.func42, Tryd.ntmps42
    go_wp2_with fail
    have hbj : Blk (((w.alloc (.cells #[.pointer (some ⟨b, 0, none⟩)] 67)).alloc (.cells #[.int .i64 kind, .int .u64 s0, .int .u64 s1, .int .u64 s2, .int .u64 s3, .slice (some ⟨b', o, none⟩) 1 c, .int .i64 num, .int .i64 (mn : Int), .int .i64 mx, .bool bare] 27)).alloc (.cells #[.int .i64 s.hd.kind, .int .u64 s.hd.s0, .int .u64 s.hd.s1, .int .u64 s.hd.s2, .int .u64 s.hd.s3, .slice B s.subs.length c', .int .i64 s.hd.num, .int .i64 s.hd.min, .int .i64 s.hd.max, .bool s.hd.bare] 27)) w.heap.size 67 #[.pointer (some ⟨b, 0, none⟩)] := ((Blk.new w _ _).alloc _).alloc _
    have hbt := (Blk.new (w.alloc (.cells #[.pointer (some ⟨b, 0, none⟩)] 67)) 27 #[.int .i64 kind, .int .u64 s0, .int .u64 s1, .int .u64 s2, .int .u64 s3, .slice (some ⟨b', o, none⟩) 1 c, .int .i64 num, .int .i64 (mn : Int), .int .i64 mx, .bool bare]).alloc (.cells #[.int .i64 s.hd.kind, .int .u64 s.hd.s0, .int .u64 s.hd.s1, .int .u64 s.hd.s2, .int .u64 s.hd.s3, .slice B s.subs.length c', .int .i64 s.hd.num, .int .i64 s.hd.min, .int .i64 s.hd.max, .bool s.hd.bare] 27)
    have hbs := Blk.new ((w.alloc (.cells #[.pointer (some ⟨b, 0, none⟩)] 67)).alloc (.cells #[.int .i64 kind, .int .u64 s0, .int .u64 s1, .int .u64 s2, .int .u64 s3, .slice (some ⟨b', o, none⟩) 1 c, .int .i64 num, .int .i64 (mn : Int), .int .i64 mx, .bool bare] 27)) 27 #[.int .i64 s.hd.kind, .int .u64 s.hd.s0, .int .u64 s.hd.s1, .int .u64 s.hd.s2, .int .u64 s.hd.s3, .slice B s.subs.length c', .int .i64 s.hd.num, .int .i64 s.hd.min, .int .i64 s.hd.max, .bool s.hd.bare]
    simp only [World.size_alloc] at hbt hbs
    have hbel := (((Below.refl w.heap.size w).alloc (Nat.le_refl _) (.cells #[.pointer (some ⟨b, 0, none⟩)] 67)).alloc (by simp) (.cells #[.int .i64 kind, .int .u64 s0, .int .u64 s1, .int .u64 s2, .int .u64 s3, .slice (some ⟨b', o, none⟩) 1 c, .int .i64 num, .int .i64 (mn : Int), .int .i64 mx, .bool bare] 27)).alloc (by simp; omega) (.cells #[.int .i64 s.hd.kind, .int .u64 s.hd.s0, .int .u64 s.hd.s1, .int .u64 s.hd.s2, .int .u64 s.hd.s3, .slice B s.subs.length c', .int .i64 s.hd.num, .int .i64 s.hd.min, .int .i64 s.hd.max, .bool s.hd.bare] 27)
    generalize (((w.alloc (.cells #[.pointer (some ⟨b, 0, none⟩)] 67)).alloc (.cells #[.int .i64 kind, .int .u64 s0, .int .u64 s1, .int .u64 s2, .int .u64 s3, .slice (some ⟨b', o, none⟩) 1 c, .int .i64 num, .int .i64 (mn : Int), .int .i64 mx, .bool bare] 27)).alloc (.cells #[.int .i64 s.hd.kind, .int .u64 s.hd.s0, .int .u64 s.hd.s1, .int .u64 s.hd.s2, .int .u64 s.hd.s3, .slice B s.subs.length c', .int .i64 s.hd.num, .int .i64 s.hd.min, .int .i64 s.hd.max, .bool s.hd.bare] 27)) = W at *
    clear n0 n1 n2 n3 n4 n5 n6 n7 n8 n9
    go_loopw [2, 21] (fun fv kv wr => ∃ k cur : Nat, fv = .int .u64 cur ∧ kv = .int .i64 k ∧ k ≤ mn ∧ RepInv (s.R x) x.len f w wr k cur ∧ Blk wr w.heap.size 67 #[.pointer (some ⟨b, 0, none⟩)] ∧ Blk wr (w.heap.size + 1) 27 #[.int .i64 kind, .int .u64 s0, .int .u64 s1, .int .u64 s2, .int .u64 s3, .slice (some ⟨b', o, none⟩) 1 c, .int .i64 num, .int .i64 (mn : Int), .int .i64 mx, .bool bare] ∧ Blk wr (w.heap.size + 1 + 1) 27 #[.int .i64 s.hd.kind, .int .u64 s.hd.s0, .int .u64 s.hd.s1, .int .u64 s.hd.s2, .int .u64 s.hd.s3, .slice B s.subs.length c', .int .i64 s.hd.num, .int .i64 s.hd.min, .int .i64 s.hd.max, .bool s.hd.bare]) (fun _ kv _ => mn - (intOf kv).toNat)
    case atStart => exact ⟨0, f, rfl, rfl, Nat.zero_le _, ⟨Img.id f, HA.out.2.2.1, hbel⟩, hbj, hbt, hbs⟩
    case round =>
      clear hbj hbt hbs hbel
      obtain ⟨k, cur, rfl, rfl, hk, hinv, hbj, hbt, hbs⟩ := hrel
      have cj := hbj.cell
      have ct := hbt.cell
      have cs := hbs.cell
      have zs := hbs.lt
      have HJ := hide (And.intro hbj (And.intro hbt hbs))
      clear hbj hbt hbs
      have HI := hide hinv
      by_cases hlt : k < mn
      · have g1 : decide ((k : Int) < (mn : Int)) = true := decide_eq_true (by omega)
        have HSt := hide (HS.out B c' cur wr (HA.out.2.2.2.2.same (same_of_below hinv.below) (fun y hy => Nat.lt_of_lt_of_le hy hinv.below.size)) (HA.out.1.below hinv.below) (HA.out.2.1.below hinv.below) hinv.fits)
        simp only [Hd.cells] at HSt
        clear hinv
        go_wp2_with fail
        refine HSt.out.mono ?_
        rintro e w1 ⟨tw, rfl, himg, hfit, hb⟩
        have HB := hide (And.intro himg hb)
        clear himg hb
        go_wp2_with fail
        go_roundw
        case rel =>
          refine ⟨k + 1, tw, rfl, by go_num, hlt, ⟨HI.out.img.comp HB.out.1, hfit, HI.out.below.trans (HB.out.2.mono HI.out.below.size)⟩, HJ.out.1.below HB.out.2 (by omega), HJ.out.2.1.below HB.out.2 (by omega), HJ.out.2.2.below HB.out.2 (by omega)⟩
        case measure => simp [intOf]; omega
      · have ek : mn = k := by omega
        subst ek
        clear hinv
        go_wp2_with fail
        clear cj ct cs
        go_loopw [8, 9, 10] (fun av lv nv wr' => ∃ k all last : Nat, av = .int .u64 all ∧ lv = .int .u64 last ∧ nv = .int .i64 ((mn : Int) + k) ∧ RepInv2 (s.R x) x.len cur mn mx w wr' k all last ∧ Blk wr' w.heap.size 67 #[.pointer (some ⟨b, 0, none⟩)] ∧ Blk wr' (w.heap.size + 1) 27 #[.int .i64 kind, .int .u64 s0, .int .u64 s1, .int .u64 s2, .int .u64 s3, .slice (some ⟨b', o, none⟩) 1 c, .int .i64 num, .int .i64 (mn : Int), .int .i64 mx, .bool bare] ∧ Blk wr' (w.heap.size + 1 + 1) 27 #[.int .i64 s.hd.kind, .int .u64 s.hd.s0, .int .u64 s.hd.s1, .int .u64 s.hd.s2, .int .u64 s.hd.s3, .slice B s.subs.length c', .int .i64 s.hd.num, .int .i64 s.hd.min, .int .i64 s.hd.max, .bool s.hd.bare])
          (fun av lv _ _ => (64 - count (intOf av).toNat) * 2 + min (intOf lv).toNat 1)
        case atStart => exact ⟨0, cur, cur, rfl, rfl, by simp, ⟨Rounds.start _ _, HI.out.fits, HI.out.fits, HI.out.below, by omega, by omega, by omega⟩, HJ.out.1, HJ.out.2.1, HJ.out.2.2⟩
        case round =>
          clear HJ zs
          have H1 := hide HI.out.img
          clear HI
          obtain ⟨k, all, last, rfl, rfl, rfl, hinv, hbj, hbt, hbs⟩ := hrel
          have cj := hbj.cell
          have ct := hbt.cell
          have cs := hbs.cell
          have zs := hbs.lt
          have HJ := hide (And.intro hbj (And.intro hbt hbs))
          clear hbj hbt hbs
          have HI := hide hinv
          have hk66 : k ≤ 65 := by have := hinv.few; have := count_le all; omega
          by_cases hm : (mn : Int) + k = mx
          · subst hm
            clear hinv
            go_wp2_with fail
            go_ret
            exact ⟨all, rfl, rep_done H1.out HI.out.rounds HI.out.max (.inl rfl), HI.out.fits, HI.out.below⟩
          · have g1 : ((mn : Int) + k != mx) = true := by simp [hm]
            by_cases hl : last = 0
            · subst hl
              clear hinv
              go_wp2_with fail
              go_ret
              exact ⟨all, rfl, rep_done H1.out HI.out.rounds HI.out.max (.inr rfl), HI.out.fits, HI.out.below⟩
            · have g2 : ((last : Int) != 0) = true := by simp [hl]
              have HSt := hide (HS.out B c' last wr (HA.out.2.2.2.2.same (same_of_below hinv.below) (fun y hy => Nat.lt_of_lt_of_le hy hinv.below.size)) (HA.out.1.below hinv.below) (HA.out.2.1.below hinv.below) hinv.low)
              simp only [Hd.cells] at HSt
              have hab := hinv.fits.lt hn
              have HAB := hide hab
              clear hinv hab
              go_wp2_with fail
              refine HSt.out.mono ?_
              rintro e w1 ⟨tw, rfl, himg, hfit, hb⟩
              have htb := hfit.lt hn
              obtain ⟨new, hnew⟩ : ∃ v, tw &&& (18446744073709551615 - all) = v := ⟨_, rfl⟩
              have hless := word_less htb HAB.out
              rw [hnew] at hless
              obtain ⟨all2, hall2⟩ : ∃ v, all ||| new = v := ⟨_, rfl⟩
              have hnb : new < 18446744073709551616 := by rw [← hnew]; exact Nat.lt_of_le_of_lt Nat.and_le_left htb
              have hor := word_or HAB.out hnb
              rw [hall2] at hor
              have HB := hide (And.intro (HI.out.next hn hl hm himg hfit hb hnew hall2) hb)
              clear himg hb htb hnew hall2 hnb hfit
              go_wp2_with fail
              go_roundw
              case rel => exact ⟨k + 1, all2, new, rfl, rfl, by go_num, HB.out.1.1, HJ.out.1.below HB.out.2 (by omega), HJ.out.2.1.below HB.out.2 (by omega), HJ.out.2.2.below HB.out.2 (by omega)⟩
              case measure =>
                have := HB.out.1.2
                simp only [intOf, Int.toNat_natCast]
                exact this
end Go.Proofs.YtkghlebfmggidaaDoor

/-! ## StepAll -/
namespace Go.Proofs.YtkghlebfmggidaaDoor
open Go.RowKit

structure SeqInv (x : Sc) (l : List T) (f : Nat) (w wr : World) (k cur : Nat) : Prop where
  le : k ≤ l.length
  img : Img (TL.Rseq x (l.take k)) f cur
  fits : Fits x.len cur
  below : Below w.heap.size w wr
structure AltInv (x : Sc) (l : List T) (f : Nat) (w wr : World) (k cur : Nat) : Prop where
  le : k ≤ l.length
  img : Img (TL.Ralt x (l.take k)) f cur
  fits : Fits x.len cur
  below : Below w.heap.size w wr

theorem TL.Rseq_app (x : Sc) : ∀ (a : List T) (t : T) (i j : Nat), TL.Rseq x (a ++ [t]) i j ↔ ∃ m, TL.Rseq x a i m ∧ t.R x m j
  | [], t, i, j => by simp [TL.Rseq]
  | s :: a, t, i, j => by
    simp only [List.cons_append, TL.Rseq, TL.Rseq_app x a]
    constructor
    · rintro ⟨m, h1, p, h2, h3⟩; exact ⟨p, ⟨m, h1, h2⟩, h3⟩
    · rintro ⟨p, ⟨m, h1, h2⟩, h3⟩; exact ⟨m, h1, p, h2, h3⟩
theorem TL.Ralt_app (x : Sc) : ∀ (a : List T) (t : T) (i j : Nat), TL.Ralt x (a ++ [t]) i j ↔ TL.Ralt x a i j ∨ t.R x i j
  | [], t, i, j => by simp [TL.Ralt]
  | s :: a, t, i, j => by simp only [List.cons_append, TL.Ralt, TL.Ralt_app x a, or_assoc]

theorem SeqInv.next {x : Sc} {l : List T} {f k cur tw : Nat} {w wr wr' : World} {s : T} (h : SeqInv x l f w wr k cur) (hs : l[k]? = some s) (ht : Img (s.R x) cur tw) (hf : Fits x.len tw) (hb : Below wr.heap.size wr wr') : SeqInv x l f w wr' (k + 1) tw := by
  refine ⟨(List.getElem?_eq_some_iff.1 hs).1, ?_, hf, h.below.trans (hb.mono h.below.size)⟩
  rw [List.take_add_one, hs]
  exact (h.img.comp ht).congr fun i j => (TL.Rseq_app x _ s i j).symm
theorem AltInv.next {x : Sc} {l : List T} {f k cur tw cur2 : Nat} {w wr wr' : World} {s : T} (h : AltInv x l f w wr k cur) (hs : l[k]? = some s) (ht : Img (s.R x) f tw) (hf : Fits x.len tw) (hb : Below wr.heap.size wr wr') (hc : cur ||| tw = cur2) : AltInv x l f w wr' (k + 1) cur2 := by
  subst hc
  refine ⟨(List.getElem?_eq_some_iff.1 hs).1, ?_, h.fits.or hf, h.below.trans (hb.mono h.below.size)⟩
  rw [List.take_add_one, hs]
  exact (h.img.or ht).congr fun i j => (TL.Ralt_app x _ s i j).symm

theorem Hd.formed_len {h : Hd} {n : Int} (hf : h.formed n = true) : 1 ≤ h.kind ∧ h.kind ≤ 8 ∧ (h.kind = 7 ∨ h.kind = 8 → n = 1) := by
  unfold Hd.formed at hf
  by_cases h1 : h.kind = 1 ∨ h.kind = 3 ∨ h.kind = 4
  · omega
  rw [if_neg h1] at hf
  by_cases h2 : h.kind = 2
  · omega
  rw [if_neg h2] at hf
  by_cases h5 : h.kind = 5 ∨ h.kind = 6
  · omega
  rw [if_neg h5] at hf
  by_cases h7 : h.kind = 7
  · rw [if_pos h7] at hf
    simp only [Bool.and_eq_true, beq_iff_eq] at hf
    exact ⟨by omega, by omega, fun _ => hf.2⟩
  rw [if_neg h7] at hf
  by_cases h8 : h.kind = 8
  · rw [if_pos h8] at hf
    simp only [Bool.and_eq_true, Bool.not_eq_true', Bool.or_eq_false_iff, bne_eq_false_iff_eq] at hf
    exact ⟨by omega, by omega, fun _ => hf.1.1.1.1.2⟩
  rw [if_neg h8] at hf
  cases hf

set_option maxRecDepth 100000 in
set_option maxHeartbeats 4000000 in
theorem step_any (N : Nat) {x : Sc} {b m : Nat} (hn : x.len ≤ 63) : ∀ t : T, t.nodes ≤ N → N ≤ 1000000 → t.wf → t.form = true → StepC x b m t := by
  induction N with
  | zero => intro t h; have := t.nodes_pos; omega
  | succ N ih =>
    intro t hN hM hwf hform A c f w hin hscn hT hf
    have hform' := hform
    rw [T.form_eq] at hform'
    simp only [Bool.and_eq_true] at hform'
    obtain ⟨hfo, hfl⟩ := hform'
    have hk := Hd.formed_len hfo
    have hRE := T.R_eq x t
    have hwf' := T.wf_eq.1 hwf
    obtain ⟨h, l⟩ := t
    simp only [T.hd, T.subs, T.nodes] at hN hwf' hfo hfl hk hRE ⊢
    have hlen : l.length ≤ 1000000 := by have := TL.length_le l; omega
    obtain ⟨u0, u1, u2, u3⟩ := And.intro hwf'.1.2.1 (And.intro hwf'.1.2.2.1 (And.intro hwf'.1.2.2.2.1 hwf'.1.2.2.2.2.1))
    have hwl := hwf'.2.2
    by_cases h0 : f = 0
    · subst h0
      obtain ⟨kind, s0, s1, s2, s3, num, mn, mx, bare⟩ := h
      simp only [Hd.cells]
      clear hRE
      go_enter Tryd.func31, Tryd.ntmps31
      go_wp2_with fail
      go_ret
      exact ⟨0, rfl, Img.zero _, Fits.zero _, ((Below.refl _ _).alloc (Nat.le_refl _) _).alloc (by simp) _⟩
    have g0 : ((f : Int) == 0) = false := by simp [h0]
    obtain ⟨hk1, hk8, hk7⟩ := hk
    have hkc : h.kind = 1 ∨ h.kind = 2 ∨ h.kind = 3 ∨ h.kind = 4 ∨ h.kind = 5 ∨ h.kind = 6 ∨ h.kind = 7 ∨ h.kind = 8 := by omega
    obtain ⟨kind, s0, s1, s2, s3, num, mn, mx, bare⟩ := h
    simp only at hkc hk7 u0 u1 u2 u3 hRE
    simp only [Hd.cells]
    generalize hRR : (T.mk ⟨kind, s0, s1, s2, s3, num, mn, mx, bare⟩ l).R x = RR at *
    have HRE := hide hRE
    have HA := hide (And.intro hscn (And.intro hT (And.intro hf hin)))
    have HF := hide (And.intro hwf (And.intro hform (And.intro hfo hfl)))
    have HK7 := hide hk7
    clear hRE hscn hT hf hin hRR hwf hform hfo hfl hwf' hk7 hk1 hk8
    rcases hkc with e | e | e | e | e | e | e | e <;> subst e
    · -- the empty tree
      go_enter Tryd.func31, Tryd.ntmps31
      go_wp2_with fail
      go_ret
      exact ⟨f, rfl, (Img.id f).congr fun i j => by rw [HRE.out]; rfl, HA.out.2.2.1, ((Below.refl _ _).alloc (Nat.le_refl _) _).alloc (by simp) _⟩
    · -- bytes
      have hbel := ((Below.refl w.heap.size w).alloc (Nat.le_refl _) (.cells #[.pointer (some ⟨b, 0, none⟩)] 67)).alloc (by simp) (.cells #[.int .i64 2, .int .u64 s0, .int .u64 s1, .int .u64 s2, .int .u64 s3, .slice A l.length c, .int .i64 num, .int .i64 mn, .int .i64 mx, .bool bare] 27)
      have HC := hide (rbytes_any (HA.out.1.below hbel) (HA.out.2.1.below hbel) hn s0 s1 s2 s3 u0 u1 u2 u3 f HA.out.2.2.1)
      have HB := hide hbel
      clear hbel
      go_enter Tryd.func31, Tryd.ntmps31
      go_wp2_with fail
      refine HC.out.mono ?_
      rintro e w1 ⟨tw, rfl, himg, hfit, hb⟩
      have H2 := hide (And.intro himg (And.intro hfit hb))
      clear himg hfit hb
      go_wp2_with fail
      go_ret
      exact ⟨tw, rfl, H2.out.1.congr fun i j => by rw [HRE.out]; exact Iff.rfl, H2.out.2.1, HB.out.trans (H2.out.2.2.mono HB.out.size)⟩
    · -- beginnings
      have hbel := ((Below.refl w.heap.size w).alloc (Nat.le_refl _) (.cells #[.pointer (some ⟨b, 0, none⟩)] 67)).alloc (by simp) (.cells #[.int .i64 3, .int .u64 s0, .int .u64 s1, .int .u64 s2, .int .u64 s3, .slice A l.length c, .int .i64 num, .int .i64 mn, .int .i64 mx, .bool bare] 27)
      have HC := hide (marked_any (HA.out.1.below hbel) (HA.out.2.1.below hbel) hn 0 (by decide) f HA.out.2.2.1)
      have HB := hide hbel
      clear hbel
      go_enter Tryd.func31, Tryd.ntmps31
      go_wp2_with fail
      refine HC.out.mono ?_
      rintro e w1 ⟨tw, rfl, himg, hfit, hb⟩
      have H2 := hide (And.intro himg (And.intro hfit hb))
      clear himg hfit hb
      go_wp2_with fail
      go_ret
      exact ⟨tw, rfl, H2.out.1.congr fun i j => by rw [HRE.out]; exact Iff.rfl, H2.out.2.1, HB.out.trans (H2.out.2.2.mono HB.out.size)⟩
    · -- ends
      have hbel := ((Below.refl w.heap.size w).alloc (Nat.le_refl _) (.cells #[.pointer (some ⟨b, 0, none⟩)] 67)).alloc (by simp) (.cells #[.int .i64 4, .int .u64 s0, .int .u64 s1, .int .u64 s2, .int .u64 s3, .slice A l.length c, .int .i64 num, .int .i64 mn, .int .i64 mx, .bool bare] 27)
      have HC := hide (marked_any (HA.out.1.below hbel) (HA.out.2.1.below hbel) hn 1 (by decide) f HA.out.2.2.1)
      have HB := hide hbel
      clear hbel
      go_enter Tryd.func31, Tryd.ntmps31
      go_wp2_with fail
      refine HC.out.mono ?_
      rintro e w1 ⟨tw, rfl, himg, hfit, hb⟩
      have H2 := hide (And.intro himg (And.intro hfit hb))
      clear himg hfit hb
      go_wp2_with fail
      go_ret
      exact ⟨tw, rfl, H2.out.1.congr fun i j => by rw [HRE.out]; exact Iff.rfl, H2.out.2.1, HB.out.trans (H2.out.2.2.mono HB.out.size)⟩
    · -- a row
      have hbj : Blk ((w.alloc (.cells #[.pointer (some ⟨b, 0, none⟩)] 67)).alloc (.cells #[.int .i64 5, .int .u64 s0, .int .u64 s1, .int .u64 s2, .int .u64 s3, .slice A l.length c, .int .i64 num, .int .i64 mn, .int .i64 mx, .bool bare] 27)) w.heap.size 67 #[.pointer (some ⟨b, 0, none⟩)] := (Blk.new w _ _).alloc _
      have hbt := Blk.new (w.alloc (.cells #[.pointer (some ⟨b, 0, none⟩)] 67)) 27 #[.int .i64 5, .int .u64 s0, .int .u64 s1, .int .u64 s2, .int .u64 s3, .slice A l.length c, .int .i64 num, .int .i64 mn, .int .i64 mx, .bool bare]
      simp only [World.size_alloc] at hbt
      have hbel := ((Below.refl w.heap.size w).alloc (Nat.le_refl _) (.cells #[.pointer (some ⟨b, 0, none⟩)] 67)).alloc (by simp) (.cells #[.int .i64 5, .int .u64 s0, .int .u64 s1, .int .u64 s2, .int .u64 s3, .slice A l.length c, .int .i64 num, .int .i64 mn, .int .i64 mx, .bool bare] 27)
      go_enter Tryd.func31, Tryd.ntmps31
      go_wp2_with fail
      generalize ((w.alloc (.cells #[.pointer (some ⟨b, 0, none⟩)] 67)).alloc (.cells #[.int .i64 5, .int .u64 s0, .int .u64 s1, .int .u64 s2, .int .u64 s3, .slice A l.length c, .int .i64 num, .int .i64 mn, .int .i64 mx, .bool bare] 27)) = W at *
      go_loopw [2, 41] (fun fv kv wr => ∃ k cur : Nat, fv = .int .u64 cur ∧ kv = .int .i64 k ∧ SeqInv x l f w wr k cur ∧ Blk wr w.heap.size 67 #[.pointer (some ⟨b, 0, none⟩)] ∧ Blk wr (w.heap.size + 1) 27 #[.int .i64 5, .int .u64 s0, .int .u64 s1, .int .u64 s2, .int .u64 s3, .slice A l.length c, .int .i64 num, .int .i64 mn, .int .i64 mx, .bool bare]) (fun _ kv _ => l.length - (intOf kv).toNat)
      case atStart => exact ⟨0, f, rfl, rfl, ⟨Nat.zero_le _, (Img.id f).congr fun i j => Iff.rfl, HA.out.2.2.1, hbel⟩, hbj, hbt⟩
      case round =>
        clear hbj hbt hbel
        obtain ⟨k, cur, rfl, rfl, hinv, hbj, hbt⟩ := hrel
        have cj := hbj.cell
        have ct := hbt.cell
        have zt := hbt.lt
        have zj := hbj.lt
        have HJ := hide (And.intro hbj hbt)
        clear hbj hbt
        have HI := hide hinv
        by_cases hlt : k < l.length
        · have g1 : decide ((k : Int) < (l.length : Int)) = true := decide_eq_true (by omega)
          have hs := List.getElem?_eq_getElem hlt
          obtain ⟨b', o, B, c', rfl, hbk, hcs, hsub⟩ := TL.In.at_ (T.In_iff.1 HA.out.2.2.2) hs
          have hmem := List.getElem_mem hlt
          have hsn := TL.nodes_mem hmem
          have hsw := TL.wf_mem hwl hmem
          have hsf := TL.form_mem HF.out.2.2.2 hmem
          generalize l[k] = s at *
          obtain ⟨n0, n1, n2, n3, n4, n5, n6, n7, n8, n9⟩ := (hcs.same (same_of_below hinv.below) hbk).node
          have hcur := hinv.fits
          have HX := hide (fun y (hy : Below wr.heap.size wr y) => ih s (by omega) (by omega) hsw hsf B c' cur y (hsub.same ((same_of_below hinv.below).trans ((same_of_below hy).mono fun q hq => Nat.lt_of_lt_of_le hq hinv.below.size)) (fun q hq => Nat.lt_of_lt_of_le hq (Nat.le_trans hinv.below.size hy.size)))
            ((HA.out.1.below hinv.below).below hy) ((HA.out.2.1.below hinv.below).below hy) hcur)
          simp only [Hd.cells] at HX
          have HS := hide hs
          have HY := hide ((Below.refl wr.heap.size wr).alloc (Nat.le_refl _) (.cells (s.hd.cells (.slice B s.subs.length c')).toArray 27))
          simp only [Hd.cells] at HY
          clear hs hcs hinv hsub hcur hsw hsf hmem
          go_wp2_with fail
          refine (HX.out _ HY.out).mono ?_
          rintro e w1 ⟨tw, rfl, himg, hfit, hb⟩
          have hb1 := HY.out.trans (hb.mono HY.out.size)
          have HB := hide (And.intro (HI.out.next HS.out himg hfit hb1) hb1)
          clear himg hfit hb hb1
          go_wp2_with fail
          go_roundw
          case rel => exact ⟨k + 1, tw, rfl, by go_num, HB.out.1, HJ.out.1.below HB.out.2 (by omega), HJ.out.2.below HB.out.2 (by omega)⟩
          case measure => simp [intOf]; omega
        · have g1 : decide ((k : Int) < (l.length : Int)) = false := decide_eq_false (by omega)
          clear hinv
          go_wp2_with fail
          go_ret
          have hI := HI.out.img
          rw [List.take_of_length_le (by omega)] at hI
          exact ⟨cur, rfl, hI.congr fun i j => by rw [HRE.out]; exact Iff.rfl, HI.out.fits, HI.out.below⟩
    · -- alternatives
      have hbj : Blk ((w.alloc (.cells #[.pointer (some ⟨b, 0, none⟩)] 67)).alloc (.cells #[.int .i64 6, .int .u64 s0, .int .u64 s1, .int .u64 s2, .int .u64 s3, .slice A l.length c, .int .i64 num, .int .i64 mn, .int .i64 mx, .bool bare] 27)) w.heap.size 67 #[.pointer (some ⟨b, 0, none⟩)] := (Blk.new w _ _).alloc _
      have hbt := Blk.new (w.alloc (.cells #[.pointer (some ⟨b, 0, none⟩)] 67)) 27 #[.int .i64 6, .int .u64 s0, .int .u64 s1, .int .u64 s2, .int .u64 s3, .slice A l.length c, .int .i64 num, .int .i64 mn, .int .i64 mx, .bool bare]
      simp only [World.size_alloc] at hbt
      have hbel := ((Below.refl w.heap.size w).alloc (Nat.le_refl _) (.cells #[.pointer (some ⟨b, 0, none⟩)] 67)).alloc (by simp) (.cells #[.int .i64 6, .int .u64 s0, .int .u64 s1, .int .u64 s2, .int .u64 s3, .slice A l.length c, .int .i64 num, .int .i64 mn, .int .i64 mx, .bool bare] 27)
      go_enter Tryd.func31, Tryd.ntmps31
      go_wp2_with fail
      generalize ((w.alloc (.cells #[.pointer (some ⟨b, 0, none⟩)] 67)).alloc (.cells #[.int .i64 6, .int .u64 s0, .int .u64 s1, .int .u64 s2, .int .u64 s3, .slice A l.length c, .int .i64 num, .int .i64 mn, .int .i64 mx, .bool bare] 27)) = W at *
      go_loopw [9, 56] (fun fv kv wr => ∃ k cur : Nat, fv = .int .u64 cur ∧ kv = .int .i64 k ∧ AltInv x l f w wr k cur ∧ Blk wr w.heap.size 67 #[.pointer (some ⟨b, 0, none⟩)] ∧ Blk wr (w.heap.size + 1) 27 #[.int .i64 6, .int .u64 s0, .int .u64 s1, .int .u64 s2, .int .u64 s3, .slice A l.length c, .int .i64 num, .int .i64 mn, .int .i64 mx, .bool bare]) (fun _ kv _ => l.length - (intOf kv).toNat)
      case atStart => exact ⟨0, 0, rfl, rfl, ⟨Nat.zero_le _, (Img.none f).congr fun i j => Iff.rfl, Fits.zero _, hbel⟩, hbj, hbt⟩
      case round =>
        clear hbj hbt hbel
        obtain ⟨k, cur, rfl, rfl, hinv, hbj, hbt⟩ := hrel
        have cj := hbj.cell
        have ct := hbt.cell
        have zt := hbt.lt
        have zj := hbj.lt
        have HJ := hide (And.intro hbj hbt)
        clear hbj hbt
        have HI := hide hinv
        by_cases hlt : k < l.length
        · have g1 : decide ((k : Int) < (l.length : Int)) = true := decide_eq_true (by omega)
          have hs := List.getElem?_eq_getElem hlt
          obtain ⟨b', o, B, c', rfl, hbk, hcs, hsub⟩ := TL.In.at_ (T.In_iff.1 HA.out.2.2.2) hs
          have hmem := List.getElem_mem hlt
          have hsn := TL.nodes_mem hmem
          have hsw := TL.wf_mem hwl hmem
          have hsf := TL.form_mem HF.out.2.2.2 hmem
          generalize l[k] = s at *
          obtain ⟨n0, n1, n2, n3, n4, n5, n6, n7, n8, n9⟩ := (hcs.same (same_of_below hinv.below) hbk).node
          have hcur := HA.out.2.2.1
          have HX := hide (fun y (hy : Below wr.heap.size wr y) => ih s (by omega) (by omega) hsw hsf B c' f y (hsub.same ((same_of_below hinv.below).trans ((same_of_below hy).mono fun q hq => Nat.lt_of_lt_of_le hq hinv.below.size)) (fun q hq => Nat.lt_of_lt_of_le hq (Nat.le_trans hinv.below.size hy.size)))
            ((HA.out.1.below hinv.below).below hy) ((HA.out.2.1.below hinv.below).below hy) hcur)
          simp only [Hd.cells] at HX
          have HS := hide hs
          have HY := hide ((Below.refl wr.heap.size wr).alloc (Nat.le_refl _) (.cells (s.hd.cells (.slice B s.subs.length c')).toArray 27))
          simp only [Hd.cells] at HY
          clear hs hcs hinv hsub hcur hsw hsf hmem
          have hcl := HI.out.fits.lt hn
          have HCL := hide hcl
          clear hcl
          go_wp2_with fail
          refine (HX.out _ HY.out).mono ?_
          rintro e w1 ⟨tw, rfl, himg, hfit, hb⟩
          have hb1 := HY.out.trans (hb.mono HY.out.size)
          obtain ⟨cur2, hc2⟩ : ∃ v, cur ||| tw = v := ⟨_, rfl⟩
          have hor := word_or HCL.out (hfit.lt hn)
          rw [hc2] at hor
          have HB := hide (And.intro (HI.out.next HS.out himg hfit hb1 hc2) hb1)
          clear hc2
          clear himg hfit hb hb1
          go_wp2_with fail
          go_roundw
          case rel => exact ⟨k + 1, cur2, rfl, by go_num, HB.out.1, HJ.out.1.below HB.out.2 (by omega), HJ.out.2.below HB.out.2 (by omega)⟩
          case measure => simp [intOf]; omega
        · have g1 : decide ((k : Int) < (l.length : Int)) = false := decide_eq_false (by omega)
          clear hinv
          go_wp2_with fail
          go_ret
          have hI := HI.out.img
          rw [List.take_of_length_le (by omega)] at hI
          exact ⟨cur, rfl, hI.congr fun i j => by rw [HRE.out]; exact Iff.rfl, HI.out.fits, HI.out.below⟩
    · -- a group
      have hl1 : l.length = 1 := by have := HK7.out (.inl rfl); omega
      obtain ⟨s, rfl⟩ : ∃ s, l = [s] := by
        match l, hl1 with
        | [s], _ => exact ⟨s, rfl⟩
      obtain ⟨b', o, B, c', rfl, hbk, hcs, hsub⟩ := TL.In.at_ (i := 0) (T.In_iff.1 HA.out.2.2.2) rfl
      simp only [Nat.zero_mul, Nat.add_zero] at hcs
      have hff := HF.out.2.2.2
      simp only [TL.nodes] at hN
      simp only [TL.form, Bool.and_true] at hff
      simp only [TL.wf, and_true] at hwl
      simp only [List.length_cons, List.length_nil, Nat.zero_add]
      have hbj : Blk ((w.alloc (.cells #[.pointer (some ⟨b, 0, none⟩)] 67)).alloc (.cells #[.int .i64 7, .int .u64 s0, .int .u64 s1, .int .u64 s2, .int .u64 s3, .slice (some ⟨b', o, none⟩) 1 c, .int .i64 num, .int .i64 mn, .int .i64 mx, .bool bare] 27)) w.heap.size 67 #[.pointer (some ⟨b, 0, none⟩)] := (Blk.new w _ _).alloc _
      have hbt := Blk.new (w.alloc (.cells #[.pointer (some ⟨b, 0, none⟩)] 67)) 27 #[.int .i64 7, .int .u64 s0, .int .u64 s1, .int .u64 s2, .int .u64 s3, .slice (some ⟨b', o, none⟩) 1 c, .int .i64 num, .int .i64 mn, .int .i64 mx, .bool bare]
      simp only [World.size_alloc] at hbt
      have hbel := ((Below.refl w.heap.size w).alloc (Nat.le_refl _) (.cells #[.pointer (some ⟨b, 0, none⟩)] 67)).alloc (by simp) (.cells #[.int .i64 7, .int .u64 s0, .int .u64 s1, .int .u64 s2, .int .u64 s3, .slice (some ⟨b', o, none⟩) 1 c, .int .i64 num, .int .i64 mn, .int .i64 mx, .bool bare] 27)
      go_enter Tryd.func31, Tryd.ntmps31
      go_wp2_with fail
      generalize ((w.alloc (.cells #[.pointer (some ⟨b, 0, none⟩)] 67)).alloc (.cells #[.int .i64 7, .int .u64 s0, .int .u64 s1, .int .u64 s2, .int .u64 s3, .slice (some ⟨b', o, none⟩) 1 c, .int .i64 num, .int .i64 mn, .int .i64 mx, .bool bare] 27)) = W at *
      refine wp_region_mix (fun y => Below W.heap.size W y) [6] (by kernel_rfl) (fun hcl => ?_)
      have hS : Below W.heap.size W W.drew := (Below.refl _ _).drew
      have zz := hbel.size
      have hnode := hide ((hcs.same (same_of_below hbel) hbk))
      clear hcs
      refine wpAnyT_take (i := 0) hcl rfl (by kernel_rfl) (v := ?_) (fun _ _ _ h => h) hS (Or.inl ⟨rfl, fun w' hS => ?_⟩) (fun hcl => ?_)
      rotate_left
      · skip
        have cj := (hbj.below hS hbj.lt).cell
        go_simp
        with_reducible rfl
      simp only [List.getElem_toArray, List.getElem_cons_zero, List.getElem_cons_succ, Act.put, List.setIfInBounds_toArray, List.set_cons_zero, List.set_cons_succ]
      refine wpAnyT_free (i := 1) hcl rfl (by kernel_rfl) (v := ?_) (fun _ _ _ h => h) hS (Or.inl ⟨rfl, fun w' _ => ?_⟩) (fun hcl => ?_)
      rotate_left
      · go_simp
        with_reducible rfl
      simp only [List.getElem_toArray, List.getElem_cons_zero, List.getElem_cons_succ, Act.put, List.setIfInBounds_toArray, List.set_cons_zero, List.set_cons_succ]
      refine wpAnyT_take (i := 2) hcl rfl (by kernel_rfl) (v := ?_) (fun _ _ _ h => h) hS (Or.inl ⟨rfl, fun w' hS => ?_⟩) (fun hcl => ?_)
      rotate_left
      · skip
        have ct := (hbt.below hS hbt.lt).cell
        go_simp
        with_reducible rfl
      simp only [List.getElem_toArray, List.getElem_cons_zero, List.getElem_cons_succ, Act.put, List.setIfInBounds_toArray, List.set_cons_zero, List.set_cons_succ]
      refine wpAnyT_free (i := 3) hcl rfl (by kernel_rfl) (v := ?_) (fun _ _ _ h => h) hS (Or.inl ⟨rfl, fun w' _ => ?_⟩) (fun hcl => ?_)
      rotate_left
      · go_simp
        with_reducible rfl
      simp only [List.getElem_toArray, List.getElem_cons_zero, List.getElem_cons_succ, Act.put, List.setIfInBounds_toArray, List.set_cons_zero, List.set_cons_succ]
      refine wpAnyT_take (i := 4) hcl rfl (by kernel_rfl) (v := ?_) (fun _ _ _ h => h) hS (Or.inl ⟨rfl, fun w' hS => ?_⟩) (fun hcl => ?_)
      rotate_left
      · skip
        obtain ⟨n0, n1, n2, n3, n4, n5, n6, n7, n8, n9⟩ := (hnode.out.same (same_of_below hS) (Nat.lt_of_lt_of_le hbk zz)).node
        go_simp
        with_reducible rfl
      simp only [List.getElem_toArray, List.getElem_cons_zero, List.getElem_cons_succ, Act.put, List.setIfInBounds_toArray, List.set_cons_zero, List.set_cons_succ]
      refine wpAnyT_free (i := 5) hcl rfl (by kernel_rfl) (v := ?_) (fun _ _ _ h => h) hS (Or.inl ⟨rfl, fun w' _ => ?_⟩) (fun hcl => ?_)
      rotate_left
      · go_simp
        with_reducible rfl
      simp only [List.getElem_toArray, List.getElem_cons_zero, List.getElem_cons_succ, Act.put, List.setIfInBounds_toArray, List.set_cons_zero, List.set_cons_succ]
      refine wpAnyT_last (i := 6) hcl rfl (by kernel_rfl) (by kernel_rfl) (fun hcl => ?_)
      simp only [List.getElem_toArray, List.getElem_cons_zero, List.getElem_cons_succ, Act.put, List.setIfInBounds_toArray, List.set_cons_zero, List.set_cons_succ]

      have HX := hide (ih s (by omega) (by omega) hwl hff B c' f _ (hsub.same ((same_of_below hbel).trans ((same_of_below hS).mono fun q hq => Nat.lt_of_lt_of_le hq hbel.size)) (fun q hq => Nat.lt_of_lt_of_le hq (Nat.le_trans hbel.size hS.size)))
            ((HA.out.1.below hbel).below hS) ((HA.out.2.1.below hbel).below hS) HA.out.2.2.1)
      simp only [Hd.cells] at HX
      have HB := hide (hbel.trans (hS.mono hbel.size))
      clear hS hnode hbj hbt hbel zz
      go_wp2_with fail
      refine HX.out.mono ?_
      rintro e w1 ⟨tw, rfl, himg, hfit, hb⟩
      have H2 := hide (And.intro himg (And.intro hfit (HB.out.trans (hb.mono HB.out.size))))
      clear himg hfit hb
      go_wp2_with fail
      refine wpAnyT_last (i := 7) hcl rfl (by kernel_rfl) (by kernel_rfl) (fun hcl => ?_)
      simp only [List.getElem_toArray, List.getElem_cons_zero, List.getElem_cons_succ, Act.put, List.setIfInBounds_toArray, List.set_cons_zero, List.set_cons_succ]

      go_wp2_with fail
      refine wpAnyT_done (by kernel_rfl) ?_ _
      go_wp2_with fail
      go_ret
      exact ⟨tw, rfl, H2.out.1.congr fun i j => by rw [HRE.out]; exact Iff.rfl, H2.out.2.1, H2.out.2.2⟩
    · -- a repeat
      have hl1 : l.length = 1 := by have := HK7.out (.inr rfl); omega
      obtain ⟨s, rfl⟩ : ∃ s, l = [s] := by
        match l, hl1 with
        | [s], _ => exact ⟨s, rfl⟩
      have hff := HF.out.2.2.2
      simp only [TL.nodes] at hN
      simp only [TL.form, Bool.and_true] at hff
      simp only [TL.wf, and_true] at hwl
      obtain ⟨r1, r2, r3⟩ := Hd.rep_bd HF.out.2.2.1 rfl
      simp only at r1 r2 r3
      obtain ⟨q, hq⟩ : ∃ q : Nat, mn = q := ⟨mn.toNat, by omega⟩
      subst hq
      simp only [List.length_cons, List.length_nil, Nat.zero_add]
      have hbel := ((Below.refl w.heap.size w).alloc (Nat.le_refl _) (.cells #[.pointer (some ⟨b, 0, none⟩)] 67)).alloc (by simp) (.cells #[.int .i64 8, .int .u64 s0, .int .u64 s1, .int .u64 s2, .int .u64 s3, .slice A 1 c, .int .i64 num, .int .i64 (q : Int), .int .i64 mx, .bool bare] 27)
      have HC := hide (rround_any ⟨8, s0, s1, s2, s3, num, q, mx, bare⟩ s A c f _ hn (ih s (by omega) (by omega) hwl hff) q rfl (by omega) r3 (HA.out.2.2.2.same (same_of_below hbel) (fun y hy => Nat.lt_of_lt_of_le hy hbel.size)) (HA.out.1.below hbel) (HA.out.2.1.below hbel) HA.out.2.2.1)
      simp only [Hd.cells] at HC
      have HB := hide hbel
      clear hbel
      go_enter Tryd.func31, Tryd.ntmps31
      go_wp2_with fail
      refine HC.out.mono ?_
      rintro e w1 ⟨tw, rfl, himg, hfit, hb⟩
      have H2 := hide (And.intro himg (And.intro hfit hb))
      clear himg hfit hb
      go_wp2_with fail
      go_ret
      exact ⟨tw, rfl, H2.out.1.congr fun i j => by rw [HRE.out]; exact Iff.rfl, H2.out.2.1, HB.out.trans (H2.out.2.2.mono HB.out.size)⟩
end Go.Proofs.YtkghlebfmggidaaDoor

/-! ## Reach -/
namespace Go.Proofs.YtkghlebfmggidaaDoor
open Go.RowKit

/-- The error of a call with these places. -/
def asked (t : T) (x : Sc) (ps : List Int) : Option Nat :=
  match t.check with
  | some g => some g
  | none => if 63 < x.len then some 3 else if ps.any (fun p => decide (p < 0) || decide ((x.len : Int) < p)) then some 4 else none

theorem asked_none {t : T} {x : Sc} {ps : List Int} : asked t x ps = none ↔ t.check = none ∧ x.len ≤ 63 ∧ ∀ p ∈ ps, 0 ≤ p ∧ p ≤ x.len := by
  unfold asked
  cases t.check with
  | some g => simp
  | none =>
    simp only [true_and]
    by_cases h : 63 < x.len
    · simp [h]; omega
    · rw [if_neg h]
      by_cases h2 : ps.any (fun p => decide (p < 0) || decide ((x.len : Int) < p)) = true
      · rw [if_pos h2]
        simp only [List.any_eq_true, Bool.or_eq_true, decide_eq_true_eq] at h2
        obtain ⟨p, hp, h3⟩ := h2
        simp only [reduceCtorEq, false_iff, not_and]
        intro _ h4
        have := h4 p hp
        omega
      · rw [if_neg h2]
        simp only [List.any_eq_true, Bool.or_eq_true, decide_eq_true_eq, not_exists, not_and, not_or] at h2
        simp only [true_iff]
        exact ⟨by omega, fun p hp => by have := h2 p hp; omega⟩

theorem asked_some {t : T} {x : Sc} {ps : List Int} {g : Nat} (h : t.check = some g) : asked t x ps = some g := by
  unfold asked
  rw [h]
theorem asked_long {t : T} {x : Sc} {ps : List Int} (h : t.check = none) (hl : 63 < x.len) : asked t x ps = some 3 := by
  unfold asked
  rw [h]
  exact if_pos hl
theorem asked_bad {t : T} {x : Sc} {ps : List Int} (h : t.check = none) (hl : ¬ 63 < x.len) {p : Int} (hp : p ∈ ps) (hb : p < 0 ∨ (x.len : Int) < p) : asked t x ps = some 4 := by
  unfold asked
  rw [h]
  show (if 63 < x.len then _ else _) = _
  rw [if_neg hl, if_pos]
  rw [List.any_eq_true]
  exact ⟨p, hp, by simpa using hb⟩

set_option maxRecDepth 100000 in
set_option maxHeartbeats 2000000 in
theorem asked_any {x : Sc} {b m : Nat} (t : T) (A : Option Addr) (c : Nat) (ps : List Int) (g cap : Nat) (w : World) (a : Nat → Addr) (hN : t.nodes ≤ 1000000) (hin : T.In w (· < w.heap.size) t A) (hscn : Scn w b m x) (hE : Env w a)
    (hps : Blk w g 3 (ps.map fun p => Value.int .i64 p).toArray) (h64 : ∀ p ∈ ps, IsI64 p) (hl : ps.length ≤ 1000) :
    Calls Tryd.prog 30 #[.agg (t.hd.cells (.slice A t.subs.length c)).toArray, .pointer (some ⟨b, 0, none⟩), .slice (some ⟨g, 0, none⟩) ps.length cap] w fun e w' => e = .returned (errOf a (asked t x ps)) ∧ Below w.heap.size w w' := by
  have hne := fun y ad => run_neq_iface_nil (P := Tryd.prog) (w := y) 33 (by kernel_rfl) 83 (.pointer (some ad))
  have hnn := fun y => run_neq_nil_nil_at (P := Tryd.prog) (w := y) 33 (by kernel_rfl)
  have hA := hide (And.intro (@asked_some t x ps) (And.intro (@asked_long t x ps) (And.intro (@asked_bad t x ps) (@asked_none t x ps))))
  have HC := hide (fun y (hy : Below w.heap.size w y) => check_any t A c y a hN (hin.same (same_of_below hy) (fun z hz => Nat.lt_of_lt_of_le hz hy.size)) ((hE.below hy).sent.mono (by decide)))
  have HH := hide (And.intro hscn (And.intro hE (And.intro hps h64)))
  have hfit := hscn.fits
  clear hin hscn hE hps h64
  generalize asked t x ps = res at *
  generalize t.check = ck at *
  obtain ⟨h, l⟩ := t
  obtain ⟨kind, s0, s1, s2, s3, num, mn, mx, bare⟩ := h
  simp only [T.hd, T.subs, Hd.cells] at HC ⊢
  clear hN
  go_enter Tryd.func30, Tryd.ntmps30
  go_wp2_with fail
  refine (HC.out _ ((Below.refl _ _).alloc (Nat.le_refl _) _)).mono ?_
  rintro e w1 ⟨rfl, hb⟩
  have hbel := ((Below.refl w.heap.size w).alloc (Nat.le_refl _) _).trans (hb.mono (by simp))
  clear hb HC
  have HB := hide hbel
  cases ck with
  | some q =>
    have hr := hA.out.1 rfl
    have HR := hide hr
    clear hr hbel
    simp only [errOf, errV]
    go_wp2_with fail
    go_ret
    exact ⟨by rw [HR.out]; rfl, HB.out⟩
  | none =>
    have hS := hide (HH.out.1.below (w' := w1) hbel)
    have hrow := (HH.out.2.2.1.below hbel HH.out.2.2.1.lt).cell
    have hE := (HH.out.2.1.below hbel).sent
    have v1 := hE 3 (by decide)
    have v2 := hE 4 (by decide)
    simp only [errV] at v1 v2
    have HLen := hide (slen_any hS.out)
    clear hE hbel
    simp only [errOf]
    by_cases hlong : 63 < x.len
    · have g1 : decide ((63 : Int) < (x.len : Int)) = true := decide_eq_true (by omega)
      have hr := hA.out.2.1 rfl hlong
      have HR := hide hr
      clear hr v2
      go_wp2_with fail
      refine HLen.out.mono ?_
      rintro e w2 ⟨rfl, rfl⟩
      go_wp2_with fail
      go_ret
      exact ⟨by rw [HR.out]; rfl, HB.out⟩
    · have g1 : decide ((63 : Int) < (x.len : Int)) = false := decide_eq_false (by omega)
      clear v1
      go_wp2_with fail
      refine HLen.out.mono ?_
      rintro e w2 ⟨rfl, rfl⟩
      go_wp2_with fail
      have HV := hide v2
      have HRow := hide hrow
      clear v2 hrow
      go_loopw [21] (fun kv wr => ∃ k : Nat, kv = .int .i64 k ∧ k ≤ ps.length ∧ (∀ p ∈ ps.take k, 0 ≤ p ∧ p ≤ x.len) ∧ wr = w1) (fun kv _ => ps.length - (intOf kv).toNat)
      case atStart => exact ⟨0, rfl, Nat.zero_le _, by simp, rfl⟩
      case round =>
        obtain ⟨k, rfl, hk, hall, rfl⟩ := hrel
        by_cases hlt : k < ps.length
        · have g2 : decide ((k : Int) < (ps.length : Int)) = true := decide_eq_true (by omega)
          have hck := HRow.out k
          have hmem := List.getElem_mem hlt
          have h64 := HH.out.2.2.2 _ hmem
          have htk : ps.take (k + 1) = ps.take k ++ [ps[k]] := by rw [List.take_add_one, List.getElem?_eq_getElem hlt]; rfl
          rw [List.getElem?_toArray, List.getElem?_map, List.getElem?_eq_getElem hlt] at hck
          simp only [Option.map_some] at hck
          generalize ps[k] = p at *
          have HT := hide (And.intro htk (And.intro hall hmem))
          clear htk hall hmem
          obtain ⟨h64a, h64b⟩ := h64
          by_cases hneg : p < 0
          · have g3 : decide (p < 0) = true := decide_eq_true hneg
            have hr := hA.out.2.2.1 (by first | rfl | trivial) hlong HT.out.2.2 (.inl hneg)
            have HR := hide hr
            clear hr
            have v2 := HV.out
            go_wp2_with fail
            go_ret
            exact ⟨by rw [HR.out]; rfl, HB.out⟩
          · have g3 : decide (p < 0) = false := decide_eq_false hneg
            by_cases hbig : (x.len : Int) < p
            · have g4 : decide ((x.len : Int) < p) = true := decide_eq_true hbig
              have hr := hA.out.2.2.1 (by first | rfl | trivial) hlong HT.out.2.2 (.inr hbig)
              have HR := hide hr
              clear hr
              have v2 := HV.out
              go_wp2_with fail
              refine HLen.out.mono ?_
              rintro e w2 ⟨rfl, rfl⟩
              go_wp2_with fail
              go_ret
              exact ⟨by rw [HR.out]; rfl, HB.out⟩
            · have g4 : decide ((x.len : Int) < p) = false := decide_eq_false hbig
              go_wp2_with fail
              refine HLen.out.mono ?_
              rintro e w2 ⟨rfl, rfl⟩
              go_wp2_with fail
              go_roundw
              case rel =>
                refine ⟨k + 1, by go_num, hlt, ?_, trivial⟩
                rw [HT.out.1]
                intro q hq
                rcases List.mem_append.1 hq with hq | hq
                · exact HT.out.2.1 q hq
                · obtain rfl : q = p := by simpa using hq
                  omega
              case measure => simp [intOf]; omega
        · have hr : res = none := hA.out.2.2.2.2 ⟨by first | rfl | trivial, by omega, fun p hp => hall p (by rw [List.take_of_length_le (by omega)]; exact hp)⟩
          have HR := hide hr
          clear hr hall
          have g2 : decide ((k : Int) < (ps.length : Int)) = false := decide_eq_false (by omega)
          go_wp2_with fail
          go_ret
          exact ⟨by rw [HR.out]; rfl, HB.out⟩
end Go.Proofs.YtkghlebfmggidaaDoor

/-! ## Takes -/
namespace Go.Proofs.YtkghlebfmggidaaDoor
open Go.RowKit

/-- What Takes answers. -/
def Took (t : T) (x : Sc) (p q : Int) (a : Nat → Addr) (w : World) (e : Ending) (w' : World) : Prop :=
  ∃ r : Bool, e = .returned (.tuple #[.bool r, errOf a (asked t x [p, q])]) ∧ (asked t x [p, q] = none → (r = true ↔ t.R x p.toNat q.toNat)) ∧ (asked t x [p, q] ≠ none → r = false) ∧ Below w.heap.size w w'

theorem T.form_of_check {t : T} (h : t.check = none) : t.form = true := by
  unfold T.check at h
  by_cases hf : t.form = true
  · exact hf
  · rw [if_neg hf] at h; cases h

theorem one_img {R : Nat → Nat → Prop} {i tw : Nat} (h : Img R (2 ^ i) tw) (j : Nat) : tw.testBit j = true ↔ R i j := by
  rw [h j]
  constructor
  · rintro ⟨k, h1, h2⟩
    rw [Nat.testBit_two_pow, decide_eq_true_eq] at h1
    subst h1
    exact h2
  · intro h2
    exact ⟨i, Nat.testBit_two_pow_self, h2⟩
theorem one_fits {n i : Nat} (h : i ≤ n) : Fits n (2 ^ i) := fun j hj => by
  rw [Nat.testBit_two_pow, decide_eq_true_eq] at hj
  omega

set_option maxRecDepth 100000 in
set_option maxHeartbeats 2000000 in
theorem takes_any {x : Sc} {b m : Nat} (t : T) (A : Option Addr) (c : Nat) (p q : Int) (w : World) (a : Nat → Addr) (hN : t.nodes ≤ 1000000) (hwf : t.wf) (hin : T.In w (· < w.heap.size) t A) (hscn : Scn w b m x) (hE : Env w a) (hp : IsI64 p) (hq : IsI64 q) :
    Calls Tryd.prog 14 #[.agg (t.hd.cells (.slice A t.subs.length c)).toArray, .pointer (some ⟨b, 0, none⟩), .int .i64 p, .int .i64 q] w (Took t x p q a w) := by
  have hne := fun y ad => run_neq_iface_nil (P := Tryd.prog) (w := y) 33 (by kernel_rfl) 83 (.pointer (some ad))
  have hnn := fun y => run_neq_nil_nil_at (P := Tryd.prog) (w := y) 33 (by kernel_rfl)
  have HD := hide (show ∀ e w', (∃ r : Bool, e = .returned (.tuple #[.bool r, errOf a (asked t x [p, q])]) ∧ (asked t x [p, q] = none → (r = true ↔ t.R x p.toNat q.toNat)) ∧ (asked t x [p, q] ≠ none → r = false) ∧ Below w.heap.size w w') → Took t x p q a w e w' from fun e w' h => h)
  have HN := hide (@asked_none t x [p, q])
  have HA := hide (fun g y (hy : Below w.heap.size w y) hg => asked_any (x := x) (b := b) (m := m) t A c [p, q] g 2 y a hN (hin.same (same_of_below hy) (fun z hz => Nat.lt_of_lt_of_le hz hy.size)) (hscn.below hy) (hE.below hy) hg (by simp [hp, hq]) (by simp))
  have HSt := hide (fun (hn : x.len ≤ 63) (hf : t.form = true) => step_any 1000000 (b := b) (m := m) hn t hN (by decide) hwf hf A c)
  have HFc := hide (@T.form_of_check t)
  have HH := hide (And.intro hscn (And.intro hE hin))
  clear hscn hE hin hwf hN
  generalize asked t x [p, q] = res at *
  generalize t.check = ck at *
  generalize t.form = fo at *
  generalize t.R x = R at *
  generalize Took t x p q a w = Post at *
  obtain ⟨h, l⟩ := t
  obtain ⟨kind, s0, s1, s2, s3, num, mn, mx, bare⟩ := h
  simp only [T.hd, T.subs, Hd.cells, List.length_cons, List.length_nil, Nat.zero_add, Nat.reduceAdd, List.map_cons, List.map_nil] at HA HSt ⊢
  obtain ⟨hp1, hp2⟩ := hp
  obtain ⟨hq1, hq2⟩ := hq
  go_enter Tryd.func14, Tryd.ntmps14
  go_wp2_with fail
  refine (HA.out _ _ (((Below.refl w.heap.size w).alloc (Nat.le_refl _) _).alloc (by simp) _) (by simpa using Blk.new (w.alloc _) _ _)).mono ?_
  rintro e w1 ⟨rfl, hb⟩
  have hz := hb.size
  simp only [World.size_alloc] at hz
  have hbt := ((Blk.new w 27 #[.int .i64 kind, .int .u64 s0, .int .u64 s1, .int .u64 s2, .int .u64 s3, .slice A l.length c, .int .i64 num, .int .i64 mn, .int .i64 mx, .bool bare]).alloc (.cells #[.int .i64 p, .int .i64 q] 3)).below hb (by simp; omega)
  have hbel := (((Below.refl w.heap.size w).alloc (Nat.le_refl _) (.cells #[.int .i64 kind, .int .u64 s0, .int .u64 s1, .int .u64 s2, .int .u64 s3, .slice A l.length c, .int .i64 num, .int .i64 mn, .int .i64 mx, .bool bare] 27)).alloc (by simp) (.cells #[.int .i64 p, .int .i64 q] 3)).trans (hb.mono (by simp; omega))
  clear hb HA
  cases res with
  | some g =>
    have HB := hide hbel
    clear hbel hbt
    simp only [errOf, errV] at HD ⊢
    go_wp2_with fail
    exact HD.out _ _ ⟨false, rfl, (fun h => by cases h), fun _ => rfl, HB.out⟩
  | none =>
    obtain ⟨hck, hn, hps⟩ := HN.out.1 (by first | rfl | trivial)
    have hf := HFc.out hck
    have hpp := hps p (by simp)
    have hqq := hps q (by simp)
    obtain ⟨i, hi⟩ : ∃ i : Nat, p = i := ⟨p.toNat, by omega⟩
    obtain ⟨j, hj⟩ : ∃ j : Nat, q = j := ⟨q.toNat, by omega⟩
    subst hi
    subst hj
    simp only [errOf] at HD ⊢
    have hsw := wrap_two (k := i) (by omega)
    have hpb := two_pow_lt (i := i) (by omega)
    obtain ⟨f, hf2⟩ : ∃ f, 2 ^ i = f := ⟨_, rfl⟩
    rw [hf2] at hsw hpb
    have hi64 : i < 64 := by omega
    have hj64 : j < 64 := by omega
    have HF := hide (And.intro hf2 (And.intro hpp hqq))
    clear hck hps hpp hqq HN HFc hf2
    go_upto_region 4 with fail
    refine wp_region_mix (fun y => Below w1.heap.size w1 y) [5] (by kernel_rfl) (fun hcl => ?_)
    have hS : Below w1.heap.size w1 w1.drew := (Below.refl _ _).drew
    refine wpAnyT_free (i := 0) hcl rfl (by kernel_rfl) (v := ?_) (fun _ _ _ h => h) hS (Or.inl ⟨rfl, fun w' _ => ?_⟩) (fun hcl => ?_)
    rotate_left
    · go_simp
      with_reducible rfl
    simp only [List.getElem_toArray, List.getElem_cons_zero, List.getElem_cons_succ, Act.put, List.setIfInBounds_toArray, List.set_cons_zero, List.set_cons_succ]
    refine wpAnyT_free (i := 1) hcl rfl (by kernel_rfl) (v := ?_) (fun _ _ _ h => h) hS (Or.inl ⟨rfl, fun w' _ => ?_⟩) (fun hcl => ?_)
    rotate_left
    · go_simp
      with_reducible rfl
    simp only [List.getElem_toArray, List.getElem_cons_zero, List.getElem_cons_succ, Act.put, List.setIfInBounds_toArray, List.set_cons_zero, List.set_cons_succ]
    refine wpAnyT_take (i := 2) hcl rfl (by kernel_rfl) (v := ?_) (fun _ _ _ h => h) hS (Or.inl ⟨rfl, fun w' hS => ?_⟩) (fun hcl => ?_)
    rotate_left
    · skip
      have ct := (hbt.below hS hbt.lt).cell
      go_simp
      with_reducible rfl
    simp only [List.getElem_toArray, List.getElem_cons_zero, List.getElem_cons_succ, Act.put, List.setIfInBounds_toArray, List.set_cons_zero, List.set_cons_succ]
    refine wpAnyT_free (i := 3) hcl rfl (by kernel_rfl) (v := ?_) (fun _ _ _ h => h) hS (Or.inl ⟨rfl, fun w' _ => ?_⟩) (fun hcl => ?_)
    rotate_left
    · go_simp
      with_reducible rfl
    simp only [List.getElem_toArray, List.getElem_cons_zero, List.getElem_cons_succ, Act.put, List.setIfInBounds_toArray, List.set_cons_zero, List.set_cons_succ]
    refine wpAnyT_free (i := 4) hcl rfl (by kernel_rfl) (v := ?_) (fun _ _ _ h => h) hS (Or.inl ⟨rfl, fun w' _ => ?_⟩) (fun hcl => ?_)
    rotate_left
    · go_simp
      with_reducible rfl
    simp only [List.getElem_toArray, List.getElem_cons_zero, List.getElem_cons_succ, Act.put, List.setIfInBounds_toArray, List.set_cons_zero, List.set_cons_succ]
    refine wpAnyT_free (i := 6) hcl rfl (by kernel_rfl) (v := ?_) (fun _ _ _ h => h) hS (Or.inl ⟨rfl, fun w' _ => ?_⟩) (fun hcl => ?_)
    rotate_left
    · go_simp
      with_reducible rfl
    simp only [List.getElem_toArray, List.getElem_cons_zero, List.getElem_cons_succ, Act.put, List.setIfInBounds_toArray, List.set_cons_zero, List.set_cons_succ]
    refine wpAnyT_last (i := 5) hcl rfl (by kernel_rfl) (by kernel_rfl) (fun hcl => ?_)
    simp only [List.getElem_toArray, List.getElem_cons_zero, List.getElem_cons_succ, Act.put, List.setIfInBounds_toArray, List.set_cons_zero, List.set_cons_succ]
    have HX := hide (HSt.out hn hf f _ (HH.out.2.2.same ((same_of_below hbel).trans ((same_of_below hS).mono fun y hy => Nat.lt_of_lt_of_le hy hbel.size)) (fun y hy => Nat.lt_of_lt_of_le hy (Nat.le_trans hbel.size hS.size))) ((HH.out.1.below hbel).below hS) ((HH.out.2.1.below hbel).below hS).tab (by rw [← HF.out.1]; exact one_fits (by have := HF.out.2.1.2; omega)))
    have HB := hide (hbel.trans (hS.mono hbel.size))
    clear hS hbel hbt HSt
    go_wp2_with fail
    refine HX.out.mono ?_
    rintro e w2 ⟨tw, rfl, himg, hfit, hb⟩
    have hbit := bit_and_one tw (hfit.lt hn) j
    have H2 := hide (And.intro himg (HB.out.trans (hb.mono HB.out.size)))
    clear himg hfit hb
    cases htb : tw.testBit j
    all_goals
      rw [htb] at hbit
      have HT := hide htb
      clear htb
      go_wp2_with fail
      refine wpAnyT_last (i := 7) hcl rfl (by kernel_rfl) (by kernel_rfl) (fun hcl => ?_)
      simp only [List.getElem_toArray, List.getElem_cons_zero, List.getElem_cons_succ, Act.put, List.setIfInBounds_toArray, List.set_cons_zero, List.set_cons_succ]
      go_wp2_with fail
      refine wpAnyT_last (i := 8) hcl rfl (by kernel_rfl) (by kernel_rfl) (fun hcl => ?_)
      simp only [List.getElem_toArray, List.getElem_cons_zero, List.getElem_cons_succ, Act.put, List.setIfInBounds_toArray, List.set_cons_zero, List.set_cons_succ]
      go_wp2_with fail
      refine wpAnyT_last (i := 9) hcl rfl (by kernel_rfl) (by kernel_rfl) (fun hcl => ?_)
      simp only [List.getElem_toArray, List.getElem_cons_zero, List.getElem_cons_succ, Act.put, List.setIfInBounds_toArray, List.set_cons_zero, List.set_cons_succ]
      go_wp2_with fail
      refine wpAnyT_last (i := 10) hcl rfl (by kernel_rfl) (by kernel_rfl) (fun hcl => ?_)
      simp only [List.getElem_toArray, List.getElem_cons_zero, List.getElem_cons_succ, Act.put, List.setIfInBounds_toArray, List.set_cons_zero, List.set_cons_succ]
      go_wp2_with fail
      refine wpAnyT_last (i := 11) hcl rfl (by kernel_rfl) (by kernel_rfl) (fun hcl => ?_)
      simp only [List.getElem_toArray, List.getElem_cons_zero, List.getElem_cons_succ, Act.put, List.setIfInBounds_toArray, List.set_cons_zero, List.set_cons_succ]
      go_wp2_with fail
      refine wpAnyT_done (by kernel_rfl) ?_ _
      go_wp2_with fail
      refine HD.out _ _ ⟨_, rfl, fun _ => ?_, fun h => absurd rfl h, H2.out.2⟩
      have h1 := H2.out.1
      rw [← HF.out.1] at h1
      have h2 := one_img h1 j
      rw [HT.out] at h2
      exact h2
end Go.Proofs.YtkghlebfmggidaaDoor
