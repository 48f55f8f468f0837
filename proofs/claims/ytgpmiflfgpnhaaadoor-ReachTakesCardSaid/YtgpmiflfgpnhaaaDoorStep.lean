/- reach.step and what it calls: to which places a tree leads from some places. -/
import Derived.Test.YtgpmiflfgpnhaaaDoorTz
import Derived.Test.YtgpmiflfgpnhaaaDoorHas
import Derived.Test.YtgpmiflfgpnhaaaDoorScene
import Derived.Test.YtgpmiflfgpnhaaaDoorForm
import Derived.Deep.DeepCutAuto
set_option linter.unusedSimpArgs false
set_option linter.unusedVariables false
namespace Go.Proofs.YtgpmiflfgpnhaaaDoor
open Go.RowKit

/-- The call returned the set of places to which R leads from f. -/
def Stepped (n : Nat) (R : Nat → Nat → Prop) (f : Nat) (w : World) (e : Ending) (w' : World) : Prop :=
  ∃ tw : Nat, e = .returned (.int .u64 tw) ∧ Img R f tw ∧ Fits n tw ∧ Below w.heap.size w w'

theorem wrap_two {k : Nat} (hk : k < 64) : IntKind.u64.wrap (2 ^ k) = ((2 ^ k : Nat) : Int) := by
  have h2 := two_pow_lt hk
  rw [show ((2 : Int) ^ k) = ((2 ^ k : Nat) : Int) by simp]
  generalize 2 ^ k = p at *
  rw [IntWalk.u64_in _ (by omega)]

/-- What holds at the head of a round over the places of a word. -/
structure WordInv (R : Nat → Nat → Prop) (n f : Nat) (w wr : World) (tw ww : Nat) : Prop where
  gone : Gone R f ww tw
  fits : Fits n tw
  low : Fits n ww
  below : Below w.heap.size w wr

theorem WordInv.next {R : Nat → Nat → Prop} {n f tw ww w2 : Nat} {w wr wr' : World} (h : WordInv R n f w wr tw ww) (h0 : ww ≠ 0) (hn : n ≤ 63) (h2 : ww &&& (ww - 1) = w2) (hb : Below wr.heap.size wr wr') (hR : ∀ j, ¬ R (Lib.ctz 64 ww) j) : WordInv R n f w wr' tw w2 := by
  subst h2
  exact ⟨h.gone.skip h0 (h.low.lt hn) hR, h.fits, fun i hi => h.low i (by rw [clear_low h0 (h.low.lt hn)] at hi; simp only [Bool.and_eq_true] at hi; exact hi.1), h.below.trans (hb.mono h.below.size)⟩
theorem WordInv.more {R : Nat → Nat → Prop} {n f tw ww w2 k tw2 : Nat} {w wr wr' : World} (h : WordInv R n f w wr tw ww) (h0 : ww ≠ 0) (hn : n ≤ 63) (h2 : ww &&& (ww - 1) = w2) (hb : Below wr.heap.size wr wr') (hR : ∀ j, R (Lib.ctz 64 ww) j ↔ j = k) (hk : k ≤ n) (h3 : tw ||| 2 ^ k = tw2) :
    WordInv R n f w wr' tw2 w2 := by
  subst h2; subst h3
  refine ⟨h.gone.take h0 (h.low.lt hn) hR, fun i hi => ?_, fun i hi => h.low i (by rw [clear_low h0 (h.low.lt hn)] at hi; simp only [Bool.and_eq_true] at hi; exact hi.1), h.below.trans (hb.mono h.below.size)⟩
  rw [set_bit, Bool.or_eq_true, decide_eq_true_eq] at hi
  rcases hi with hi | hi
  · exact h.fits i hi
  · omega

set_option maxRecDepth 100000 in
set_option maxHeartbeats 2000000 in
theorem rbytes_any {w : World} {b m : Nat} {x : Sc} (h : Scn w b m x) (hT : Tab w) (hn : x.len ≤ 63) (s0 s1 s2 s3 : Int) (h0 : IsU64 s0) (h1 : IsU64 s1) (h2 : IsU64 s2) (h3 : IsU64 s3) (f : Nat) (hf : Fits x.len f) :
    Calls Tryd.prog 86 #[.agg #[.pointer (some ⟨b, 0, none⟩)], .agg #[.int .u64 s0, .int .u64 s1, .int .u64 s2, .int .u64 s3], .int .u64 f] w
      (Stepped x.len (fun i j => j = i + 1 ∧ i < x.len ∧ Hd.has ⟨0, s0, s1, s2, s3, 0, 0, 0, false⟩ (x.text.data.toList.getD i 0).toNat = true) f w) := by
  generalize hR : (fun i j => j = i + 1 ∧ i < x.len ∧ Hd.has ⟨0, s0, s1, s2, s3, 0, 0, 0, false⟩ (x.text.data.toList.getD i 0).toNat = true) = R
  have HR := hide (fun i j => (iff_of_eq (congrFun (congrFun hR i) j)).symm)
  clear hR
  have HA := hide (And.intro h (And.intro hT hf))
  have HH := hide (fun bt hbt y => has_any s0 s1 s2 s3 bt hbt y h0 h1 h2 h3)
  clear h hT hf h0 h1 h2 h3
  go_enter Tryd.func86, Tryd.ntmps86
  go_wp2_with fail
  go_loopw [7, 8] (fun tv wv wr => ∃ tw ww : Nat, tv = .int .u64 tw ∧ wv = .int .u64 ww ∧ WordInv R x.len f w wr tw ww ∧ Blk wr w.heap.size 104 #[.pointer (some ⟨b, 0, none⟩)] ∧ Blk wr (w.heap.size + 1) 49 #[.int .u64 s0, .int .u64 s1, .int .u64 s2, .int .u64 s3]) (fun _ wv _ => (intOf wv).toNat)
  case atStart =>
    refine ⟨0, f, rfl, rfl, ⟨Gone.start R f, Fits.zero _, HA.out.2.2, ((Below.refl _ _).alloc (Nat.le_refl _) _).alloc (by simp) _⟩, (Blk.new w _ _).alloc _, ?_⟩
    have := Blk.new (w.alloc (.cells #[.pointer (some ⟨b, 0, none⟩)] 104)) 49 #[.int .u64 s0, .int .u64 s1, .int .u64 s2, .int .u64 s3]
    rwa [World.size_alloc] at this
  case round =>
    obtain ⟨tw, ww, rfl, rfl, hinv, hbj, hbs⟩ := hrel
    have cj := hbj.cell
    have cs := hbs.cell
    have HJ := hide (And.intro hbj hbs)
    clear hbj hbs
    by_cases hw : ww = 0
    · subst hw
      go_wp2_with fail
      go_ret
      exact ⟨tw, rfl, (hinv.gone.done).congr fun i j => Iff.rfl, hinv.fits, hinv.below⟩
    · have hlt := hinv.low.lt hn
      obtain ⟨l1, l2, l3⟩ := low_bit hw hlt
      have hkn := hinv.low _ l1
      have g1 : ((ww : Int) != 0) = true := by simp [hw]
      have HTz := hide (fun y hy => tz_any ww hw hlt y hy)
      obtain ⟨k, hk⟩ : ∃ k, k = Lib.ctz 64 ww := ⟨_, rfl⟩
      obtain ⟨w2, hw2⟩ : ∃ v, ww &&& (ww - 1) = v := ⟨_, rfl⟩
      obtain ⟨p, hp⟩ : ∃ p, 2 ^ (k + 1) = p := ⟨_, rfl⟩
      obtain ⟨tw2, htw2⟩ : ∃ v, tw ||| p = v := ⟨_, rfl⟩
      have hclr := word_clear hw hlt
      rw [hw2] at hclr
      rw [← hk] at HTz hkn
      have hTab := hide (HA.out.2.1.below (w' := wr) hinv.below)
      have hScn := hide (HA.out.1.below (w' := wr) hinv.below)
      have HI := hide hinv
      have HK := hide (And.intro hk (And.intro hw2 (And.intro hp htw2)))
      clear l1 l2 l3
      by_cases hkl : k < x.len
      · have hshl := wrap_two (k := k + 1) (by omega)
        have hpb : p < 18446744073709551616 := by rw [← hp]; exact two_pow_lt (by omega)
        have htb := hinv.fits.lt hn
        have hor := word_or htb hpb
        rw [htw2] at hor
        rw [hp] at hshl
        clear hp htw2 hw2 hk hinv htb hpb
        generalize hbt : (x.text.data.toList.getD k 0).toNat = bt
        have hb256 : bt < 256 := by rw [← hbt]; exact UInt8.toNat_lt _
        have HBy := hide (byte_in hScn.out k hkl)
        rw [hbt] at HBy
        have HHb := hide (HH.out bt hb256)
        have HBT := hide hbt
        clear hbt
        cases hhas : Hd.has ⟨0, s0, s1, s2, s3, 0, 0, 0, false⟩ bt
        · rw [hhas] at HHb
          have HHS := hide hhas
          clear hhas
          go_wp2_with fail
          refine (HTz.out wr hTab.out).mono ?_
          rintro e w1 ⟨rfl, rfl⟩
          go_wp2_with fail
          refine HBy.out.mono ?_
          rintro e w1 ⟨rfl, rfl⟩
          go_wp2_with fail
          refine (HHb.out _).mono ?_
          rintro e w1 ⟨rfl, hb⟩
          have HB := hide hb
          clear hb
          go_wp2_with fail
          go_roundw
          case rel =>
            refine ⟨tw, w2, rfl, rfl, HI.out.next hw hn HK.out.2.1 HB.out (fun j => ?_), HJ.out.1.below HB.out HJ.out.1.lt, HJ.out.2.below HB.out HJ.out.2.lt⟩
            rw [HR.out, ← HK.out.1, HBT.out, HHS.out]
            simp
          case measure =>
            have hx := clear_lt hw hlt
            rw [HK.out.2.1] at hx
            simp [intOf]
            exact hx
        · rw [hhas] at HHb
          have HHS := hide hhas
          clear hhas
          go_wp2_with fail
          refine (HTz.out wr hTab.out).mono ?_
          rintro e w1 ⟨rfl, rfl⟩
          go_wp2_with fail
          refine HBy.out.mono ?_
          rintro e w1 ⟨rfl, rfl⟩
          go_wp2_with fail
          refine (HHb.out _).mono ?_
          rintro e w1 ⟨rfl, hb⟩
          have HB := hide hb
          clear hb
          go_wp2_with fail
          go_roundw
          case rel =>
            refine ⟨tw2, w2, rfl, rfl, HI.out.more (k := k + 1) hw hn HK.out.2.1 HB.out (fun j => ?_) (by omega) (by rw [HK.out.2.2.1]; exact HK.out.2.2.2), HJ.out.1.below HB.out HJ.out.1.lt, HJ.out.2.below HB.out HJ.out.2.lt⟩
            rw [HR.out, ← HK.out.1, HBT.out, HHS.out]
            simp [hkl]
          case measure =>
            have hx := clear_lt hw hlt
            rw [HK.out.2.1] at hx
            simp [intOf]
            exact hx
      · have HBy := hide (byte_out hScn.out k (.inr (by omega)) ⟨by omega, by omega⟩)
        clear hinv hp htw2 hw2 hk
        go_wp2_with fail
        refine (HTz.out wr hTab.out).mono ?_
        rintro e w1 ⟨rfl, rfl⟩
        go_wp2_with fail
        refine HBy.out.mono ?_
        rintro e w1 ⟨rfl, rfl⟩
        go_wp2_with fail
        go_roundw
        case rel =>
          refine ⟨tw, w2, rfl, rfl, HI.out.next hw hn HK.out.2.1 (Below.refl _ _) (fun j => ?_), HJ.out.1, HJ.out.2⟩
          rw [HR.out, ← HK.out.1]
          omega
        case measure =>
          have hx := clear_lt hw hlt
          rw [HK.out.2.1] at hx
          simp [intOf]
          exact hx

/-- The places with a mark's bit. -/
theorem marked_any {w : World} {b m : Nat} {x : Sc} (h : Scn w b m x) (hT : Tab w) (hn : x.len ≤ 63) (q : Nat) (hq : q < 2) (f : Nat) (hf : Fits x.len f) :
    Calls Tryd.prog 87 #[.agg #[.pointer (some ⟨b, 0, none⟩)], .int .u64 f, .int .i64 ((2 ^ q : Nat) : Int)] w
      (Stepped x.len (fun i j => i = j ∧ (x.mark i).testBit q = true) f w) := by
  generalize hR : (fun i j => i = j ∧ (x.mark i).testBit q = true) = R
  have HR := hide (fun i j => (iff_of_eq (congrFun (congrFun hR i) j)).symm)
  clear hR
  have HA := hide (And.intro h (And.intro hT hf))
  clear h hT hf
  obtain ⟨g, hg⟩ : ∃ g, 2 ^ q = g := ⟨_, rfl⟩
  rw [hg]
  have HG := hide hg
  clear hg
  go_enter Tryd.func87, Tryd.ntmps87
  go_wp2_with fail
  go_loopw [7, 8] (fun tv wv wr => ∃ tw ww : Nat, tv = .int .u64 tw ∧ wv = .int .u64 ww ∧ WordInv R x.len f w wr tw ww ∧ Blk wr w.heap.size 104 #[.pointer (some ⟨b, 0, none⟩)]) (fun _ wv _ => (intOf wv).toNat)
  case atStart => exact ⟨0, f, rfl, rfl, ⟨Gone.start R f, Fits.zero _, HA.out.2.2, (Below.refl _ _).alloc (Nat.le_refl _) _⟩, Blk.new w _ _⟩
  case round =>
    obtain ⟨tw, ww, rfl, rfl, hinv, hbj⟩ := hrel
    have cj := hbj.cell
    have HJ := hide hbj
    clear hbj
    by_cases hw : ww = 0
    · subst hw
      go_wp2_with fail
      go_ret
      exact ⟨tw, rfl, (hinv.gone.done).congr fun i j => Iff.rfl, hinv.fits, hinv.below⟩
    · have hlt := hinv.low.lt hn
      obtain ⟨l1, l2, l3⟩ := low_bit hw hlt
      have hkn := hinv.low _ l1
      have g1 : ((ww : Int) != 0) = true := by simp [hw]
      have HTz := hide (fun y hy => tz_any ww hw hlt y hy)
      obtain ⟨k, hk⟩ : ∃ k, k = Lib.ctz 64 ww := ⟨_, rfl⟩
      obtain ⟨w2, hw2⟩ : ∃ v, ww &&& (ww - 1) = v := ⟨_, rfl⟩
      obtain ⟨p, hp⟩ : ∃ p, 2 ^ k = p := ⟨_, rfl⟩
      obtain ⟨tw2, htw2⟩ : ∃ v, tw ||| p = v := ⟨_, rfl⟩
      have hclr := word_clear hw hlt
      rw [hw2] at hclr
      rw [← hk] at HTz hkn
      have hTab := hide (HA.out.2.1.below (w' := wr) hinv.below)
      have hScn := hide (HA.out.1.below (w' := wr) hinv.below)
      have HI := hide hinv
      have HK := hide (And.intro hk (And.intro hw2 (And.intro hp htw2)))
      clear l1 l2 l3
      have hshl := wrap_two (k := k) (by omega)
      have hpb : p < 18446744073709551616 := by rw [← hp]; exact two_pow_lt (by omega)
      have htb := hinv.fits.lt hn
      have hor := word_or htb hpb
      rw [htw2] at hor
      rw [hp] at hshl
      clear hp htw2 hw2 hk hinv htb hpb
      have HMk := hide (marks_in hScn.out k hkn)
      have hm4 := hScn.out.small k
      generalize hmk : x.mark k = mk at *
      have hand : (bits .and .i64 (mk : Int) (g : Int) != 0) = mk.testBit q := by
        rw [← HG.out]
        have e1 : q = 0 ∨ q = 1 := by omega
        have e2 : mk = 0 ∨ mk = 1 ∨ mk = 2 ∨ mk = 3 := by omega
        rcases e1 with e | e <;> rcases e2 with e' | e' | e' | e' <;> subst e <;> subst e' <;> decide
      have HM := hide hmk
      clear hmk
      cases hbit : mk.testBit q
      · rw [hbit] at hand
        have HHS := hide hbit
        clear hbit
        go_wp2_with fail
        refine (HTz.out wr hTab.out).mono ?_
        rintro e w1 ⟨rfl, rfl⟩
        go_wp2_with fail
        refine HMk.out.mono ?_
        rintro e w1 ⟨rfl, rfl⟩
        go_wp2_with fail
        go_roundw
        case rel =>
          refine ⟨tw, w2, rfl, rfl, HI.out.next hw hn HK.out.2.1 (Below.refl _ _) (fun j => ?_), HJ.out⟩
          rw [HR.out, ← HK.out.1, HM.out, HHS.out]
          simp
        case measure =>
          have hx := clear_lt hw hlt
          rw [HK.out.2.1] at hx
          simp [intOf]
          exact hx
      · rw [hbit] at hand
        have HHS := hide hbit
        clear hbit
        go_wp2_with fail
        refine (HTz.out wr hTab.out).mono ?_
        rintro e w1 ⟨rfl, rfl⟩
        go_wp2_with fail
        refine HMk.out.mono ?_
        rintro e w1 ⟨rfl, rfl⟩
        go_wp2_with fail
        go_roundw
        case rel =>
          refine ⟨tw2, w2, rfl, rfl, HI.out.more (k := k) hw hn HK.out.2.1 (Below.refl _ _) (fun j => ?_) hkn (by rw [HK.out.2.2.1]; exact HK.out.2.2.2), HJ.out⟩
          rw [HR.out, ← HK.out.1, HM.out, HHS.out]
          simp only [and_true]
          exact eq_comm
        case measure =>
          have hx := clear_lt hw hlt
          rw [HK.out.2.1] at hx
          simp [intOf]
          exact hx
end Go.Proofs.YtgpmiflfgpnhaaaDoor
