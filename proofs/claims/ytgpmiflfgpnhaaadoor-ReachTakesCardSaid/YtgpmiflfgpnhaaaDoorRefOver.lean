/- trawlref11.leaf, rounds, Over: to which places a tree leads, by the document's definition. (Printed by gen_over.py.) -/
import Derived.Test.YtgpmiflfgpnhaaaDoorPl
import Derived.Test.YtgpmiflfgpnhaaaDoorStepAll
import Derived.Test.YtgpmiflfgpnhaaaDoorAlgLaw
set_option linter.unusedSimpArgs false
set_option linter.unusedVariables false
namespace Go.Proofs.YtgpmiflfgpnhaaaDoor
open Go.RowKit

/-- The scene x is that of this subject and these flags. -/
structure RefSc (x : Sc) (cf ef : Int) : Prop where
  marks : ∀ i, i ≤ x.text.size → x.mark i = markOf x.text (bits .and .i64 ef 1 == 0) (bits .and .i64 ef 2 == 0) (bits .and .i64 cf 4 != 0) x.text.size i
  small : x.text.size ≤ 140737488355328

/-- What leaf answers. -/
def LeafOf (n : Nat) (R : Nat → Nat → Prop) (i : Nat) (r : Int) : Prop := (r = -1 ∧ ∀ j, ¬ R i j) ∨ ∃ j : Nat, r = j ∧ j ≤ n ∧ ∀ k, R i k ↔ k = j

set_option maxRecDepth 100000 in
set_option maxHeartbeats 2000000 in
theorem leaf_any {x : Sc} {cf ef : Int} (hr : RefSc x cf ef) (kind s0 s1 s2 s3 num mn mx : Int) (bare : Bool) (l : List T) (A : Option Addr) (c i : Nat) (hk : kind = 1 ∨ kind = 2 ∨ kind = 3 ∨ kind = 4) (u0 : IsU64 s0) (u1 : IsU64 s1) (u2 : IsU64 s2) (u3 : IsU64 s3) (hi : i ≤ x.text.size) (w : World) :
    Calls Tryd.prog 94 #[.agg #[.int .i64 kind, .int .u64 s0, .int .u64 s1, .int .u64 s2, .int .u64 s3, .slice A l.length c, .int .i64 num, .int .i64 mn, .int .i64 mx, .bool bare], .agg #[.string x.text, .int .i64 cf, .int .i64 ef, .bool false], .int .i64 i] w fun e w' => ∃ r : Int, e = .returned (.int .i64 r) ∧ LeafOf x.text.size ((T.mk ⟨kind, s0, s1, s2, s3, num, mn, mx, bare⟩ l).R x) i r ∧ Below w.heap.size w w' := by
  have HRE := hide (fun j => T.R_eq x (T.mk ⟨kind, s0, s1, s2, s3, num, mn, mx, bare⟩ l) i j)
  generalize (T.mk ⟨kind, s0, s1, s2, s3, num, mn, mx, bare⟩ l).R x = R at *
  have hmk := hr.marks i hi
  have hbel := ((Below.refl w.heap.size w).alloc (Nat.le_refl _) (.cells #[.int .i64 kind, .int .u64 s0, .int .u64 s1, .int .u64 s2, .int .u64 s3, .slice A l.length c, .int .i64 num, .int .i64 mn, .int .i64 mx, .bool bare] 52)).alloc (by simp) (.cells #[.string x.text, .int .i64 cf, .int .i64 ef, .bool false] 34)
  have hbs := Blk.new (w.alloc (.cells #[.int .i64 kind, .int .u64 s0, .int .u64 s1, .int .u64 s2, .int .u64 s3, .slice A l.length c, .int .i64 num, .int .i64 mn, .int .i64 mx, .bool bare] 52)) 34 #[.string x.text, .int .i64 cf, .int .i64 ef, .bool false]
  have hbt := (Blk.new w 52 #[.int .i64 kind, .int .u64 s0, .int .u64 s1, .int .u64 s2, .int .u64 s3, .slice A l.length c, .int .i64 num, .int .i64 mn, .int .i64 mx, .bool bare]).alloc (.cells #[.string x.text, .int .i64 cf, .int .i64 ef, .bool false] 34)
  rw [World.size_alloc] at hbs
  have hsm := hr.small
  clear hr
  rcases hk with e | e | e | e <;> subst e
  · clear hmk
    have HB := hide hbel
    clear hbel hbs hbt
    go_enter Tryd.func94, Tryd.ntmps94
    go_wp2_with fail
    go_ret
    exact ⟨i, rfl, .inr ⟨i, rfl, hi, fun k => (HRE.out k).trans ⟨fun h => (show i = k from h).symm, fun h => (show i = k from h.symm)⟩⟩, HB.out⟩
  · clear hmk
    have HBY := hide (fun y => Byte_ref x.text cf ef i hi hsm y)
    have HHS := hide (fun b hb y => refHas_any s0 s1 s2 s3 b hb y u0 u1 u2 u3)
    have HB := hide (And.intro hbel (And.intro hbs hbt))
    clear hbel hbs hbt
    go_enter Tryd.func94, Tryd.ntmps94
    go_wp2_with fail
    refine (HBY.out _).mono ?_
    rintro e w1 ⟨rfl, hb⟩
    have hbt1 := HB.out.2.2.next hb
    have ct := hbt1.cell
    have zt := hbt1.lt
    have HF := hide (HB.out.1.trans (hb.mono HB.out.1.size))
    clear hb hbt1
    by_cases hlt : i < x.text.size
    case neg =>
      rw [if_neg hlt]
      go_wp2_with fail
      go_ret
      exact ⟨-1, rfl, .inl ⟨rfl, fun j h => by
        have h2 := (HRE.out j).1 h
        have h3 : j = i + 1 ∧ i < x.len ∧ _ := h2
        exact hlt h3.2.1⟩, HF.out⟩
    rw [if_pos hlt]
    have h256 := byteAt_lt x.text i
    have hbd : (x.text.data.toList.getD i 0).toNat = byteAt x.text i := rfl
    have HRB := hide (fun j => (HRE.out j).trans (show _ ↔ (j = i + 1 ∧ i < x.len ∧ Hd.has ⟨0, s0, s1, s2, s3, 0, 0, 0, false⟩ (byteAt x.text i) = true) from Iff.rfl))
    generalize byteAt x.text i = bt at *
    have hge : decide ((0 : Int) ≤ (bt : Int)) = true := decide_eq_true (by omega)
    clear hbd
    go_wp2_with fail
    refine (HHS.out bt h256 _).mono ?_
    rintro e w2 ⟨rfl, hb⟩
    replace HF := hide (HF.out.trans (hb.mono HF.out.size))
    clear hb ct zt
    cases hh : Hd.has ⟨0, s0, s1, s2, s3, 0, 0, 0, false⟩ bt with
    | true =>
      have HH := hide hh
      clear hh
      go_wp2_with fail
      go_ret
      exact ⟨(i : Int) + 1, rfl, .inr ⟨i + 1, by simp, hlt, fun k => (HRB.out k).trans ⟨fun h => h.1, fun h => ⟨h, hlt, HH.out⟩⟩⟩, HF.out⟩
    | false =>
      have HH := hide hh
      clear hh
      go_wp2_with fail
      go_ret
      exact ⟨-1, rfl, .inl ⟨rfl, fun j h => by have := ((HRB.out j).1 h).2.2; rw [HH.out] at this; cases this⟩, HF.out⟩
  · have hbit : (x.mark i).testBit 0 = beginB x.text (bits .and .i64 ef 1 == 0) (!(bits .and .i64 cf 4 == 0)) i := by rw [hmk]; exact markOf_begin _ _ _ _ i hi
    have HBY := hide (fun y => Begin_ref x.text cf ef i hi hsm y)
    have HRB := hide (fun j => (HRE.out j).trans (show _ ↔ (i = j ∧ (x.mark i).testBit 0 = true) from Iff.rfl))
    rw [hbit] at HRB
    clear hmk hbit
    generalize beginB x.text (bits .and .i64 ef 1 == 0) (!(bits .and .i64 cf 4 == 0)) i = r at *
    have HB := hide (And.intro hbel (And.intro hbs hbt))
    clear hbel hbs hbt
    go_enter Tryd.func94, Tryd.ntmps94
    go_wp2_with fail
    refine (HBY.out _).mono ?_
    rintro e w1 ⟨rfl, hb⟩
    have HF := hide (HB.out.1.trans (hb.mono HB.out.1.size))
    clear hb
    cases r with
    | true =>
      go_wp2_with fail
      go_ret
      exact ⟨i, rfl, .inr ⟨i, rfl, hi, fun k => (HRB.out k).trans ⟨fun h => h.1.symm, fun h => ⟨h.symm, by first | rfl | trivial⟩⟩⟩, HF.out⟩
    | false =>
      go_wp2_with fail
      go_ret
      exact ⟨-1, rfl, .inl ⟨rfl, fun j h => by have := ((HRB.out j).1 h).2; cases this⟩, HF.out⟩
  · have hbit : (x.mark i).testBit 1 = endB x.text (bits .and .i64 ef 2 == 0) (!(bits .and .i64 cf 4 == 0)) i := by rw [hmk]; exact markOf_end _ _ _ _ i hi
    have HBY := hide (fun y => End_ref x.text cf ef i hi hsm y)
    have HRB := hide (fun j => (HRE.out j).trans (show _ ↔ (i = j ∧ (x.mark i).testBit 1 = true) from Iff.rfl))
    rw [hbit] at HRB
    clear hmk hbit
    generalize endB x.text (bits .and .i64 ef 2 == 0) (!(bits .and .i64 cf 4 == 0)) i = r at *
    have HB := hide (And.intro hbel (And.intro hbs hbt))
    clear hbel hbs hbt
    go_enter Tryd.func94, Tryd.ntmps94
    go_wp2_with fail
    refine (HBY.out _).mono ?_
    rintro e w1 ⟨rfl, hb⟩
    have HF := hide (HB.out.1.trans (hb.mono HB.out.1.size))
    clear hb
    cases r with
    | true =>
      go_wp2_with fail
      go_ret
      exact ⟨i, rfl, .inr ⟨i, rfl, hi, fun k => (HRB.out k).trans ⟨fun h => h.1.symm, fun h => ⟨h.symm, by first | rfl | trivial⟩⟩⟩, HF.out⟩
    | false =>
      go_wp2_with fail
      go_ret
      exact ⟨-1, rfl, .inl ⟨rfl, fun j h => by have := ((HRB.out j).1 h).2; cases this⟩, HF.out⟩
/-- What Over answers. -/
def Overed (n : Nat) (R : Nat → Nat → Prop) (f : Nat) (w : World) (e : Ending) (w' : World) : Prop :=
  ∃ (v : Value) (tw : Nat), e = .returned v ∧ PlV w' v n tw ∧ Img R f tw ∧ Fits n tw ∧ Below w.heap.size w w'
def OverC (x : Sc) (cf ef : Int) (t : T) : Prop :=
  ∀ (A : Option Addr) (c f : Nat) (v : Value) (w : World), T.In w (· < w.heap.size) t A → PlV w v x.text.size f → Fits x.text.size f →
    Calls Tryd.prog 65 #[.agg (t.hd.cells (.slice A t.subs.length c)).toArray, .agg #[.string x.text, .int .i64 cf, .int .i64 ef, .bool false], v] w (Overed x.text.size (t.R x) f w)

/-- What holds at the head of the second loop's round k. -/
structure RInv (R : Nat → Nat → Prop) (n start mn : Nat) (mx : Int) (w wr : World) (k all last : Nat) : Prop where
  rounds : Rounds R start k all last
  fits : Fits n all
  low : Fits n last
  below : Below w.heap.size w wr
  max : mx = -1 ∨ ((mn : Int) + k ≤ mx)
  few : k ≤ count all

theorem without_bit (a b j : Nat) : (a ^^^ (a &&& b)).testBit j = (a.testBit j && !b.testBit j) := by
  rw [Nat.testBit_xor, Nat.testBit_and]
  cases a.testBit j <;> cases b.testBit j <;> rfl
theorem RInv.over {R : Nat → Nat → Prop} {n start mn k all last tw f : Nat} {mx : Int} {w wr : World} (h : RInv R n start mn mx w wr k all last) (ht : Img R last tw) (h0 : tw ^^^ (tw &&& all) = 0) (hf : Img (Iter R mn) f start) (hm : ¬ ((mn : Int) + k = mx)) :
    Img (fun i j => ∃ q : Nat, (mn : Int) ≤ q ∧ (mx = -1 ∨ (q : Int) ≤ mx) ∧ Iter R q i j) f all := by
  have h1 := h.rounds.next ht (new := 0) (fun j => by rw [← without_bit, h0])
  rw [Nat.or_zero] at h1
  exact rep_done hf h1 (by have := h.max; omega) (.inr rfl)
theorem RInv.next {R : Nat → Nat → Prop} {n start mn k all last tw : Nat} {mx : Int} {w wr wy : World} (h : RInv R n start mn mx w wr k all last) (hn : n ≤ 63) (hm : ¬ ((mn : Int) + k = mx)) (ht : Img R last tw) (hf : Fits n tw)
    (hb : Below wr.heap.size wr wy) (h0 : tw ^^^ (tw &&& all) ≠ 0) : RInv R n start mn mx w wy (k + 1) (all ||| (tw ^^^ (tw &&& all))) (tw ^^^ (tw &&& all)) ∧ 64 - count (all ||| (tw ^^^ (tw &&& all))) < 64 - count all := by
  have hnew : ∀ j, (tw ^^^ (tw &&& all)).testBit j = (tw.testBit j && !all.testBit j) := without_bit tw all
  generalize tw ^^^ (tw &&& all) = new at *
  have hfn : Fits n new := fun j hj => by
    rw [hnew] at hj
    simp only [Bool.and_eq_true] at hj
    exact hf j hj.1
  have hdis : ∀ j, new.testBit j = true → all.testBit j = false := fun j hj => by
    rw [hnew] at hj
    simp only [Bool.and_eq_true, Bool.not_eq_true'] at hj
    exact hj.2
  have hc : count all < count (all ||| new) := count_or (hfn.lt hn) hdis h0
  have hcl := count_le (all ||| new)
  exact ⟨⟨h.rounds.next ht hnew, h.fits.or hfn, hfn, h.below.trans (hb.mono h.below.size), by have := h.max; omega, by have := h.few; omega⟩, by omega⟩
theorem Fits.without {n a b : Nat} (h : Fits n a) : Fits n (a ^^^ (a &&& b)) := fun j hj => by
  rw [without_bit] at hj
  simp only [Bool.and_eq_true] at hj
  exact h j hj.1

set_option maxRecDepth 100000 in
set_option maxHeartbeats 4000000 in
theorem refRounds_any {x : Sc} {cf ef : Int} (hr : RefSc x cf ef) (hn : x.text.size ≤ 63) (kind s0 s1 s2 s3 num mx : Int) (bare : Bool) (mn : Nat) (s : T) (A : Option Addr) (c f : Nat) (v : Value) (w : World) (hS : OverC x cf ef s) (hmn2 : mn ≤ 255) (hmx : mx = -1 ∨ ((mn : Int) ≤ mx ∧ mx ≤ 255))
    (hin : T.In w (· < w.heap.size) (.mk ⟨kind, s0, s1, s2, s3, num, mn, mx, bare⟩ [s]) A) (hv : PlV w v x.text.size f) (hf : Fits x.text.size f) :
    Calls Tryd.prog 93 #[.agg #[.int .i64 kind, .int .u64 s0, .int .u64 s1, .int .u64 s2, .int .u64 s3, .slice A 1 c, .int .i64 num, .int .i64 (mn : Int), .int .i64 mx, .bool bare], .agg #[.string x.text, .int .i64 cf, .int .i64 ef, .bool false], v] w (Overed x.text.size (fun i j => ∃ q : Nat, (mn : Int) ≤ q ∧ (mx = -1 ∨ (q : Int) ≤ mx) ∧ Iter (s.R x) q i j) f w) := by
  obtain ⟨b', o, B, c', rfl, hbk, hcs, hsub⟩ := TL.In.at_ (i := 0) (T.In_iff.1 hin) rfl
  simp only [Nat.zero_mul, Nat.add_zero] at hcs
  have HN := hide hcs
  have HSU := hide hsub
  have HS := hide hS
  have HV := hide hv
  have HFI := hide hf
  have hbt := (Blk.new w 52 #[.int .i64 kind, .int .u64 s0, .int .u64 s1, .int .u64 s2, .int .u64 s3, .slice (some ⟨b', o, none⟩) 1 c, .int .i64 num, .int .i64 (mn : Int), .int .i64 mx, .bool bare]).alloc (.cells #[.string x.text, .int .i64 cf, .int .i64 ef, .bool false] 34)
  have hbs := Blk.new (w.alloc (.cells #[.int .i64 kind, .int .u64 s0, .int .u64 s1, .int .u64 s2, .int .u64 s3, .slice (some ⟨b', o, none⟩) 1 c, .int .i64 num, .int .i64 (mn : Int), .int .i64 mx, .bool bare] 52)) 34 #[.string x.text, .int .i64 cf, .int .i64 ef, .bool false]
  have hbel := ((Below.refl w.heap.size w).alloc (Nat.le_refl _) (.cells #[.int .i64 kind, .int .u64 s0, .int .u64 s1, .int .u64 s2, .int .u64 s3, .slice (some ⟨b', o, none⟩) 1 c, .int .i64 num, .int .i64 (mn : Int), .int .i64 mx, .bool bare] 52)).alloc (by simp) (.cells #[.string x.text, .int .i64 cf, .int .i64 ef, .bool false] 34)
  simp only [World.size_alloc] at hbs
  clear hS hv hf hcs hsub hin
  by_cases hz : mx = 0
  · subst hz
    have HB := hide hbel
    clear hbel hbs hbt
    go_enter Tryd.func93, Tryd.ntmps93
    go_wp2_with fail
    go_ret
    refine ⟨v, f, rfl, HV.out.next HB.out, (Img.id f).congr fun i j => ?_, HFI.out, HB.out⟩
    constructor
    · intro e; exact ⟨0, by omega, .inr (by omega), e⟩
    · rintro ⟨q, h1, h2, h3⟩
      obtain rfl : q = 0 := by omega
      exact h3
  have g0 : (mx == 0) = false := by simp [hz]
  have g0' : decide (mx = 0) = false := by simp [hz]
  go_enter Tryd.func93, Tryd.ntmps93
  go_wp2_with fail
  generalize ((w.alloc (.cells #[.int .i64 kind, .int .u64 s0, .int .u64 s1, .int .u64 s2, .int .u64 s3, .slice (some ⟨b', o, none⟩) 1 c, .int .i64 num, .int .i64 (mn : Int), .int .i64 mx, .bool bare] 52)).alloc (.cells #[.string x.text, .int .i64 cf, .int .i64 ef, .bool false] 34)) = W at *
  go_loopw [7, 8] (fun fv kv wr => ∃ (k cur : Nat), PlV wr fv x.text.size cur ∧ kv = .int .i64 k ∧ k ≤ mn ∧ RepInv (s.R x) x.text.size f w wr k cur ∧ Blk wr w.heap.size 52 #[.int .i64 kind, .int .u64 s0, .int .u64 s1, .int .u64 s2, .int .u64 s3, .slice (some ⟨b', o, none⟩) 1 c, .int .i64 num, .int .i64 (mn : Int), .int .i64 mx, .bool bare] ∧ Blk wr (w.heap.size + 1) 34 #[.string x.text, .int .i64 cf, .int .i64 ef, .bool false]) (fun _ kv _ => mn - (intOf kv).toNat)
  case atStart => exact ⟨0, f, HV.out.next hbel, rfl, Nat.zero_le _, ⟨Img.id f, HFI.out, hbel⟩, hbt, hbs⟩
  case round =>
    clear hbt hbs hbel
    obtain ⟨k, cur, ⟨gu, rfl, hu⟩, rfl, hk, hinv, hbt, hbs⟩ := hrel
    have ct := hbt.cell
    have cs := hbs.cell
    have HJ := hide (And.intro hbt hbs)
    have HI := hide hinv
    have HU := hide (show PlV wr (.slice (some ⟨gu, 0, none⟩) (x.text.size + 1) (x.text.size + 1)) x.text.size cur from ⟨gu, rfl, hu⟩)
    clear hbt hbs hinv hu
    by_cases hlt : k < mn
    · have g1 : decide ((k : Int) < (mn : Int)) = true := decide_eq_true (by omega)
      go_upto_region 7 with fail
      clear ct cs
      refine wp_region_mix (fun y => Below wr.heap.size wr y) [6] (by kernel_rfl) (fun hcl => ?_)
      have hS : Below wr.heap.size wr wr.drew := (Below.refl _ _).drew
      refine wpAnyT_free (i := 0) hcl rfl (by kernel_rfl) (v := ?_) (fun _ _ _ h => h) hS (Or.inl ⟨rfl, fun w' _ => ?_⟩) (fun hcl => ?_)
      rotate_left
      · go_simp
        with_reducible rfl
      simp only [List.getElem_toArray, List.getElem_cons_zero, List.getElem_cons_succ, Act.put, List.setIfInBounds_toArray, List.set_cons_zero, List.set_cons_succ]
      refine wpAnyT_take (i := 1) hcl rfl (by kernel_rfl) (v := ?_) (fun _ _ _ h => h) hS (Or.inl ⟨rfl, fun w' hS => ?_⟩) (fun hcl => ?_)
      rotate_left
      · skip
        have ct := (HJ.out.1.below hS HJ.out.1.lt).cell
        go_simp
        with_reducible rfl
      simp only [List.getElem_toArray, List.getElem_cons_zero, List.getElem_cons_succ, Act.put, List.setIfInBounds_toArray, List.set_cons_zero, List.set_cons_succ]
      refine wpAnyT_free (i := 2) hcl rfl (by kernel_rfl) (v := ?_) (fun _ _ _ h => h) hS (Or.inl ⟨rfl, fun w' _ => ?_⟩) (fun hcl => ?_)
      rotate_left
      · go_simp
        with_reducible rfl
      simp only [List.getElem_toArray, List.getElem_cons_zero, List.getElem_cons_succ, Act.put, List.setIfInBounds_toArray, List.set_cons_zero, List.set_cons_succ]
      refine wpAnyT_take (i := 3) hcl rfl (by kernel_rfl) (v := ?_) (fun _ _ _ h => h) hS (Or.inl ⟨rfl, fun w' hS => ?_⟩) (fun hcl => ?_)
      rotate_left
      · skip
        obtain ⟨n0, n1, n2, n3, n4, n5, n6, n7, n8, n9⟩ := (HN.out.same (same_of_below (HI.out.below.trans (hS.mono HI.out.below.size))) hbk).node
        go_simp
        with_reducible rfl
      simp only [List.getElem_toArray, List.getElem_cons_zero, List.getElem_cons_succ, Act.put, List.setIfInBounds_toArray, List.set_cons_zero, List.set_cons_succ]
      refine wpAnyT_take (i := 4) hcl rfl (by kernel_rfl) (v := ?_) (fun _ _ _ h => h) hS (Or.inl ⟨rfl, fun w' hS => ?_⟩) (fun hcl => ?_)
      rotate_left
      · skip
        have cs := (HJ.out.2.below hS HJ.out.2.lt).cell
        go_simp
        with_reducible rfl
      simp only [List.getElem_toArray, List.getElem_cons_zero, List.getElem_cons_succ, Act.put, List.setIfInBounds_toArray, List.set_cons_zero, List.set_cons_succ]
      refine wpAnyT_free (i := 5) hcl rfl (by kernel_rfl) (v := ?_) (fun _ _ _ h => h) hS (Or.inl ⟨rfl, fun w' _ => ?_⟩) (fun hcl => ?_)
      rotate_left
      · go_simp
        with_reducible rfl
      simp only [List.getElem_toArray, List.getElem_cons_zero, List.getElem_cons_succ, Act.put, List.setIfInBounds_toArray, List.set_cons_zero, List.set_cons_succ]
      refine wpAnyT_last (i := 6) hcl rfl (by kernel_rfl) (by kernel_rfl) (fun hcl => ?_)
      simp only [List.getElem_toArray, List.getElem_cons_zero, List.getElem_cons_succ, Act.put, List.setIfInBounds_toArray, List.set_cons_zero, List.set_cons_succ]
      have HX := hide (HS.out B c' cur (.slice (some ⟨gu, 0, none⟩) (x.text.size + 1) (x.text.size + 1)) _ (HSU.out.same (same_of_below (HI.out.below.trans (hS.mono HI.out.below.size))) (fun q hq => Nat.lt_of_lt_of_le hq (Nat.le_trans HI.out.below.size hS.size))) (HU.out.next hS) HI.out.fits)
      simp only [Hd.cells] at HX
      have HB := hide hS
      clear hS
      go_wp2_with fail
      refine HX.out.mono ?_
      rintro e w1 ⟨v1, tw, rfl, hpl, himg, hfit, hb⟩
      have HB2 := hide (And.intro hpl (And.intro himg (And.intro hfit (HB.out.trans (hb.mono HB.out.size)))))
      clear hpl himg hfit hb
      go_wp2_with fail
      refine wpAnyT_last (i := 7) hcl rfl (by kernel_rfl) (by kernel_rfl) (fun hcl => ?_)
      simp only [List.getElem_toArray, List.getElem_cons_zero, List.getElem_cons_succ, Act.put, List.setIfInBounds_toArray, List.set_cons_zero, List.set_cons_succ]
      go_wp2_with fail
      refine wpAnyT_done (by kernel_rfl) ?_ _
      go_wp2_with fail
      go_roundw
      case rel => exact ⟨k + 1, tw, HB2.out.1, by go_num, hlt, ⟨HI.out.img.comp HB2.out.2.1, HB2.out.2.2.1, HI.out.below.trans (HB2.out.2.2.2.mono HI.out.below.size)⟩, HJ.out.1.next HB2.out.2.2.2, HJ.out.2.next HB2.out.2.2.2⟩
      case measure => simp [intOf]; omega
    · have ek : mn = k := by omega
      subst ek
      have g1 : decide ((mn : Int) < (mn : Int)) = false := decide_eq_false (by omega)
      go_wp2_with fail
      clear ct cs
      go_loopw [7, 9, 10] (fun lv av nv wr => ∃ (k all last : Nat), PlV wr lv x.text.size last ∧ PlV wr av x.text.size all ∧ nv = .int .i64 ((mn : Int) + k) ∧ RInv (s.R x) x.text.size cur mn mx w wr k all last ∧ Blk wr w.heap.size 52 #[.int .i64 kind, .int .u64 s0, .int .u64 s1, .int .u64 s2, .int .u64 s3, .slice (some ⟨b', o, none⟩) 1 c, .int .i64 num, .int .i64 (mn : Int), .int .i64 mx, .bool bare] ∧ Blk wr (w.heap.size + 1) 34 #[.string x.text, .int .i64 cf, .int .i64 ef, .bool false])
        (fun _ _ nv _ => 66 - (intOf nv - (mn : Int)).toNat)
      case atStart => exact ⟨0, cur, cur, HU.out, HU.out, by simp, ⟨Rounds.start _ _, HI.out.fits, HI.out.fits, HI.out.below, by omega, by omega⟩, HJ.out.1, HJ.out.2⟩
      case round =>
        clear HJ
        have H1 := hide HI.out.img
        clear HI HU
        obtain ⟨k, all, last, ⟨gl, rfl, hu⟩, ⟨ga, rfl, ht⟩, rfl, hinv, hbt, hbs⟩ := hrel
        have ct := hbt.cell
        have cs := hbs.cell
        have hk66 : k ≤ 64 := by have := hinv.few; have := count_le all; omega
        have HJ := hide (And.intro hbt hbs)
        have HI := hide hinv
        have HU := hide (show PlV wr (.slice (some ⟨gl, 0, none⟩) (x.text.size + 1) (x.text.size + 1)) x.text.size last ∧ PlV wr (.slice (some ⟨ga, 0, none⟩) (x.text.size + 1) (x.text.size + 1)) x.text.size all from ⟨⟨gl, rfl, hu⟩, ⟨ga, rfl, ht⟩⟩)
        have hmax := hinv.max
        clear hbt hbs hinv hu ht
        by_cases hm : (mn : Int) + k = mx
        · have hneg : decide (mx < 0) = false := decide_eq_false (by omega)
          have hlt2 : decide ((mn : Int) + k < mx) = false := decide_eq_false (by omega)
          go_wp2_with fail
          go_ret
          exact ⟨_, all, rfl, HU.out.2, rep_done H1.out HI.out.rounds HI.out.max (.inl hm.symm), HI.out.fits, HI.out.below⟩
        · have hgo : (decide (mx < 0) || decide ((mn : Int) + k < mx)) = true := by
            rcases hmax with h | h
            · rw [h]; rfl
            · rw [Bool.or_eq_true]; exact .inr (decide_eq_true (by omega))
          have HGO := hide hgo
          clear hgo
          have hdec : (decide (mx < 0) = true) ∨ (decide (mx < 0) = false ∧ decide ((mn : Int) + k < mx) = true) := by
            cases h : decide (mx < 0) with
            | true => exact .inl rfl
            | false => have := HGO.out; rw [h] at this; exact .inr ⟨rfl, by simpa using this⟩
          rcases hdec with hd | ⟨hd, hd2⟩
          · have hdd := of_decide_eq_true hd
            go_upto_region 12 with fail
            clear ct cs
            refine wp_region_mix (fun y => Below wr.heap.size wr y) [6, 8] (by kernel_rfl) (fun hcl => ?_)
            have hS : Below wr.heap.size wr wr.drew := (Below.refl _ _).drew
            refine wpAnyT_free (i := 0) hcl rfl (by kernel_rfl) (v := ?_) (fun _ _ _ h => h) hS (Or.inl ⟨rfl, fun w' _ => ?_⟩) (fun hcl => ?_)
            rotate_left
            · go_simp
              with_reducible rfl
            simp only [List.getElem_toArray, List.getElem_cons_zero, List.getElem_cons_succ, Act.put, List.setIfInBounds_toArray, List.set_cons_zero, List.set_cons_succ]
            refine wpAnyT_take (i := 1) hcl rfl (by kernel_rfl) (v := ?_) (fun _ _ _ h => h) hS (Or.inl ⟨rfl, fun w' hS => ?_⟩) (fun hcl => ?_)
            rotate_left
            · skip
              have ct := (HJ.out.1.below hS HJ.out.1.lt).cell
              go_simp
              with_reducible rfl
            simp only [List.getElem_toArray, List.getElem_cons_zero, List.getElem_cons_succ, Act.put, List.setIfInBounds_toArray, List.set_cons_zero, List.set_cons_succ]
            refine wpAnyT_free (i := 2) hcl rfl (by kernel_rfl) (v := ?_) (fun _ _ _ h => h) hS (Or.inl ⟨rfl, fun w' _ => ?_⟩) (fun hcl => ?_)
            rotate_left
            · go_simp
              with_reducible rfl
            simp only [List.getElem_toArray, List.getElem_cons_zero, List.getElem_cons_succ, Act.put, List.setIfInBounds_toArray, List.set_cons_zero, List.set_cons_succ]
            refine wpAnyT_take (i := 3) hcl rfl (by kernel_rfl) (v := ?_) (fun _ _ _ h => h) hS (Or.inl ⟨rfl, fun w' hS => ?_⟩) (fun hcl => ?_)
            rotate_left
            · skip
              obtain ⟨n0, n1, n2, n3, n4, n5, n6, n7, n8, n9⟩ := (HN.out.same (same_of_below (HI.out.below.trans (hS.mono HI.out.below.size))) hbk).node
              go_simp
              with_reducible rfl
            simp only [List.getElem_toArray, List.getElem_cons_zero, List.getElem_cons_succ, Act.put, List.setIfInBounds_toArray, List.set_cons_zero, List.set_cons_succ]
            refine wpAnyT_take (i := 4) hcl rfl (by kernel_rfl) (v := ?_) (fun _ _ _ h => h) hS (Or.inl ⟨rfl, fun w' hS => ?_⟩) (fun hcl => ?_)
            rotate_left
            · skip
              have cs := (HJ.out.2.below hS HJ.out.2.lt).cell
              go_simp
              with_reducible rfl
            simp only [List.getElem_toArray, List.getElem_cons_zero, List.getElem_cons_succ, Act.put, List.setIfInBounds_toArray, List.set_cons_zero, List.set_cons_succ]
            refine wpAnyT_free (i := 5) hcl rfl (by kernel_rfl) (v := ?_) (fun _ _ _ h => h) hS (Or.inl ⟨rfl, fun w' _ => ?_⟩) (fun hcl => ?_)
            rotate_left
            · go_simp
              with_reducible rfl
            simp only [List.getElem_toArray, List.getElem_cons_zero, List.getElem_cons_succ, Act.put, List.setIfInBounds_toArray, List.set_cons_zero, List.set_cons_succ]
            refine wpAnyT_free (i := 7) hcl rfl (by kernel_rfl) (v := ?_) (fun _ _ _ h => h) hS (Or.inl ⟨rfl, fun w' _ => ?_⟩) (fun hcl => ?_)
            rotate_left
            · go_simp
              with_reducible rfl
            simp only [List.getElem_toArray, List.getElem_cons_zero, List.getElem_cons_succ, Act.put, List.setIfInBounds_toArray, List.set_cons_zero, List.set_cons_succ]
            refine wpAnyT_last (i := 6) hcl rfl (by kernel_rfl) (by kernel_rfl) (fun hcl => ?_)
            simp only [List.getElem_toArray, List.getElem_cons_zero, List.getElem_cons_succ, Act.put, List.setIfInBounds_toArray, List.set_cons_zero, List.set_cons_succ]
            have HX := hide (HS.out B c' last (.slice (some ⟨gl, 0, none⟩) (x.text.size + 1) (x.text.size + 1)) _ (HSU.out.same (same_of_below (HI.out.below.trans (hS.mono HI.out.below.size))) (fun q hq => Nat.lt_of_lt_of_le hq (Nat.le_trans HI.out.below.size hS.size))) (HU.out.1.next hS) HI.out.low)
            simp only [Hd.cells] at HX
            have HB := hide hS
            clear hS
            go_wp2_with fail
            refine HX.out.mono ?_
            rintro e w1 ⟨v1, tw, rfl, hpl, himg, hfit, hb⟩
            have HB2 := hide (And.intro himg (And.intro hfit (HB.out.trans (hb.mono HB.out.size))))
            have HWI := hide (without_any x.text.size (by omega) tw all v1 (.slice (some ⟨ga, 0, none⟩) (x.text.size + 1) (x.text.size + 1)) w1 hpl (HU.out.2.next HB2.out.2.2))
            clear hpl himg hfit hb
            go_wp2_with fail
            refine wpAnyT_last (i := 8) hcl rfl (by kernel_rfl) (by kernel_rfl) (fun hcl => ?_)
            simp only [List.getElem_toArray, List.getElem_cons_zero, List.getElem_cons_succ, Act.put, List.setIfInBounds_toArray, List.set_cons_zero, List.set_cons_succ]
            go_wp2_with fail
            refine HWI.out.mono ?_
            rintro e w2 ⟨v2, rfl, hpl, hb⟩
            have HP2 := hide (And.intro hpl (HB2.out.2.2.trans (hb.mono HB2.out.2.2.size)))
            clear hpl hb
            go_wp2_with fail
            refine wpAnyT_last (i := 9) hcl rfl (by kernel_rfl) (by kernel_rfl) (fun hcl => ?_)
            simp only [List.getElem_toArray, List.getElem_cons_zero, List.getElem_cons_succ, Act.put, List.setIfInBounds_toArray, List.set_cons_zero, List.set_cons_succ]
            go_wp2_with fail
            refine wpAnyT_done (by kernel_rfl) ?_ _
            go_wp2_with fail
            refine (some_any x.text.size (by omega) (tw ^^^ (tw &&& all)) HB2.out.2.1.without v2 w2 HP2.out.1).mono ?_
            rintro e w3 ⟨rfl, hb⟩
            have HP3 := hide (And.intro (HP2.out.1.next hb) (HP2.out.2.trans (hb.mono HP2.out.2.size)))
            clear hb
            by_cases h0 : tw ^^^ (tw &&& all) = 0
            · have e0 : decide (tw ^^^ (tw &&& all) ≠ 0) = false := decide_eq_false (by simp [h0])
              rw [e0]
              clear e0
              go_wp2_with fail
              go_ret
              exact ⟨_, all, rfl, HU.out.2.next HP3.out.2, HI.out.over HB2.out.1 h0 H1.out hm, HI.out.fits, HI.out.below.trans (HP3.out.2.mono HI.out.below.size)⟩
            · have e0 : decide (tw ^^^ (tw &&& all) ≠ 0) = true := decide_eq_true h0
              rw [e0]
              clear e0
              have HBO := hide (both_any x.text.size (by omega) all (tw ^^^ (tw &&& all)) (.slice (some ⟨ga, 0, none⟩) (x.text.size + 1) (x.text.size + 1)) v2 w3 (HU.out.2.next HP3.out.2) HP3.out.1)
              go_wp2_with fail
              refine HBO.out.mono ?_
              rintro e w4 ⟨v4, rfl, hpl, hb⟩
              have HP4 := hide (And.intro hpl (And.intro (HP3.out.1.next hb) (HP3.out.2.trans (hb.mono HP3.out.2.size))))
              clear hpl hb
              go_wp2_with fail
              go_roundw
              case rel => exact ⟨k + 1, _, _, HP4.out.2.1, HP4.out.1, by go_num, (HI.out.next hn hm HB2.out.1 HB2.out.2.1 HP4.out.2.2 h0).1, HJ.out.1.next HP4.out.2.2, HJ.out.2.next HP4.out.2.2⟩
              case measure => simp [intOf]; omega
          · have hdd := of_decide_eq_false hd
            go_upto_region 12 with fail
            clear ct cs
            refine wp_region_mix (fun y => Below wr.heap.size wr y) [6, 8] (by kernel_rfl) (fun hcl => ?_)
            have hS : Below wr.heap.size wr wr.drew := (Below.refl _ _).drew
            refine wpAnyT_free (i := 0) hcl rfl (by kernel_rfl) (v := ?_) (fun _ _ _ h => h) hS (Or.inl ⟨rfl, fun w' _ => ?_⟩) (fun hcl => ?_)
            rotate_left
            · go_simp
              with_reducible rfl
            simp only [List.getElem_toArray, List.getElem_cons_zero, List.getElem_cons_succ, Act.put, List.setIfInBounds_toArray, List.set_cons_zero, List.set_cons_succ]
            refine wpAnyT_take (i := 1) hcl rfl (by kernel_rfl) (v := ?_) (fun _ _ _ h => h) hS (Or.inl ⟨rfl, fun w' hS => ?_⟩) (fun hcl => ?_)
            rotate_left
            · skip
              have ct := (HJ.out.1.below hS HJ.out.1.lt).cell
              go_simp
              with_reducible rfl
            simp only [List.getElem_toArray, List.getElem_cons_zero, List.getElem_cons_succ, Act.put, List.setIfInBounds_toArray, List.set_cons_zero, List.set_cons_succ]
            refine wpAnyT_free (i := 2) hcl rfl (by kernel_rfl) (v := ?_) (fun _ _ _ h => h) hS (Or.inl ⟨rfl, fun w' _ => ?_⟩) (fun hcl => ?_)
            rotate_left
            · go_simp
              with_reducible rfl
            simp only [List.getElem_toArray, List.getElem_cons_zero, List.getElem_cons_succ, Act.put, List.setIfInBounds_toArray, List.set_cons_zero, List.set_cons_succ]
            refine wpAnyT_take (i := 3) hcl rfl (by kernel_rfl) (v := ?_) (fun _ _ _ h => h) hS (Or.inl ⟨rfl, fun w' hS => ?_⟩) (fun hcl => ?_)
            rotate_left
            · skip
              obtain ⟨n0, n1, n2, n3, n4, n5, n6, n7, n8, n9⟩ := (HN.out.same (same_of_below (HI.out.below.trans (hS.mono HI.out.below.size))) hbk).node
              go_simp
              with_reducible rfl
            simp only [List.getElem_toArray, List.getElem_cons_zero, List.getElem_cons_succ, Act.put, List.setIfInBounds_toArray, List.set_cons_zero, List.set_cons_succ]
            refine wpAnyT_take (i := 4) hcl rfl (by kernel_rfl) (v := ?_) (fun _ _ _ h => h) hS (Or.inl ⟨rfl, fun w' hS => ?_⟩) (fun hcl => ?_)
            rotate_left
            · skip
              have cs := (HJ.out.2.below hS HJ.out.2.lt).cell
              go_simp
              with_reducible rfl
            simp only [List.getElem_toArray, List.getElem_cons_zero, List.getElem_cons_succ, Act.put, List.setIfInBounds_toArray, List.set_cons_zero, List.set_cons_succ]
            refine wpAnyT_free (i := 5) hcl rfl (by kernel_rfl) (v := ?_) (fun _ _ _ h => h) hS (Or.inl ⟨rfl, fun w' _ => ?_⟩) (fun hcl => ?_)
            rotate_left
            · go_simp
              with_reducible rfl
            simp only [List.getElem_toArray, List.getElem_cons_zero, List.getElem_cons_succ, Act.put, List.setIfInBounds_toArray, List.set_cons_zero, List.set_cons_succ]
            refine wpAnyT_free (i := 7) hcl rfl (by kernel_rfl) (v := ?_) (fun _ _ _ h => h) hS (Or.inl ⟨rfl, fun w' _ => ?_⟩) (fun hcl => ?_)
            rotate_left
            · go_simp
              with_reducible rfl
            simp only [List.getElem_toArray, List.getElem_cons_zero, List.getElem_cons_succ, Act.put, List.setIfInBounds_toArray, List.set_cons_zero, List.set_cons_succ]
            refine wpAnyT_last (i := 6) hcl rfl (by kernel_rfl) (by kernel_rfl) (fun hcl => ?_)
            simp only [List.getElem_toArray, List.getElem_cons_zero, List.getElem_cons_succ, Act.put, List.setIfInBounds_toArray, List.set_cons_zero, List.set_cons_succ]
            have HX := hide (HS.out B c' last (.slice (some ⟨gl, 0, none⟩) (x.text.size + 1) (x.text.size + 1)) _ (HSU.out.same (same_of_below (HI.out.below.trans (hS.mono HI.out.below.size))) (fun q hq => Nat.lt_of_lt_of_le hq (Nat.le_trans HI.out.below.size hS.size))) (HU.out.1.next hS) HI.out.low)
            simp only [Hd.cells] at HX
            have HB := hide hS
            clear hS
            go_wp2_with fail
            refine HX.out.mono ?_
            rintro e w1 ⟨v1, tw, rfl, hpl, himg, hfit, hb⟩
            have HB2 := hide (And.intro himg (And.intro hfit (HB.out.trans (hb.mono HB.out.size))))
            have HWI := hide (without_any x.text.size (by omega) tw all v1 (.slice (some ⟨ga, 0, none⟩) (x.text.size + 1) (x.text.size + 1)) w1 hpl (HU.out.2.next HB2.out.2.2))
            clear hpl himg hfit hb
            go_wp2_with fail
            refine wpAnyT_last (i := 8) hcl rfl (by kernel_rfl) (by kernel_rfl) (fun hcl => ?_)
            simp only [List.getElem_toArray, List.getElem_cons_zero, List.getElem_cons_succ, Act.put, List.setIfInBounds_toArray, List.set_cons_zero, List.set_cons_succ]
            go_wp2_with fail
            refine HWI.out.mono ?_
            rintro e w2 ⟨v2, rfl, hpl, hb⟩
            have HP2 := hide (And.intro hpl (HB2.out.2.2.trans (hb.mono HB2.out.2.2.size)))
            clear hpl hb
            go_wp2_with fail
            refine wpAnyT_last (i := 9) hcl rfl (by kernel_rfl) (by kernel_rfl) (fun hcl => ?_)
            simp only [List.getElem_toArray, List.getElem_cons_zero, List.getElem_cons_succ, Act.put, List.setIfInBounds_toArray, List.set_cons_zero, List.set_cons_succ]
            go_wp2_with fail
            refine wpAnyT_done (by kernel_rfl) ?_ _
            go_wp2_with fail
            refine (some_any x.text.size (by omega) (tw ^^^ (tw &&& all)) HB2.out.2.1.without v2 w2 HP2.out.1).mono ?_
            rintro e w3 ⟨rfl, hb⟩
            have HP3 := hide (And.intro (HP2.out.1.next hb) (HP2.out.2.trans (hb.mono HP2.out.2.size)))
            clear hb
            by_cases h0 : tw ^^^ (tw &&& all) = 0
            · have e0 : decide (tw ^^^ (tw &&& all) ≠ 0) = false := decide_eq_false (by simp [h0])
              rw [e0]
              clear e0
              go_wp2_with fail
              go_ret
              exact ⟨_, all, rfl, HU.out.2.next HP3.out.2, HI.out.over HB2.out.1 h0 H1.out hm, HI.out.fits, HI.out.below.trans (HP3.out.2.mono HI.out.below.size)⟩
            · have e0 : decide (tw ^^^ (tw &&& all) ≠ 0) = true := decide_eq_true h0
              rw [e0]
              clear e0
              have HBO := hide (both_any x.text.size (by omega) all (tw ^^^ (tw &&& all)) (.slice (some ⟨ga, 0, none⟩) (x.text.size + 1) (x.text.size + 1)) v2 w3 (HU.out.2.next HP3.out.2) HP3.out.1)
              go_wp2_with fail
              refine HBO.out.mono ?_
              rintro e w4 ⟨v4, rfl, hpl, hb⟩
              have HP4 := hide (And.intro hpl (And.intro (HP3.out.1.next hb) (HP3.out.2.trans (hb.mono HP3.out.2.size))))
              clear hpl hb
              go_wp2_with fail
              go_roundw
              case rel => exact ⟨k + 1, _, _, HP4.out.2.1, HP4.out.1, by go_num, (HI.out.next hn hm HB2.out.1 HB2.out.2.1 HP4.out.2.2 h0).1, HJ.out.1.next HP4.out.2.2, HJ.out.2.next HP4.out.2.2⟩
              case measure => simp [intOf]; omega

set_option maxRecDepth 100000 in
set_option maxHeartbeats 8000000 in
theorem over_any (N : Nat) {x : Sc} {cf ef : Int} (hr : RefSc x cf ef) (hn : x.text.size ≤ 63) : ∀ t : T, t.nodes ≤ N → N ≤ 1000000 → t.wf → t.form = true → OverC x cf ef t := by
  induction N with
  | zero => intro t h; have := t.nodes_pos; omega
  | succ N ih =>
    intro t hN hM hwf hform A c f v w hin hv hf
    have hform' := hform
    rw [T.form_eq] at hform'
    simp only [Bool.and_eq_true] at hform'
    obtain ⟨hfo, hfl⟩ := hform'
    have hk := Hd.formed_len hfo
    have hRE := T.R_eq x t
    have hwf' := T.wf_eq.1 hwf
    obtain ⟨h, l⟩ := t
    simp only [T.hd, T.subs, T.nodes] at hN hwf' hfo hfl hk hRE ⊢
    have hlen : l.length ≤ 1000000 := by have := TL.length_le l; omega
    obtain ⟨u0, u1, u2, u3⟩ := And.intro hwf'.1.2.1 (And.intro hwf'.1.2.2.1 (And.intro hwf'.1.2.2.2.1 hwf'.1.2.2.2.2.1))
    have hwl := hwf'.2.2
    obtain ⟨hk1, hk8, hk7⟩ := hk
    obtain ⟨kind, s0, s1, s2, s3, num, mn, mx, bare⟩ := h
    simp only at hk1 hk8 hk7 u0 u1 u2 u3 hRE
    simp only [Hd.cells]
    have HLF := hide (fun hk i hi y => leaf_any hr kind s0 s1 s2 s3 num mn mx bare l A c i hk u0 u1 u2 u3 hi y)
    generalize hRR : (T.mk ⟨kind, s0, s1, s2, s3, num, mn, mx, bare⟩ l).R x = RR at *
    have HRE := hide hRE
    have HA := hide (And.intro hf hin)
    have HF := hide (And.intro hwf (And.intro hform (And.intro hfo hfl)))
    have HK7 := hide hk7
    obtain ⟨gv, rfl, hrv⟩ := hv
    have HV := hide hrv
    have HNO := hide (fun y => none_any x.text cf ef hr.small y)
    have HSO := hide (fun y hy => some_any x.text.size hr.small f hf (.slice (some ⟨gv, 0, none⟩) (x.text.size + 1) (x.text.size + 1)) y hy)
    have hbt := (Blk.new w 52 #[.int .i64 kind, .int .u64 s0, .int .u64 s1, .int .u64 s2, .int .u64 s3, .slice A l.length c, .int .i64 num, .int .i64 mn, .int .i64 mx, .bool bare]).alloc (.cells #[.string x.text, .int .i64 cf, .int .i64 ef, .bool false] 34)
    have hbs := Blk.new (w.alloc (.cells #[.int .i64 kind, .int .u64 s0, .int .u64 s1, .int .u64 s2, .int .u64 s3, .slice A l.length c, .int .i64 num, .int .i64 mn, .int .i64 mx, .bool bare] 52)) 34 #[.string x.text, .int .i64 cf, .int .i64 ef, .bool false]
    have hbel := ((Below.refl w.heap.size w).alloc (Nat.le_refl _) (.cells #[.int .i64 kind, .int .u64 s0, .int .u64 s1, .int .u64 s2, .int .u64 s3, .slice A l.length c, .int .i64 num, .int .i64 mn, .int .i64 mx, .bool bare] 52)).alloc (by simp) (.cells #[.string x.text, .int .i64 cf, .int .i64 ef, .bool false] 34)
    simp only [World.size_alloc] at hbs
    clear hRE hf hin hRR hwf hform hfo hfl hwf' hk7 hrv
    have hsz : ((w.alloc (.cells #[.int .i64 kind, .int .u64 s0, .int .u64 s1, .int .u64 s2, .int .u64 s3, .slice A l.length c, .int .i64 num, .int .i64 mn, .int .i64 mx, .bool bare] 52)).alloc (.cells #[.string x.text, .int .i64 cf, .int .i64 ef, .bool false] 34)).heap.size = w.heap.size + 1 + 1 := by simp
    go_enter Tryd.func65, Tryd.ntmps65
    go_wp2_with fail
    refine (HNO.out _).mono ?_
    rintro e w1 ⟨g0, rfl, hrow, hg0, hb⟩
    rw [hsz] at hg0
    replace hbt := hbt.next hb
    replace hbs := hbs.next hb
    replace hbel := hbel.trans (hb.mono hbel.size)
    have HR0 := hide hrow
    have HJ := hide (And.intro hbt hbs)
    have HL := hide hbel
    clear hb hrow hbt hbs hbel hsz HNO
    go_wp2_with fail
    refine (HSO.out _ ⟨gv, rfl, HV.out.below HL.out HV.out.lt⟩).mono ?_
    rintro e w2 ⟨rfl, hb⟩
    replace HR0 := hide (HR0.out.next hb)
    replace HJ := hide (And.intro (HJ.out.1.next hb) (HJ.out.2.next hb))
    replace HL := hide (HL.out.trans (hb.mono HL.out.size))
    clear hb HSO
    by_cases h0 : f = 0
    · subst h0
      have e0 : decide ((0 : Nat) ≠ 0) = false := rfl
      rw [e0]
      clear e0
      go_wp2_with fail
      go_ret
      exact ⟨_, 0, rfl, ⟨g0, rfl, HR0.out.congr fun i _ => by simp⟩, Img.zero _, Fits.zero _, HL.out⟩
    have e0 : decide (f ≠ 0) = true := decide_eq_true h0
    rw [e0]
    clear e0 h0
    by_cases hleaf : kind = 1 ∨ kind = 2 ∨ kind = 3 ∨ kind = 4
    · replace HLF := hide (fun i hi y => HLF.out hleaf i hi y)
      have e5 : (kind == 5) = false := by simp; omega
      have e6 : (kind == 6) = false := by simp; omega
      have e7 : (kind == 7) = false := by simp; omega
      have e8 : (kind == 8) = false := by simp; omega
      have ct := HJ.out.1.cell
      clear hleaf hk1 hk8
      go_wp2_with fail
      clear e5 e6 e7 e8 ct
      go_loopw [11] (fun kv wr => ∃ k tw : Nat, kv = .int .i64 k ∧ k ≤ x.text.size + 1 ∧ BRow wr g0 x.text.size tw.testBit ∧ Fits x.text.size tw ∧ (∀ j, tw.testBit j = true ↔ ∃ i, i < k ∧ f.testBit i = true ∧ RR i j) ∧ Below w.heap.size w wr ∧ Blk wr w.heap.size 52 #[.int .i64 kind, .int .u64 s0, .int .u64 s1, .int .u64 s2, .int .u64 s3, .slice A l.length c, .int .i64 num, .int .i64 mn, .int .i64 mx, .bool bare] ∧ Blk wr (w.heap.size + 1) 34 #[.string x.text, .int .i64 cf, .int .i64 ef, .bool false]) (fun kv _ => x.text.size + 1 - (intOf kv).toNat)
      case atStart => exact ⟨0, 0, rfl, by omega, HR0.out.congr fun i _ => by simp, Fits.zero _, fun j => by simp, HL.out, HJ.out.1, HJ.out.2⟩
      case round =>
        clear HR0 HL HJ
        obtain ⟨k, tw, rfl, hk, hrow, hfit, hiff, hbel, hbt, hbs⟩ := hrel
        by_cases hlt : k < x.text.size + 1
        case neg =>
          have g1 : decide ((k : Int) < (x.text.size : Int) + 1) = false := decide_eq_false (by omega)
          have HH := hide (And.intro hrow (And.intro hfit (And.intro hiff hbel)))
          clear hrow hfit hiff hbel hbt hbs
          go_wp2_with fail
          go_ret
          refine ⟨_, tw, rfl, ⟨g0, rfl, HH.out.1⟩, fun j => (HH.out.2.2.1 j).trans ?_, HH.out.2.1, HH.out.2.2.2⟩
          constructor
          · rintro ⟨i, _, h1, h2⟩; exact ⟨i, h1, h2⟩
          · rintro ⟨i, h1, h2⟩; exact ⟨i, by have := HA.out.1 i h1; omega, h1, h2⟩
        have g1 : decide ((k : Int) < (x.text.size : Int) + 1) = true := decide_eq_true (by omega)
        have cv := (HV.out.below hbel HV.out.lt).cell k (by omega)
        cases hfk : f.testBit k with
        | false =>
          rw [hfk] at cv
          have HH := hide (And.intro hrow (And.intro hfit (And.intro hiff (And.intro hbel (And.intro hbt (And.intro hbs hfk))))))
          clear hrow hfit hiff hbel hbt hbs hfk
          go_wp2_with fail
          go_roundw
          case rel =>
            refine ⟨k + 1, tw, by go_num, by omega, HH.out.1, HH.out.2.1, fun j => (HH.out.2.2.1 j).trans ?_, HH.out.2.2.2.1, HH.out.2.2.2.2.1, HH.out.2.2.2.2.2.1⟩
            constructor
            · rintro ⟨i, h1, h2⟩; exact ⟨i, by omega, h2⟩
            · rintro ⟨i, h1, h2, h3⟩
              refine ⟨i, ?_, h2, h3⟩
              have : i ≠ k := fun e => by rw [e, HH.out.2.2.2.2.2.2] at h2; cases h2
              omega
          case measure => simp [intOf]; omega
        | true =>
          rw [hfk] at cv
          have ct := hbt.cell
          have cs := hbs.cell
          have HH := hide (And.intro hrow (And.intro hfit (And.intro hiff (And.intro hbel (And.intro hbt (And.intro hbs hfk))))))
          clear hrow hfit hiff hbel hbt hbs hfk
          go_wp2_with fail
          refine (HLF.out k (by omega) _).mono ?_
          rintro e w3 ⟨r, rfl, hlf, hb⟩
          clear ct cs cv
          rcases hlf with ⟨rfl, hno⟩ | ⟨j, rfl, hj, hone⟩
          · have HX := hide (And.intro hno hb)
            clear hno hb
            go_wp2_with fail
            go_roundw
            case rel =>
              refine ⟨k + 1, tw, by go_num, by omega, HH.out.1.next HX.out.2, HH.out.2.1, fun j => (HH.out.2.2.1 j).trans ?_, HH.out.2.2.2.1.trans (HX.out.2.mono HH.out.2.2.2.1.size), HH.out.2.2.2.2.1.next HX.out.2, HH.out.2.2.2.2.2.1.next HX.out.2⟩
              constructor
              · rintro ⟨i, h1, h2⟩; exact ⟨i, by omega, h2⟩
              · rintro ⟨i, h1, h2, h3⟩
                refine ⟨i, ?_, h2, h3⟩
                have : i ≠ k := fun e => by rw [e] at h3; exact HX.out.1 j h3
                omega
            case measure => simp [intOf]; omega
          · have hrow := HH.out.1.next hb
            have cc := hrow.cell j hj
            have cfr := hrow.frozen
            have hge : decide ((0 : Int) ≤ (j : Int)) = true := decide_eq_true (by omega)
            have hjl : j < x.text.size + 1 := by omega
            have HX := hide (And.intro hone (And.intro hb hrow))
            clear hone hb hrow
            go_wp2_with fail
            go_roundw
            case rel =>
              have hb1 := HH.out.2.2.2.1.trans (HX.out.2.1.mono HH.out.2.2.2.1.size)
              refine ⟨k + 1, tw ||| 2 ^ j, by go_num, by omega, (HX.out.2.2.set j true hj).congr fun i hi => ?_, HH.out.2.1.or (one_fits hj), fun i => ?_, hb1.setCell (by simp; omega) _, (HH.out.2.2.2.2.1.next HX.out.2.1).far (by simp; omega) _, (HH.out.2.2.2.2.2.1.next HX.out.2.1).far (by simp; omega) _⟩
              · rw [set_bit]
                by_cases h : i = j
                · simp [h]
                · simp [h]
              · rw [set_bit, Bool.or_eq_true, HH.out.2.2.1 i, decide_eq_true_eq]
                constructor
                · rintro (⟨q, h1, h2⟩ | h1)
                  · exact ⟨q, by omega, h2⟩
                  · exact ⟨k, by omega, HH.out.2.2.2.2.2.2, (HX.out.1 i).2 h1⟩
                · rintro ⟨q, h1, h2, h3⟩
                  by_cases hq : q = k
                  · rw [hq] at h3; exact .inr ((HX.out.1 i).1 h3)
                  · exact .inl ⟨q, by omega, h2, h3⟩
            case measure => simp [intOf]; omega
    clear HLF
    have hkc : kind = 5 ∨ kind = 6 ∨ kind = 7 ∨ kind = 8 := by omega
    rcases hkc with e | e | e | e <;> subst e
    · -- kind 5
      have ct := HJ.out.1.cell
      go_wp2_with fail
      clear ct
      go_loopw [2, 9] (fun fv kv wr => ∃ (k cur : Nat), PlV wr fv x.text.size cur ∧ kv = .int .i64 k ∧ SeqInv x l f w wr k cur ∧ Blk wr w.heap.size 52 #[.int .i64 5, .int .u64 s0, .int .u64 s1, .int .u64 s2, .int .u64 s3, .slice A l.length c, .int .i64 num, .int .i64 mn, .int .i64 mx, .bool bare] ∧ Blk wr (w.heap.size + 1) 34 #[.string x.text, .int .i64 cf, .int .i64 ef, .bool false]) (fun _ kv _ => l.length - (intOf kv).toNat)
      case atStart => exact ⟨0, f, ⟨gv, rfl, HV.out.below HL.out HV.out.lt⟩, rfl, ⟨Nat.zero_le _, (Img.id f).congr fun i j => Iff.rfl, HA.out.1, HL.out⟩, HJ.out.1, HJ.out.2⟩
      case round =>
        clear HJ HL HR0
        obtain ⟨k, cur, ⟨gu, rfl, hu⟩, rfl, hinv, hbt, hbs⟩ := hrel
        have ct := hbt.cell
        have HJ := hide (And.intro hbt hbs)
        have HI := hide hinv
        have HU := hide (show PlV wr (.slice (some ⟨gu, 0, none⟩) (x.text.size + 1) (x.text.size + 1)) x.text.size cur from ⟨gu, rfl, hu⟩)
        clear hbt hbs hinv hu
        by_cases hlt : k < l.length
        · have g1 : decide ((k : Int) < (l.length : Int)) = true := decide_eq_true (by omega)
          have hs := List.getElem?_eq_getElem hlt
          obtain ⟨b', o, B, c', rfl, hbk, hcs, hsub⟩ := TL.In.at_ (T.In_iff.1 HA.out.2) hs
          have hmem := List.getElem_mem hlt
          have hsn := TL.nodes_mem hmem
          have hsw := TL.wf_mem hwl hmem
          have hsf := TL.form_mem HF.out.2.2.2 hmem
          generalize l[k] = s at *
          have HN := hide hcs
          have HSU := hide hsub
          have HS := hide hs
          have HC := hide (ih s (by omega) (by omega) hsw hsf)
          clear hs hcs hsub hmem hsw hsf
          go_upto_region 10 with fail
          clear ct
          refine wp_region_mix (fun y => Below wr.heap.size wr y) [7] (by kernel_rfl) (fun hcl => ?_)
          have hS : Below wr.heap.size wr wr.drew := (Below.refl _ _).drew
          refine wpAnyT_free (i := 0) hcl rfl (by kernel_rfl) (v := ?_) (fun _ _ _ h => h) hS (Or.inl ⟨rfl, fun w' _ => ?_⟩) (fun hcl => ?_)
          rotate_left
          · go_simp
            with_reducible rfl
          simp only [List.getElem_toArray, List.getElem_cons_zero, List.getElem_cons_succ, Act.put, List.setIfInBounds_toArray, List.set_cons_zero, List.set_cons_succ]
          refine wpAnyT_take (i := 1) hcl rfl (by kernel_rfl) (v := ?_) (fun _ _ _ h => h) hS (Or.inl ⟨rfl, fun w' hS => ?_⟩) (fun hcl => ?_)
          rotate_left
          · skip
            have ct := (HJ.out.1.below hS HJ.out.1.lt).cell
            go_simp
            with_reducible rfl
          simp only [List.getElem_toArray, List.getElem_cons_zero, List.getElem_cons_succ, Act.put, List.setIfInBounds_toArray, List.set_cons_zero, List.set_cons_succ]
          refine wpAnyT_free (i := 2) hcl rfl (by kernel_rfl) (v := ?_) (fun _ _ _ h => h) hS (Or.inl ⟨rfl, fun w' _ => ?_⟩) (fun hcl => ?_)
          rotate_left
          · go_simp
            with_reducible rfl
          simp only [List.getElem_toArray, List.getElem_cons_zero, List.getElem_cons_succ, Act.put, List.setIfInBounds_toArray, List.set_cons_zero, List.set_cons_succ]
          refine wpAnyT_free (i := 3) hcl rfl (by kernel_rfl) (v := ?_) (fun _ _ _ h => h) hS (Or.inl ⟨rfl, fun w' _ => ?_⟩) (fun hcl => ?_)
          rotate_left
          · go_simp
            with_reducible rfl
          simp only [List.getElem_toArray, List.getElem_cons_zero, List.getElem_cons_succ, Act.put, List.setIfInBounds_toArray, List.set_cons_zero, List.set_cons_succ]
          refine wpAnyT_take (i := 4) hcl rfl (by kernel_rfl) (v := ?_) (fun _ _ _ h => h) hS (Or.inl ⟨rfl, fun w' hS => ?_⟩) (fun hcl => ?_)
          rotate_left
          · skip
            obtain ⟨n0, n1, n2, n3, n4, n5, n6, n7, n8, n9⟩ := (HN.out.same (same_of_below (HI.out.below.trans (hS.mono HI.out.below.size))) hbk).node
            go_simp
            with_reducible rfl
          simp only [List.getElem_toArray, List.getElem_cons_zero, List.getElem_cons_succ, Act.put, List.setIfInBounds_toArray, List.set_cons_zero, List.set_cons_succ]
          refine wpAnyT_take (i := 5) hcl rfl (by kernel_rfl) (v := ?_) (fun _ _ _ h => h) hS (Or.inl ⟨rfl, fun w' hS => ?_⟩) (fun hcl => ?_)
          rotate_left
          · skip
            have cs := (HJ.out.2.below hS HJ.out.2.lt).cell
            go_simp
            with_reducible rfl
          simp only [List.getElem_toArray, List.getElem_cons_zero, List.getElem_cons_succ, Act.put, List.setIfInBounds_toArray, List.set_cons_zero, List.set_cons_succ]
          refine wpAnyT_free (i := 6) hcl rfl (by kernel_rfl) (v := ?_) (fun _ _ _ h => h) hS (Or.inl ⟨rfl, fun w' _ => ?_⟩) (fun hcl => ?_)
          rotate_left
          · go_simp
            with_reducible rfl
          simp only [List.getElem_toArray, List.getElem_cons_zero, List.getElem_cons_succ, Act.put, List.setIfInBounds_toArray, List.set_cons_zero, List.set_cons_succ]
          refine wpAnyT_last (i := 7) hcl rfl (by kernel_rfl) (by kernel_rfl) (fun hcl => ?_)
          simp only [List.getElem_toArray, List.getElem_cons_zero, List.getElem_cons_succ, Act.put, List.setIfInBounds_toArray, List.set_cons_zero, List.set_cons_succ]
          have HX := hide (HC.out B c' cur (.slice (some ⟨gu, 0, none⟩) (x.text.size + 1) (x.text.size + 1)) _ (HSU.out.same (same_of_below (HI.out.below.trans (hS.mono HI.out.below.size))) (fun q hq => Nat.lt_of_lt_of_le hq (Nat.le_trans HI.out.below.size hS.size))) (HU.out.next hS) HI.out.fits)
          simp only [Hd.cells] at HX
          have HB := hide hS
          clear hS
          go_wp2_with fail
          refine HX.out.mono ?_
          rintro e w3 ⟨v1, tw, rfl, hpl, himg, hfit, hb⟩
          have HB2 := hide (And.intro hpl (And.intro (HI.out.next HS.out himg hfit (HB.out.trans (hb.mono HB.out.size))) (HB.out.trans (hb.mono HB.out.size))))
          clear hpl himg hfit hb
          go_wp2_with fail
          refine wpAnyT_last (i := 8) hcl rfl (by kernel_rfl) (by kernel_rfl) (fun hcl => ?_)
          simp only [List.getElem_toArray, List.getElem_cons_zero, List.getElem_cons_succ, Act.put, List.setIfInBounds_toArray, List.set_cons_zero, List.set_cons_succ]
          go_wp2_with fail
          refine wpAnyT_done (by kernel_rfl) ?_ _
          go_wp2_with fail
          go_roundw
          case rel => exact ⟨k + 1, tw, HB2.out.1, by go_num, HB2.out.2.1, HJ.out.1.next HB2.out.2.2, HJ.out.2.next HB2.out.2.2⟩
          case measure => simp [intOf]; omega
        · have g1 : decide ((k : Int) < (l.length : Int)) = false := decide_eq_false (by omega)
          go_wp2_with fail
          go_ret
          have hI := HI.out.img
          rw [List.take_of_length_le (by omega)] at hI
          exact ⟨_, cur, rfl, HU.out, hI.congr fun i j => by rw [HRE.out]; exact Iff.rfl, HI.out.fits, HI.out.below⟩
    · -- kind 6
      have ct := HJ.out.1.cell
      go_wp2_with fail
      clear ct
      go_loopw [7, 10] (fun fv kv wr => ∃ (k cur : Nat), PlV wr fv x.text.size cur ∧ kv = .int .i64 k ∧ AltInv x l f w wr k cur ∧ Blk wr w.heap.size 52 #[.int .i64 6, .int .u64 s0, .int .u64 s1, .int .u64 s2, .int .u64 s3, .slice A l.length c, .int .i64 num, .int .i64 mn, .int .i64 mx, .bool bare] ∧ Blk wr (w.heap.size + 1) 34 #[.string x.text, .int .i64 cf, .int .i64 ef, .bool false]) (fun _ kv _ => l.length - (intOf kv).toNat)
      case atStart => exact ⟨0, 0, ⟨g0, rfl, HR0.out.congr fun i _ => by simp⟩, rfl, ⟨Nat.zero_le _, (Img.none f).congr fun i j => Iff.rfl, Fits.zero _, HL.out⟩, HJ.out.1, HJ.out.2⟩
      case round =>
        clear HJ HL HR0
        obtain ⟨k, cur, ⟨gu, rfl, hu⟩, rfl, hinv, hbt, hbs⟩ := hrel
        have ct := hbt.cell
        have HJ := hide (And.intro hbt hbs)
        have HI := hide hinv
        have HU := hide (show PlV wr (.slice (some ⟨gu, 0, none⟩) (x.text.size + 1) (x.text.size + 1)) x.text.size cur from ⟨gu, rfl, hu⟩)
        clear hbt hbs hinv hu
        by_cases hlt : k < l.length
        · have g1 : decide ((k : Int) < (l.length : Int)) = true := decide_eq_true (by omega)
          have hs := List.getElem?_eq_getElem hlt
          obtain ⟨b', o, B, c', rfl, hbk, hcs, hsub⟩ := TL.In.at_ (T.In_iff.1 HA.out.2) hs
          have hmem := List.getElem_mem hlt
          have hsn := TL.nodes_mem hmem
          have hsw := TL.wf_mem hwl hmem
          have hsf := TL.form_mem HF.out.2.2.2 hmem
          generalize l[k] = s at *
          have HN := hide hcs
          have HSU := hide hsub
          have HS := hide hs
          have HC := hide (ih s (by omega) (by omega) hsw hsf)
          clear hs hcs hsub hmem hsw hsf
          go_upto_region 16 with fail
          clear ct
          refine wp_region_mix (fun y => Below wr.heap.size wr y) [8, 9] (by kernel_rfl) (fun hcl => ?_)
          have hS : Below wr.heap.size wr wr.drew := (Below.refl _ _).drew
          refine wpAnyT_free (i := 0) hcl rfl (by kernel_rfl) (v := ?_) (fun _ _ _ h => h) hS (Or.inl ⟨rfl, fun w' _ => ?_⟩) (fun hcl => ?_)
          rotate_left
          · go_simp
            with_reducible rfl
          simp only [List.getElem_toArray, List.getElem_cons_zero, List.getElem_cons_succ, Act.put, List.setIfInBounds_toArray, List.set_cons_zero, List.set_cons_succ]
          refine wpAnyT_free (i := 1) hcl rfl (by kernel_rfl) (v := ?_) (fun _ _ _ h => h) hS (Or.inl ⟨rfl, fun w' _ => ?_⟩) (fun hcl => ?_)
          rotate_left
          · go_simp
            with_reducible rfl
          simp only [List.getElem_toArray, List.getElem_cons_zero, List.getElem_cons_succ, Act.put, List.setIfInBounds_toArray, List.set_cons_zero, List.set_cons_succ]
          refine wpAnyT_take (i := 2) hcl rfl (by kernel_rfl) (v := ?_) (fun _ _ _ h => h) hS (Or.inl ⟨rfl, fun w' hS => ?_⟩) (fun hcl => ?_)
          rotate_left
          · skip
            have ct := (HJ.out.1.below hS HJ.out.1.lt).cell
            go_simp
            with_reducible rfl
          simp only [List.getElem_toArray, List.getElem_cons_zero, List.getElem_cons_succ, Act.put, List.setIfInBounds_toArray, List.set_cons_zero, List.set_cons_succ]
          refine wpAnyT_free (i := 3) hcl rfl (by kernel_rfl) (v := ?_) (fun _ _ _ h => h) hS (Or.inl ⟨rfl, fun w' _ => ?_⟩) (fun hcl => ?_)
          rotate_left
          · go_simp
            with_reducible rfl
          simp only [List.getElem_toArray, List.getElem_cons_zero, List.getElem_cons_succ, Act.put, List.setIfInBounds_toArray, List.set_cons_zero, List.set_cons_succ]
          refine wpAnyT_free (i := 4) hcl rfl (by kernel_rfl) (v := ?_) (fun _ _ _ h => h) hS (Or.inl ⟨rfl, fun w' _ => ?_⟩) (fun hcl => ?_)
          rotate_left
          · go_simp
            with_reducible rfl
          simp only [List.getElem_toArray, List.getElem_cons_zero, List.getElem_cons_succ, Act.put, List.setIfInBounds_toArray, List.set_cons_zero, List.set_cons_succ]
          refine wpAnyT_take (i := 5) hcl rfl (by kernel_rfl) (v := ?_) (fun _ _ _ h => h) hS (Or.inl ⟨rfl, fun w' hS => ?_⟩) (fun hcl => ?_)
          rotate_left
          · skip
            obtain ⟨n0, n1, n2, n3, n4, n5, n6, n7, n8, n9⟩ := (HN.out.same (same_of_below (HI.out.below.trans (hS.mono HI.out.below.size))) hbk).node
            go_simp
            with_reducible rfl
          simp only [List.getElem_toArray, List.getElem_cons_zero, List.getElem_cons_succ, Act.put, List.setIfInBounds_toArray, List.set_cons_zero, List.set_cons_succ]
          refine wpAnyT_take (i := 6) hcl rfl (by kernel_rfl) (v := ?_) (fun _ _ _ h => h) hS (Or.inl ⟨rfl, fun w' hS => ?_⟩) (fun hcl => ?_)
          rotate_left
          · skip
            have cs := (HJ.out.2.below hS HJ.out.2.lt).cell
            go_simp
            with_reducible rfl
          simp only [List.getElem_toArray, List.getElem_cons_zero, List.getElem_cons_succ, Act.put, List.setIfInBounds_toArray, List.set_cons_zero, List.set_cons_succ]
          refine wpAnyT_free (i := 7) hcl rfl (by kernel_rfl) (v := ?_) (fun _ _ _ h => h) hS (Or.inl ⟨rfl, fun w' _ => ?_⟩) (fun hcl => ?_)
          rotate_left
          · go_simp
            with_reducible rfl
          simp only [List.getElem_toArray, List.getElem_cons_zero, List.getElem_cons_succ, Act.put, List.setIfInBounds_toArray, List.set_cons_zero, List.set_cons_succ]
          refine wpAnyT_last (i := 8) hcl rfl (by kernel_rfl) (by kernel_rfl) (fun hcl => ?_)
          simp only [List.getElem_toArray, List.getElem_cons_zero, List.getElem_cons_succ, Act.put, List.setIfInBounds_toArray, List.set_cons_zero, List.set_cons_succ]
          have HX := hide (HC.out B c' f (.slice (some ⟨gv, 0, none⟩) (x.text.size + 1) (x.text.size + 1)) _ (HSU.out.same (same_of_below (HI.out.below.trans (hS.mono HI.out.below.size))) (fun q hq => Nat.lt_of_lt_of_le hq (Nat.le_trans HI.out.below.size hS.size))) ⟨gv, rfl, HV.out.below (HI.out.below.trans (hS.mono HI.out.below.size)) HV.out.lt⟩ HA.out.1)
          simp only [Hd.cells] at HX
          have HB := hide hS
          clear hS
          go_wp2_with fail
          refine HX.out.mono ?_
          rintro e w3 ⟨v1, tw, rfl, hpl, himg, hfit, hb⟩
          have HB2 := hide (And.intro himg (And.intro hfit (HB.out.trans (hb.mono HB.out.size))))
          have HBO := hide (both_any x.text.size hr.small cur tw (.slice (some ⟨gu, 0, none⟩) (x.text.size + 1) (x.text.size + 1)) v1 w3 (HU.out.next HB2.out.2.2) hpl)
          clear hpl himg hfit hb
          go_wp2_with fail
          refine wpAnyT_last (i := 9) hcl rfl (by kernel_rfl) (by kernel_rfl) (fun hcl => ?_)
          simp only [List.getElem_toArray, List.getElem_cons_zero, List.getElem_cons_succ, Act.put, List.setIfInBounds_toArray, List.set_cons_zero, List.set_cons_succ]
          go_wp2_with fail
          refine HBO.out.mono ?_
          rintro e w4 ⟨v2, rfl, hpl, hb⟩
          have HP := hide (And.intro hpl (HB2.out.2.2.trans (hb.mono HB2.out.2.2.size)))
          clear hpl hb
          go_wp2_with fail
          refine wpAnyT_last (i := 10) hcl rfl (by kernel_rfl) (by kernel_rfl) (fun hcl => ?_)
          simp only [List.getElem_toArray, List.getElem_cons_zero, List.getElem_cons_succ, Act.put, List.setIfInBounds_toArray, List.set_cons_zero, List.set_cons_succ]
          go_wp2_with fail
          refine wpAnyT_done (by kernel_rfl) ?_ _
          go_wp2_with fail
          go_roundw
          case rel => exact ⟨k + 1, cur ||| tw, HP.out.1, by go_num, HI.out.next HS.out HB2.out.1 HB2.out.2.1 HP.out.2 rfl, HJ.out.1.next HP.out.2, HJ.out.2.next HP.out.2⟩
          case measure => simp [intOf]; omega
        · have g1 : decide ((k : Int) < (l.length : Int)) = false := decide_eq_false (by omega)
          go_wp2_with fail
          go_ret
          have hI := HI.out.img
          rw [List.take_of_length_le (by omega)] at hI
          exact ⟨_, cur, rfl, HU.out, hI.congr fun i j => by rw [HRE.out]; exact Iff.rfl, HI.out.fits, HI.out.below⟩
    · -- a group
      have hl1 : l.length = 1 := by have := HK7.out (.inl rfl); omega
      obtain ⟨s, rfl⟩ : ∃ s, l = [s] := by
        match l, hl1 with
        | [s], _ => exact ⟨s, rfl⟩
      have hff := HF.out.2.2.2
      simp only [TL.nodes] at hN
      simp only [TL.form, Bool.and_true] at hff
      simp only [TL.wf, and_true] at hwl
      obtain ⟨b', o, B, c', rfl, hbk, hcs, hsub⟩ := TL.In.at_ (i := 0) (T.In_iff.1 HA.out.2) rfl
      simp only [Nat.zero_mul, Nat.add_zero] at hcs
      have HN := hide hcs
      have HSU := hide hsub
      have HC := hide (ih s (by omega) (by omega) hwl hff)
      clear hcs hsub hff
      have ct := HJ.out.1.cell
      simp only [List.length_cons, List.length_nil, Nat.zero_add] at ct ⊢
      go_upto_region 19 with fail
      clear ct
      refine wp_region_mix (fun y => Below w2.heap.size w2 y) [6] (by kernel_rfl) (fun hcl => ?_)
      have hS : Below w2.heap.size w2 w2.drew := (Below.refl _ _).drew
      refine wpAnyT_free (i := 0) hcl rfl (by kernel_rfl) (v := ?_) (fun _ _ _ h => h) hS (Or.inl ⟨rfl, fun w' _ => ?_⟩) (fun hcl => ?_)
      rotate_left
      · go_simp
        with_reducible rfl
      simp only [List.getElem_toArray, List.getElem_cons_zero, List.getElem_cons_succ, Act.put, List.setIfInBounds_toArray, List.set_cons_zero, List.set_cons_succ]
      refine wpAnyT_take (i := 1) hcl rfl (by kernel_rfl) (v := ?_) (fun _ _ _ h => h) hS (Or.inl ⟨rfl, fun w' hS => ?_⟩) (fun hcl => ?_)
      rotate_left
      · skip
        have ct := (HJ.out.1.below hS HJ.out.1.lt).cell
        go_simp
        with_reducible rfl
      simp only [List.getElem_toArray, List.getElem_cons_zero, List.getElem_cons_succ, Act.put, List.setIfInBounds_toArray, List.set_cons_zero, List.set_cons_succ]
      refine wpAnyT_free (i := 2) hcl rfl (by kernel_rfl) (v := ?_) (fun _ _ _ h => h) hS (Or.inl ⟨rfl, fun w' _ => ?_⟩) (fun hcl => ?_)
      rotate_left
      · go_simp
        with_reducible rfl
      simp only [List.getElem_toArray, List.getElem_cons_zero, List.getElem_cons_succ, Act.put, List.setIfInBounds_toArray, List.set_cons_zero, List.set_cons_succ]
      refine wpAnyT_take (i := 3) hcl rfl (by kernel_rfl) (v := ?_) (fun _ _ _ h => h) hS (Or.inl ⟨rfl, fun w' hS => ?_⟩) (fun hcl => ?_)
      rotate_left
      · skip
        obtain ⟨n0, n1, n2, n3, n4, n5, n6, n7, n8, n9⟩ := (HN.out.same (same_of_below (HL.out.trans (hS.mono HL.out.size))) hbk).node
        go_simp
        with_reducible rfl
      simp only [List.getElem_toArray, List.getElem_cons_zero, List.getElem_cons_succ, Act.put, List.setIfInBounds_toArray, List.set_cons_zero, List.set_cons_succ]
      refine wpAnyT_take (i := 4) hcl rfl (by kernel_rfl) (v := ?_) (fun _ _ _ h => h) hS (Or.inl ⟨rfl, fun w' hS => ?_⟩) (fun hcl => ?_)
      rotate_left
      · skip
        have cs := (HJ.out.2.below hS HJ.out.2.lt).cell
        go_simp
        with_reducible rfl
      simp only [List.getElem_toArray, List.getElem_cons_zero, List.getElem_cons_succ, Act.put, List.setIfInBounds_toArray, List.set_cons_zero, List.set_cons_succ]
      refine wpAnyT_free (i := 5) hcl rfl (by kernel_rfl) (v := ?_) (fun _ _ _ h => h) hS (Or.inl ⟨rfl, fun w' _ => ?_⟩) (fun hcl => ?_)
      rotate_left
      · go_simp
        with_reducible rfl
      simp only [List.getElem_toArray, List.getElem_cons_zero, List.getElem_cons_succ, Act.put, List.setIfInBounds_toArray, List.set_cons_zero, List.set_cons_succ]
      refine wpAnyT_last (i := 6) hcl rfl (by kernel_rfl) (by kernel_rfl) (fun hcl => ?_)
      simp only [List.getElem_toArray, List.getElem_cons_zero, List.getElem_cons_succ, Act.put, List.setIfInBounds_toArray, List.set_cons_zero, List.set_cons_succ]
      have HX := hide (HC.out B c' f (.slice (some ⟨gv, 0, none⟩) (x.text.size + 1) (x.text.size + 1)) _ (HSU.out.same (same_of_below (HL.out.trans (hS.mono HL.out.size))) (fun q hq => Nat.lt_of_lt_of_le hq (Nat.le_trans HL.out.size hS.size))) ⟨gv, rfl, HV.out.below (HL.out.trans (hS.mono HL.out.size)) HV.out.lt⟩ HA.out.1)
      simp only [Hd.cells] at HX
      have HB := hide hS
      clear hS
      go_wp2_with fail
      refine HX.out.mono ?_
      rintro e w3 ⟨v1, tw, rfl, hpl, himg, hfit, hb⟩
      have H2 := hide (And.intro hpl (And.intro himg (And.intro hfit (HL.out.trans ((HB.out.trans (hb.mono HB.out.size)).mono HL.out.size)))))
      clear hpl himg hfit hb
      go_wp2_with fail
      refine wpAnyT_last (i := 7) hcl rfl (by kernel_rfl) (by kernel_rfl) (fun hcl => ?_)
      simp only [List.getElem_toArray, List.getElem_cons_zero, List.getElem_cons_succ, Act.put, List.setIfInBounds_toArray, List.set_cons_zero, List.set_cons_succ]
      go_wp2_with fail
      refine wpAnyT_done (by kernel_rfl) ?_ _
      go_wp2_with fail
      go_ret
      exact ⟨v1, tw, rfl, H2.out.1, H2.out.2.1.congr fun i j => by rw [HRE.out]; exact Iff.rfl, H2.out.2.2.1, H2.out.2.2.2⟩
    · -- a repeat
      have hl1 : l.length = 1 := by have := HK7.out (.inr rfl); omega
      obtain ⟨s, rfl⟩ : ∃ s, l = [s] := by
        match l, hl1 with
        | [s], _ => exact ⟨s, rfl⟩
      have hff := HF.out.2.2.2
      simp only [TL.nodes] at hN
      simp only [TL.form, Bool.and_true] at hff
      simp only [TL.wf, and_true] at hwl
      obtain ⟨r1, r2, r3⟩ := Hd.rep_bd HF.out.2.2.1 rfl
      simp only at r1 r2 r3
      obtain ⟨q, hq⟩ : ∃ q : Nat, mn = q := ⟨mn.toNat, by omega⟩
      subst hq
      have HC := hide (refRounds_any hr hn 8 s0 s1 s2 s3 num mx bare q s A c f (.slice (some ⟨gv, 0, none⟩) (x.text.size + 1) (x.text.size + 1)) w2 (ih s (by omega) (by omega) hwl hff) (by omega) r3 (HA.out.2.same (same_of_below HL.out) (fun y hy => Nat.lt_of_lt_of_le hy HL.out.size)) ⟨gv, rfl, HV.out.below HL.out HV.out.lt⟩ HA.out.1)
      have ct := HJ.out.1.cell
      have cs := HJ.out.2.cell
      simp only [List.length_cons, List.length_nil, Nat.zero_add] at ct ⊢
      go_wp2_with fail
      refine HC.out.mono ?_
      rintro e w3 ⟨v1, tw, rfl, hpl, himg, hfit, hb⟩
      have H2 := hide (And.intro hpl (And.intro himg (And.intro hfit (HL.out.trans (hb.mono HL.out.size)))))
      clear hpl himg hfit hb
      go_wp2_with fail
      go_ret
      exact ⟨v1, tw, rfl, H2.out.1, H2.out.2.1.congr fun i j => by rw [HRE.out]; exact Iff.rfl, H2.out.2.2.1, H2.out.2.2.2⟩

end Go.Proofs.YtgpmiflfgpnhaaaDoor
