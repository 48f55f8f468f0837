/- Ends: reach.Ends: where the pieces end that a tree takes from a place on. (Printed by gen_ends.py.)
AlgLaw: The plain law of ReachAlgebra: seven pairs of trees that take the same pieces; trees in memory that is kept. -/
import Derived.Test.YtkghlebfmggidaaDoorReach
import Derived.Test.YtkghlebfmggidaaDoorInts
import Derived.Test.YtkghlebfmggidaaDoorMake2
set_option linter.unusedSimpArgs false
set_option linter.unusedVariables false
set_option linter.unnecessarySimpa false

/-! ## Ends -/
namespace Go.Proofs.YtkghlebfmggidaaDoor
open Go.RowKit

/-- The ends, rising, from place i on. -/
def EndsOf (R : Nat → Nat → Prop) (n i : Nat) (l : List Int) : Prop := ∃ tw, Img R (2 ^ i) tw ∧ Fits n tw ∧ l = (places tw).map fun k : Nat => (k : Int)

theorem EndsOf.eq {R R' : Nat → Nat → Prop} {n n' i : Nat} {l l' : List Int} (h : EndsOf R n i l) (h' : EndsOf R' n' i l') (e : ∀ j, R i j ↔ R' i j) : l = l' := by
  obtain ⟨tw, h1, _, rfl⟩ := h
  obtain ⟨tw', h2, _, rfl⟩ := h'
  have : tw = tw' := Nat.eq_of_testBit_eq fun j => by rw [Bool.eq_iff_iff, one_img h1, one_img h2, e]
  rw [this]
theorem EndsOf.mem {R : Nat → Nat → Prop} {n i : Nat} {l : List Int} (h : EndsOf R n i l) (hn : n ≤ 63) (j : Nat) : (j : Int) ∈ l ↔ R i j := by
  obtain ⟨tw, h1, h2, rfl⟩ := h
  rw [← one_img h1]
  constructor
  · intro hm
    obtain ⟨k, hk, e⟩ := List.mem_map.1 hm
    obtain rfl : k = j := by omega
    exact (mem_places.1 hk).2
  · intro hb
    exact List.mem_map.2 ⟨j, mem_places.2 ⟨by have := h2 j hb; omega, hb⟩, rfl⟩
theorem EndsOf.nat {R : Nat → Nat → Prop} {n i : Nat} {l : List Int} (h : EndsOf R n i l) {x : Int} (hx : x ∈ l) : ∃ j : Nat, x = j ∧ j ≤ n := by
  obtain ⟨tw, h1, h2, rfl⟩ := h
  obtain ⟨k, hk, e⟩ := List.mem_map.1 hx
  exact ⟨k, e.symm, h2 k (mem_places.1 hk).2⟩
theorem EndsOf.short {R : Nat → Nat → Prop} {n i : Nat} {l : List Int} (h : EndsOf R n i l) : l.length ≤ 64 := by
  obtain ⟨tw, h1, h2, rfl⟩ := h
  simpa using places_length tw

theorem below_grown {B : Nat} {w wr w' : World} {row : Option Nat} (h : Below B w wr) (hg : wr.grownBy w' row) (hB : B ≤ w.heap.size) (hr : ∀ g, row = some g → B ≤ g) : Below B w w' :=
  ⟨hg.os.trans h.os, hg.tape.trans h.tape, hg.output.trans h.output, Nat.le_trans h.size hg.size, fun b hb => (hg.block b (by have := h.size; omega) (fun e => by have := hr b e.symm; omega)).trans (h.block b hb)⟩

/-- What Ends answers. -/
def Ended (t : T) (x : Sc) (p : Int) (a : Nat → Addr) (w : World) (e : Ending) (w' : World) : Prop :=
  ∃ (v : Value) (r : List Int), e = .returned (.tuple #[v, errOf a (asked t x [p])]) ∧ OwnInts w.heap.size w' v r ∧ (asked t x [p] = none → EndsOf (t.R x) x.len p.toNat r) ∧ (asked t x [p] ≠ none → r = []) ∧ Below w.heap.size w w'

set_option maxRecDepth 100000 in
set_option maxHeartbeats 2000000 in
theorem ends_any {x : Sc} {b m : Nat} (t : T) (A : Option Addr) (c : Nat) (p : Int) (w : World) (a : Nat → Addr) (hN : t.nodes ≤ 1000000) (hwf : t.wf) (hin : T.In w (· < w.heap.size) t A) (hscn : Scn w b m x) (hE : Env w a) (hp : IsI64 p) :
    Calls Tryd.prog 15 #[.agg (t.hd.cells (.slice A t.subs.length c)).toArray, .pointer (some ⟨b, 0, none⟩), .int .i64 p] w (Ended t x p a w) := by
  have hne := fun y ad => run_neq_iface_nil (P := Tryd.prog) (w := y) 33 (by kernel_rfl) 83 (.pointer (some ad))
  have hnn := fun y => run_neq_nil_nil_at (P := Tryd.prog) (w := y) 33 (by kernel_rfl)
  have HD := hide (show ∀ e w', (∃ (v : Value) (r : List Int), e = .returned (.tuple #[v, errOf a (asked t x [p])]) ∧ OwnInts w.heap.size w' v r ∧ (asked t x [p] = none → EndsOf (t.R x) x.len p.toNat r) ∧ (asked t x [p] ≠ none → r = []) ∧ Below w.heap.size w w') → Ended t x p a w e w' from fun e w' h => h)
  have HN := hide (@asked_none t x [p])
  have HA := hide (fun g y (hy : Below w.heap.size w y) hg => asked_any (x := x) (b := b) (m := m) t A c [p] g 1 y a hN (hin.same (same_of_below hy) (fun z hz => Nat.lt_of_lt_of_le hz hy.size)) (hscn.below hy) (hE.below hy) hg (by simp [hp]) (by simp))
  have HSt := hide (fun (hn : x.len ≤ 63) (hf : t.form = true) => step_any 1000000 (b := b) (m := m) hn t hN (by decide) hwf hf A c)
  have HFc := hide (@T.form_of_check t)
  have HH := hide (And.intro hscn (And.intro hE hin))
  clear hscn hE hin hwf hN
  generalize asked t x [p] = res at *
  generalize t.check = ck at *
  generalize t.form = fo at *
  generalize t.R x = R at *
  generalize Ended t x p a w = Post at *
  obtain ⟨h, l⟩ := t
  obtain ⟨kind, s0, s1, s2, s3, num, mn, mx, bare⟩ := h
  simp only [T.hd, T.subs, Hd.cells, List.length_cons, List.length_nil, Nat.zero_add, Nat.reduceAdd, List.map_cons, List.map_nil] at HA HSt ⊢
  obtain ⟨hp1, hp2⟩ := hp
  go_enter Tryd.func15, Tryd.ntmps15
  go_wp2_with fail
  refine (HA.out _ _ (((Below.refl w.heap.size w).alloc (Nat.le_refl _) _).alloc (by simp) _) (by simpa using Blk.new (w.alloc _) _ _)).mono ?_
  rintro e w1 ⟨rfl, hb⟩
  have hz := hb.size
  simp only [World.size_alloc] at hz
  have hbt := ((Blk.new w 27 #[.int .i64 kind, .int .u64 s0, .int .u64 s1, .int .u64 s2, .int .u64 s3, .slice A l.length c, .int .i64 num, .int .i64 mn, .int .i64 mx, .bool bare]).alloc (.cells #[.int .i64 p] 3)).below hb (by simp; omega)
  have hbel := (((Below.refl w.heap.size w).alloc (Nat.le_refl _) (.cells #[.int .i64 kind, .int .u64 s0, .int .u64 s1, .int .u64 s2, .int .u64 s3, .slice A l.length c, .int .i64 num, .int .i64 mn, .int .i64 mx, .bool bare] 27)).alloc (by simp) (.cells #[.int .i64 p] 3)).trans (hb.mono (by simp; omega))
  clear hb HA
  cases res with
  | some g =>
    have HB := hide hbel
    clear hbel hbt
    simp only [errOf, errV] at HD ⊢
    go_wp2_with fail
    exact HD.out _ _ ⟨.slice none 0 0, [], rfl, OwnInts.nil _ _, (fun h => by cases h), fun _ => rfl, HB.out⟩
  | none =>
    obtain ⟨hck, hn, hps⟩ := HN.out.1 (by first | rfl | trivial)
    have hf := HFc.out hck
    have hpp := hps p (by simp)
    obtain ⟨i, hi⟩ : ∃ i : Nat, p = i := ⟨p.toNat, by omega⟩
    subst hi
    simp only [errOf] at HD ⊢
    have hsw := wrap_two (k := i) (by omega)
    have hpb := two_pow_lt (i := i) (by omega)
    obtain ⟨f, hf2⟩ : ∃ f, 2 ^ i = f := ⟨_, rfl⟩
    rw [hf2] at hsw hpb
    have hi64 : i < 64 := by omega
    have HF := hide (And.intro hf2 hpp)
    clear hck hps hpp HN HFc hf2
    go_upto_region 5 with fail
    refine wp_region_mix (fun y => Below w1.heap.size w1 y) [5] (by kernel_rfl) (fun hcl => ?_)
    have hS : Below w1.heap.size w1 w1.drew := (Below.refl _ _).drew
    refine wpAnyT_free (i := 0) hcl rfl (by kernel_rfl) (v := ?_) (fun _ _ _ h => h) hS (Or.inl ⟨rfl, fun w' _ => ?_⟩) (fun hcl => ?_)
    rotate_left
    · go_simp
      with_reducible rfl
    simp only [List.getElem_toArray, List.getElem_cons_zero, List.getElem_cons_succ, Act.put, List.setIfInBounds_toArray, List.set_cons_zero, List.set_cons_succ]
    refine wpAnyT_free (i := 1) hcl rfl (by kernel_rfl) (v := ?_) (fun _ _ _ h => h) hS (Or.inl ⟨rfl, fun w' _ => ?_⟩) (fun hcl => ?_)
    rotate_left
    · go_simp
      with_reducible rfl
    simp only [List.getElem_toArray, List.getElem_cons_zero, List.getElem_cons_succ, Act.put, List.setIfInBounds_toArray, List.set_cons_zero, List.set_cons_succ]
    refine wpAnyT_take (i := 2) hcl rfl (by kernel_rfl) (v := ?_) (fun _ _ _ h => h) hS (Or.inl ⟨rfl, fun w' hS => ?_⟩) (fun hcl => ?_)
    rotate_left
    · skip
      have ct := (hbt.below hS hbt.lt).cell
      go_simp
      with_reducible rfl
    simp only [List.getElem_toArray, List.getElem_cons_zero, List.getElem_cons_succ, Act.put, List.setIfInBounds_toArray, List.set_cons_zero, List.set_cons_succ]
    refine wpAnyT_free (i := 3) hcl rfl (by kernel_rfl) (v := ?_) (fun _ _ _ h => h) hS (Or.inl ⟨rfl, fun w' _ => ?_⟩) (fun hcl => ?_)
    rotate_left
    · go_simp
      with_reducible rfl
    simp only [List.getElem_toArray, List.getElem_cons_zero, List.getElem_cons_succ, Act.put, List.setIfInBounds_toArray, List.set_cons_zero, List.set_cons_succ]
    refine wpAnyT_free (i := 4) hcl rfl (by kernel_rfl) (v := ?_) (fun _ _ _ h => h) hS (Or.inl ⟨rfl, fun w' _ => ?_⟩) (fun hcl => ?_)
    rotate_left
    · go_simp
      with_reducible rfl
    simp only [List.getElem_toArray, List.getElem_cons_zero, List.getElem_cons_succ, Act.put, List.setIfInBounds_toArray, List.set_cons_zero, List.set_cons_succ]
    refine wpAnyT_last (i := 5) hcl rfl (by kernel_rfl) (by kernel_rfl) (fun hcl => ?_)
    simp only [List.getElem_toArray, List.getElem_cons_zero, List.getElem_cons_succ, Act.put, List.setIfInBounds_toArray, List.set_cons_zero, List.set_cons_succ]
    have HX := hide (HSt.out hn hf f _ (HH.out.2.2.same ((same_of_below hbel).trans ((same_of_below hS).mono fun y hy => Nat.lt_of_lt_of_le hy hbel.size)) (fun y hy => Nat.lt_of_lt_of_le hy (Nat.le_trans hbel.size hS.size))) ((HH.out.1.below hbel).below hS) ((HH.out.2.1.below hbel).below hS).tab (by rw [← HF.out.1]; exact one_fits (by have := HF.out.2; omega)))
    have HB := hide (hbel.trans (hS.mono hbel.size))
    clear hS hbel hbt HSt
    go_wp2_with fail
    refine HX.out.mono ?_
    rintro e w2 ⟨tw, rfl, himg, hfit, hb⟩
    have H2 := hide (And.intro himg (And.intro hfit (HB.out.trans (hb.mono HB.out.size))))
    clear himg hfit hb HX
    go_wp2_with fail
    refine wpAnyT_last (i := 6) hcl rfl (by kernel_rfl) (by kernel_rfl) (fun hcl => ?_)
    simp only [List.getElem_toArray, List.getElem_cons_zero, List.getElem_cons_succ, Act.put, List.setIfInBounds_toArray, List.set_cons_zero, List.set_cons_succ]
    go_wp2_with fail
    refine wpAnyT_done (by kernel_rfl) ?_ _
    go_wp2_with fail
    go_loopw [9, 10] (fun lv wv wr => ∃ (done : List Int) (ww : Nat), wv = .int .u64 ww ∧ OwnInts w.heap.size wr lv done ∧ done ++ (places ww).map (fun k : Nat => (k : Int)) = (places tw).map (fun k : Nat => (k : Int)) ∧ Fits x.len ww ∧ Below w.heap.size w wr) (fun _ wv _ => (intOf wv).toNat)
    case atStart => exact ⟨[], tw, rfl, OwnInts.nil _ _, rfl, H2.out.2.1, H2.out.2.2⟩
    case round =>
      obtain ⟨done, ww, rfl, hown, heq, hlow, hbel⟩ := hrel
      by_cases hw : ww = 0
      · subst hw
        have HO := hide (And.intro hown (And.intro heq hbel))
        clear hown heq hbel hlow
        go_wp2_with fail
        refine HD.out _ _ ⟨_, done, rfl, HO.out.1, fun _ => ⟨tw, ?_, H2.out.2.1, ?_⟩, fun h => absurd rfl h, HO.out.2.2⟩
        · show Img R (2 ^ i) tw
          rw [HF.out.1]
          exact H2.out.1
        · have := HO.out.2.1
          rwa [places_zero, List.map_nil, List.append_nil] at this
      · have hlt := hlow.lt hn
        obtain ⟨l1, l2, l3⟩ := low_bit hw hlt
        have g1 : ((ww : Int) != 0) = true := by simp [hw]
        have HTz := hide (tz_any ww hw hlt wr (HH.out.2.1.below hbel).tab)
        have hpc := places_cons hw hlt
        have hcl := clear_lt hw hlt
        have hfc : Fits x.len (ww &&& (ww - 1)) := fun q hq => hlow q (by rw [clear_low hw hlt] at hq; simp only [Bool.and_eq_true] at hq; exact hq.1)
        have hclr := word_clear hw hlt
        have hlen : done.length < 1000000 := by
          have h1 := congrArg List.length heq
          simp only [List.length_append, List.length_map] at h1
          have := places_length tw
          omega
        generalize Lib.ctz 64 ww = k at *
        generalize ww &&& (ww - 1) = w3 at *
        have hrow : ∀ g, Value.ownBlock u9 = some g → w.heap.size ≤ g := fun g hg => (World.ownsRow.lt hown g hg).1
        have HO := hide (And.intro hown (And.intro heq (And.intro hbel (And.intro hpc (And.intro hcl (And.intro hfc hrow))))))
        have hsz := hbel.size
        have hoA := hide (hown.below ((Below.refl wr.heap.size wr).alloc (Nat.le_refl _) (.cells #[.int .i64 (k : Int)] 3)) (Nat.le_refl _))
        clear hown heq hbel hpc hcl hfc hrow l1 l2 l3 hlow
        go_wp2_with fail
        refine HTz.out.mono ?_
        rintro e w4 ⟨rfl, rfl⟩
        go_wp2_with (at_builtin; refine wpList_append_int rfl _ _ rfl w.heap.size _ done rfl hoA.out (k : Int) wr.heap.size 1 rfl (Blk.new _ _ _) hlen (by simp; omega) ?_)
        intro v' w5 hown5 hg5
        have hb5 := below_grown (HO.out.2.2.1.alloc (by omega) (.cells #[.int .i64 (k : Int)] 3)) hg5 (Nat.le_refl _) HO.out.2.2.2.2.2.2
        have HO5 := hide (And.intro hown5 hb5)
        clear hown5 hb5 hg5 hoA
        go_wp2_with fail
        go_roundw
        case rel =>
          refine ⟨done ++ [(k : Int)], w3, rfl, HO5.out.1, ?_, HO.out.2.2.2.2.2.1, HO5.out.2⟩
          rw [← HO.out.2.1, HO.out.2.2.2.1]
          simp
        case measure =>
          have := HO.out.2.2.2.2.1
          simp [intOf]
          exact this
end Go.Proofs.YtkghlebfmggidaaDoor

/-! ## AlgLaw -/
namespace Go.Proofs.YtkghlebfmggidaaDoor
open Go.RowKit

/-! ### The pairs -/
def tseq (l : List T) : T := .mk ⟨5, 0, 0, 0, 0, 0, 0, 0, false⟩ l
def talt (l : List T) : T := .mk ⟨6, 0, 0, 0, 0, 0, 0, 0, false⟩ l
def trep (a : T) (mn mx : Int) : T := .mk ⟨8, 0, 0, 0, 0, 0, mn, mx, false⟩ [a]
def tnil : T := .mk ⟨1, 0, 0, 0, 0, 0, 0, 0, false⟩ []
def tnone : T := .mk ⟨2, 0, 0, 0, 0, 0, 0, 0, false⟩ []

def pairs (a b : T) : List (T × T) :=
  [(talt [a, b], talt [b, a]), (tseq [tseq [a, b], a], tseq [a, tseq [b, a]]), (tseq [a, tnil], a), (talt [a, tnone], a), (trep (trep a 0 (-1)) 0 (-1), trep a 0 (-1)), (trep a 0 1, talt [tnil, a]), (tseq [talt [a, b], a], talt [tseq [a, a], tseq [b, a]])]

theorem rseq_R (x : Sc) (l : List T) (i j : Nat) : (tseq l).R x i j ↔ TL.Rseq x l i j := by rw [T.R_eq]; simp [tseq, T.hd, T.subs]
theorem ralt_R (x : Sc) (l : List T) (i j : Nat) : (talt l).R x i j ↔ TL.Ralt x l i j := by rw [T.R_eq]; simp [talt, T.hd, T.subs]
theorem rnil_R (x : Sc) (i j : Nat) : tnil.R x i j ↔ i = j := by rw [T.R_eq]; simp [tnil, T.hd]
theorem rnone_R (x : Sc) (i j : Nat) : ¬ tnone.R x i j := by
  rw [T.R_eq]
  have : ∀ b, tnone.hd.has b = false := fun b => by
    unfold Hd.has
    have : tnone.hd.word (b / 64) = 0 := by unfold Hd.word; simp [tnone, T.hd]
    rw [this]
    simp
  simp only [this]
  simp [tnone, T.hd]
theorem rrep_R (x : Sc) (a : T) (mn mx : Int) (i j : Nat) : (trep a mn mx).R x i j ↔ ∃ k : Nat, mn ≤ k ∧ (mx = -1 ∨ (k : Int) ≤ mx) ∧ Iter (a.R x) k i j := by
  rw [T.R_eq]; simp [trep, T.hd, T.subs, TL.Rone]

theorem iter_star {R : Nat → Nat → Prop} {i j : Nat} : (∃ k, Iter (fun i j => ∃ q, Iter R q i j) k i j) ↔ ∃ q, Iter R q i j := by
  constructor
  · rintro ⟨k, h⟩
    induction k generalizing j with
    | zero => exact ⟨0, h⟩
    | succ k ih =>
      obtain ⟨m, h1, q, h2⟩ := h
      obtain ⟨p, h3⟩ := ih h1
      exact ⟨p + q, Iter.add.2 ⟨m, h3, h2⟩⟩
  · rintro ⟨q, h⟩
    exact ⟨1, i, rfl, q, h⟩

theorem pairs_same (a b : T) (x : Sc) (p : T × T) (hp : p ∈ pairs a b) (i j : Nat) : p.1.R x i j ↔ p.2.R x i j := by
  simp only [pairs, List.mem_cons, List.not_mem_nil, or_false] at hp
  rcases hp with e | e | e | e | e | e | e <;> subst e
  · simp only [ralt_R, TL.Ralt, or_false]; exact or_comm
  · simp only [rseq_R, TL.Rseq]
    constructor
    · rintro ⟨m, ⟨p, h1, q, h2, h3⟩, r, h4, h5⟩
      subst h3; subst h5
      exact ⟨p, h1, _, ⟨_, h2, _, h4, rfl⟩, rfl⟩
    · rintro ⟨p, h1, r, ⟨m, h2, q, h4, h3⟩, h5⟩
      subst h3; subst h5
      exact ⟨m, ⟨p, h1, m, h2, rfl⟩, _, h4, rfl⟩
  · simp only [rseq_R, TL.Rseq, rnil_R]
    constructor
    · rintro ⟨m, h1, q, h2, h3⟩; subst h2; subst h3; exact h1
    · intro h; exact ⟨j, h, j, rfl, rfl⟩
  · simp only [ralt_R, TL.Ralt, or_false]
    constructor
    · rintro (h | h)
      · exact h
      · exact absurd h (rnone_R x i j)
    · exact .inl
  · have h1 : ∀ i j, (trep a 0 (-1)).R x i j ↔ ∃ q, Iter (a.R x) q i j := fun i j => by
      rw [rrep_R]
      constructor
      · rintro ⟨k, _, _, h⟩; exact ⟨k, h⟩
      · rintro ⟨k, h⟩; exact ⟨k, by omega, .inl rfl, h⟩
    have h2 : (trep a 0 (-1)).R x = fun i j => ∃ q, Iter (a.R x) q i j := by funext i j; exact propext (h1 i j)
    show (trep (trep a 0 (-1)) 0 (-1)).R x i j ↔ _
    rw [rrep_R, h1, h2, ← iter_star]
    constructor
    · rintro ⟨k, _, _, h⟩; exact ⟨k, h⟩
    · rintro ⟨k, h⟩; exact ⟨k, by omega, .inl rfl, h⟩
  · simp only [ralt_R, TL.Ralt, or_false, rnil_R]
    show (trep a 0 1).R x i j ↔ _
    rw [rrep_R]
    constructor
    · rintro ⟨k, _, h1, h⟩
      have : k = 0 ∨ k = 1 := by omega
      rcases this with e | e <;> subst e
      · exact .inl h
      · exact .inr (Iter.one.1 h)
    · rintro (h | h)
      · exact ⟨0, by omega, .inr (by omega), h⟩
      · exact ⟨1, by omega, .inr (by omega), Iter.one.2 h⟩
  · simp only [rseq_R, ralt_R, TL.Rseq, TL.Ralt, or_false]
    constructor
    · rintro ⟨m, h1 | h1, h2⟩
      · exact .inl ⟨m, h1, h2⟩
      · exact .inr ⟨m, h1, h2⟩
    · rintro (⟨m, h1, h2⟩ | ⟨m, h1, h2⟩)
      · exact ⟨m, .inl h1, h2⟩
      · exact ⟨m, .inr h1, h2⟩

theorem pairs_fit (a b : T) (ha : a.wf) (hb : b.wf) (na : a.nodes ≤ 2500) (nb : b.nodes ≤ 2500) (p : T × T) (hp : p ∈ pairs a b) : p.1.wf ∧ p.2.wf ∧ p.1.nodes ≤ 1000000 ∧ p.2.nodes ≤ 1000000 := by
  simp only [pairs, List.mem_cons, List.not_mem_nil, or_false] at hp
  rcases hp with e | e | e | e | e | e | e <;> subst e <;>
    simp [talt, tseq, trep, tnil, tnone, T.wf, TL.wf, Hd.wf, IsI64, IsU64, T.nodes, TL.nodes, ha, hb] <;> omega

/-- The list of pairs lies in block g. -/
def PairsIn (w : World) (g : Nat) (l : List (T × T)) : Prop :=
  g < w.heap.size ∧ ∀ k p, l[k]? = some p → ∃ B c C d, CellsAt w ⟨g, k * 20, none⟩ (p.1.hd.cells (.slice B p.1.subs.length c)) ∧ CellsAt w ⟨g, k * 20 + 10, none⟩ (p.2.hd.cells (.slice C p.2.subs.length d)) ∧ T.In w (· < w.heap.size) p.1 B ∧ T.In w (· < w.heap.size) p.2 C
theorem PairsIn.next {w w' : World} {g : Nat} {l : List (T × T)} (h : PairsIn w g l) (hb : Below w.heap.size w w') : PairsIn w' g l := by
  refine ⟨Nat.lt_of_lt_of_le h.1 hb.size, fun k p hp => ?_⟩
  obtain ⟨B, c, C, d, h1, h2, h3, h4⟩ := h.2 k p hp
  exact ⟨B, c, C, d, h1.same (same_of_below hb) h.1, h2.same (same_of_below hb) h.1, h3.next hb, h4.next hb⟩
/-- Ends of a sound tree at a place in the text: it answers the list. -/
theorem ends_fine {x : Sc} {b m : Nat} (t : T) (A : Option Addr) (c : Nat) (p : Int) (a : Nat → Addr) (hN : t.nodes ≤ 1000000) (hwf : t.wf) (hp : IsI64 p) (hl : x.len ≤ 63) (h0 : 0 ≤ p) (h1 : p ≤ x.len) (hck : t.check = none) (w : World) (hin : T.In w (· < w.heap.size) t A) (hscn : Scn w b m x) (hE : Env w a) :
    Calls Tryd.prog 15 #[.agg (t.hd.cells (.slice A t.subs.length c)).toArray, .pointer (some ⟨b, 0, none⟩), .int .i64 p] w fun e w' =>
      ∃ (v : Value) (r : List Int), e = .returned (.tuple #[v, .nilIface]) ∧ OwnInts w.heap.size w' v r ∧ EndsOf (t.R x) x.len p.toNat r ∧ Below w.heap.size w w' := by
  have ha : asked t x [p] = none := asked_none.2 ⟨hck, hl, by simp; omega⟩
  refine (ends_any t A c p w a hN hwf hin hscn hE hp).mono fun e w' h => ?_
  obtain ⟨v, r, h1, h2, h3, _, h5⟩ := h
  rw [ha] at h1 h3
  exact ⟨v, r, h1, h2, h3 rfl, h5⟩
end Go.Proofs.YtkghlebfmggidaaDoor
