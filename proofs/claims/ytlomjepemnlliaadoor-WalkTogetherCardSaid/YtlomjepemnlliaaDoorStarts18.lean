/- walk.Starts. (Printed by gen_starts18.py.) -/
import Derived.Test.YtlomjepemnlliaaDoorBack18
set_option linter.unusedSimpArgs false
set_option linter.unusedVariables false
namespace Go.Proofs.YtlomjepemnlliaaDoor
open Go.RowKit

/-- The places from the end down, d of them, at which a piece begins. -/
def backL (p : Po) (x : Sc) : Nat → List Int
  | 0 => []
  | d + 1 => backL p x d ++ if startAt p x (x.len - d) = true then [((x.len - d : Nat) : Int)] else []
theorem backL_len (p : Po) (x : Sc) : ∀ d, (backL p x d).length ≤ d
  | 0 => Nat.le_refl _
  | d + 1 => by
    rw [backL, List.length_append]
    have := backL_len p x d
    split <;> simp <;> omega
theorem startList_cons {p : Po} {x : Sc} {a : Nat} (ha : a ≤ x.len) : startList p x a = (if startAt p x a = true then [(a : Int)] else []) ++ startList p x (a + 1) := by
  unfold startList
  rw [show x.len + 1 - a = (x.len + 1 - (a + 1)) + 1 by omega, List.range_succ_eq_map, List.filter_cons, List.filter_map]
  have hm : (fun d : Nat => startAt p x (a + d)) ∘ Nat.succ = fun d => startAt p x (a + 1 + d) := by
    funext d
    show startAt p x (a + (d + 1)) = _
    rw [show a + (d + 1) = a + 1 + d by omega]
  have hc : (fun d : Nat => ((a + d : Nat) : Int)) ∘ Nat.succ = fun d => ((a + 1 + d : Nat) : Int) := by
    funext d
    show ((a + (d + 1) : Nat) : Int) = _
    rw [show a + (d + 1) = a + 1 + d by omega]
  rw [hm]
  by_cases h : startAt p x a = true
  · rw [if_pos h, Nat.add_zero, if_pos h, List.map_cons, List.map_map, hc]
    rfl
  · rw [if_neg h, Nat.add_zero, if_neg h, List.map_map, hc]
    rfl
theorem startList_end {p : Po} {x : Sc} {a : Nat} (ha : x.len < a) : startList p x a = [] := by
  unfold startList
  rw [show x.len + 1 - a = 0 by omega]
  rfl
theorem backL_rev (p : Po) (x : Sc) : ∀ k, k ≤ x.len + 1 → (backL p x k).reverse = startList p x (x.len + 1 - k)
  | 0, _ => by rw [startList_end (by omega)]; rfl
  | k + 1, hk => by
    rw [backL, List.reverse_append, backL_rev p x k (by omega), startList_cons (a := x.len + 1 - (k + 1)) (by omega)]
    have e : x.len + 1 - (k + 1) = x.len - k := by omega
    rw [e, show x.len - k + 1 = x.len + 1 - k by omega]
    split <;> rfl

/-- What Starts answers. -/
def Started18 (p : Po) (x : Sc) (q : Int) (a : Nat → Addr) (w : World) (e : Ending) (w' : World) : Prop :=
  ∃ (g : Option Nat) (v : Value) (r : List Int), e = .returned (.tuple #[v, walkErr a g]) ∧ Asked18 p x q g ∧ OwnInts w.heap.size w' v r ∧ (g = none → r = startList p x q.toNat) ∧ (g ≠ none → r = []) ∧ Below w.heap.size w w'

/-- What the walk back keeps. -/
structure BkAt (p : Po) (pa : PoA) (w : World) (gd : Nat) (G : Nat → Bool) (v : Value) (l : List Int) (wr : World) : Prop where
  below : Below w.heap.size w wr
  box : Blk wr w.heap.size 26 (p.cells pa).toArray
  row : BoRow wr gd p.sets.length G
  own : OwnInts w.heap.size wr v l
section
variable {p : Po} {pa : PoA} {w wr w' : World} {gd gb : Nat} {G H : Nat → Bool} {v : Value} {l : List Int}
theorem BkAt.next (h : BkAt p pa w gd G v l wr) (hb : Below wr.heap.size wr w') : BkAt p pa w gd G v l w' :=
  ⟨h.below.trans (hb.mono h.below.size), h.box.nxt hb, h.row.next hb, h.own.below hb (Nat.le_refl _)⟩
theorem BkAt.setB (h : BkAt p pa w gd G v l wr) (hr : BoRow wr gb p.sets.length H) (hne : gb ≠ gd) (hw : w.heap.size < gb) (q : Nat) (b : Bool) : BkAt p pa w gd G v l (wr.setCell ⟨gb, q, none⟩ (.bool b)) := by
  obtain ⟨row, hb, _⟩ := hr
  refine ⟨h.below.setCell (by show w.heap.size ≤ gb; omega) _, h.box.far (by show w.heap.size ≠ gb; omega) _, h.row.far (fun e => hne e.symm) _, h.own.same ((Same.refl (· ≠ gb) wr).set (fun h => h rfl) _) (fun g hg => h.own.ne_type hb (by decide) g hg)⟩
theorem BkAt.setG (h : BkAt p pa w gd G v l wr) (hw : w.heap.size < gd) {q : Nat} (hq : q < p.sets.length) (b : Bool) : BkAt p pa w gd (fun j => if j = q then b else G j) v l (wr.setCell ⟨gd, q, none⟩ (.bool b)) := by
  have hr := h.row
  obtain ⟨row, hb, _⟩ := hr
  exact ⟨h.below.setCell (by show w.heap.size ≤ gd; omega) _, h.box.far (by show w.heap.size ≠ gd; omega) _, h.row.set q b hq, h.own.same ((Same.refl (· ≠ gd) wr).set (fun h => h rfl) _) (fun g hg => h.own.ne_type hb (by decide) g hg)⟩
theorem BkAt.congr (h : BkAt p pa w gd G v l wr) (e : ∀ q, q < p.sets.length → G q = H q) : BkAt p pa w gd H v l wr := ⟨h.below, h.box, h.row.congr e, h.own⟩
end

/-- Within a place: the truths of the positions behind, too. -/
structure Bk2 (p : Po) (pa : PoA) (w : World) (gd gb : Nat) (G H : Nat → Bool) (v : Value) (l : List Int) (wr : World) : Prop where
  bk : BkAt p pa w gd G v l wr
  row : BoRow wr gb p.sets.length H
  low : w.heap.size < gd
  lt : gd < gb
section
variable {p : Po} {pa : PoA} {w wr w' : World} {gd gb : Nat} {G H K : Nat → Bool} {v : Value} {l : List Int}
theorem Bk2.next (h : Bk2 p pa w gd gb G H v l wr) (hb : Below wr.heap.size wr w') : Bk2 p pa w gd gb G H v l w' := ⟨h.bk.next hb, h.row.next hb, h.low, h.lt⟩
theorem Bk2.drew (h : Bk2 p pa w gd gb G H v l wr) : Bk2 p pa w gd gb G H v l wr.drew := h.next (Below.refl _ _).drew
theorem Bk2.setB (h : Bk2 p pa w gd gb G H v l wr) (q : Nat) (hq : q < p.sets.length) (b : Bool) : Bk2 p pa w gd gb G (fun j => if j = q then b else H j) v l (wr.setCell ⟨gb, q, none⟩ (.bool b)) :=
  ⟨h.bk.setB h.row (by have := h.lt; omega) (by have := h.lt; have := h.low; omega) q b, h.row.set q b hq, h.low, h.lt⟩
theorem Bk2.setG (h : Bk2 p pa w gd gb G H v l wr) (q : Nat) (hq : q < p.sets.length) (b : Bool) : Bk2 p pa w gd gb (fun j => if j = q then b else G j) H v l (wr.setCell ⟨gd, q, none⟩ (.bool b)) :=
  ⟨h.bk.setG h.low hq b, h.row.far (by show gb ≠ gd; have := h.lt; omega) _, h.low, h.lt⟩
theorem Bk2.congr (h : Bk2 p pa w gd gb G H v l wr) (e : ∀ q, q < p.sets.length → H q = K q) : Bk2 p pa w gd gb G K v l wr := ⟨h.bk, h.row.congr e, h.low, h.lt⟩
theorem Bk2.congrG (h : Bk2 p pa w gd gb G H v l wr) (e : ∀ q, q < p.sets.length → G q = K q) : Bk2 p pa w gd gb K H v l wr := ⟨h.bk.congr e, h.row, h.low, h.lt⟩
theorem Bk2.push {A : Option Addr} {n c : Nat} {v' : Value} {j : Int} {o : Obj} (h : Bk2 p pa w gd gb G H (.slice A n c) l (wr.alloc o)) (ho : OwnInts w.heap.size w' v' (l ++ [j])) (hg : (wr.alloc o).grownBy w' (Value.slice A n c).ownBlock) : Bk2 p pa w gd gb G H v' (l ++ [j]) w' := by
  have hb := below_grew h.bk.below hg (Nat.le_refl _) (fun g hg => (World.ownsRow.lt h.bk.own g hg).1)
  have h1 : ∀ {q K}, BoRow (wr.alloc o) q p.sets.length K → BoRow w' q p.sets.length K := fun {q K} hr => by
    obtain ⟨row, h1, h2⟩ := hr
    exact ⟨row, h1.grown hg (fun e => h.bk.own.ne_type h1 (by decide) q e.symm rfl), h2⟩
  exact ⟨⟨hb, h.bk.box.grown hg (fun e => h.bk.own.ne_type h.bk.box (by decide) _ e.symm rfl), h1 h.bk.row, ho⟩, h1 h.row, h.low, h.lt⟩
theorem Bk2.edge {o : Obj} {ge : Nat} (h : Bk2 p pa w gd gb G H v l wr) (hg : (wr.alloc o).grownBy w' (some ge)) (he : ge = wr.heap.size) : Bk2 p pa w gd gb G H v l w' :=
  h.next (below_grew ((Below.refl wr.heap.size wr).alloc (Nat.le_refl _) o) hg (Nat.le_refl _) (fun g hg => by injection hg with hg; omega))
end

/-- A new list of no integers, with room. -/
theorem run_in0 (n : Nat) (hn : n ≤ 17592186044416) (W : World) : (Instr.makeSlice 35 (.int .i64 0) (.int .i64 (n : Int))).run Tryd.prog W = .ok (.slice (some ⟨W.heap.size, 0, none⟩) 0 n) (W.alloc (.cells (madeCells #[.int .i64 0] n) 3)) := by
  obtain ⟨i0, hi, hz0, hz1, hz2⟩ := info_parts Tryd.infoInt
  have hmk := run_make_rowN (P := Tryd.prog) 35 3 i0 _ Tryd.underlying35 hi hz0 .i64 .i64 0 n (Nat.zero_le _) (by rw [hz2]; omega) (by omega) W
  rw [hz1] at hmk
  simp only [Nat.mul_one] at hmk
  exact hmk

theorem EdOk.any_congr {n : Nat} {l : List Ed} (h : EdOk n l) {G K : Nat → Bool} (e : ∀ q, q < n → G q = K q) (m : Nat) : (l.any fun e => G e.1.toNat && e.2.toNat.testBit m) = l.any fun e => K e.1.toNat && e.2.toNat.testBit m := by
  have key : ∀ f ∈ l, G f.1.toNat = K f.1.toNat := fun f hf => by
    obtain ⟨q, hq, hn⟩ := h.in_ hf
    rw [hq, Int.toNat_natCast]
    exact e q hn
  rw [Bool.eq_iff_iff, List.any_eq_true, List.any_eq_true]
  constructor
  · rintro ⟨f, hf, h2⟩; exact ⟨f, hf, by rw [← key f hf]; exact h2⟩
  · rintro ⟨f, hf, h2⟩; exact ⟨f, hf, by rw [key f hf]; exact h2⟩
theorem back_step {p : Po} {x : Sc} {j d mk : Nat} {G : Nat → Bool} (hok : p.Ok) (hj : x.len = j + d) (hG : d ≤ x.len → ∀ q, q < p.sets.length → G q = goodB p x d q) (hm : mk = x.mark j) : backL p x (d + 1) = backL p x d ++ if startB p mk G = true then [(j : Int)] else [] := by
  rw [backL, show x.len - d = j by omega]
  unfold startAt startB
  rw [show x.len - j = d by omega, hm, hok.first.any_congr (hG (by omega))]
theorem good_step {p : Po} {x : Sc} {j d mk : Nat} {G : Nat → Bool} (hok : p.Ok) (hj : x.len = j + 1 + d) (hG : d ≤ x.len → ∀ q, q < p.sets.length → G q = goodB p x d q) (hm : mk = x.mark (j + 1)) (q : Nat) : goodB p x (d + 1) q = (behindB p mk G q && setHas p q (byteB x j)) := by
  rw [goodB, show x.len - d = j + 1 by omega, show j + 1 - 1 = j by omega]
  unfold behindB
  rw [hm, (hok.row q).any_congr (hG (by omega))]

theorem last_step {n : Int} {l : List Ed} (h : EdOk n l) {k : Nat} {e : Ed} (he : l[k]? = some e) (m q : Nat) : (if (q : Int) = e.1 then e.2.toNat.testBit m else (l.take k).any fun f => f.1 == (q : Int) && f.2.toNat.testBit m) = (l.take (k + 1)).any fun f => f.1 == (q : Int) && f.2.toNat.testBit m := by
  have htk : l.take (k + 1) = l.take k ++ [e] := by rw [List.take_add_one, he]; rfl
  rw [htk, List.any_append]
  by_cases hq : (q : Int) = e.1
  · rw [if_pos hq]
    have h0 : ((l.take k).any fun f => f.1 == (q : Int) && f.2.toNat.testBit m) = false := by
      rw [List.any_eq_false]
      intro f hf
      obtain ⟨i, hi, e2⟩ := List.getElem_of_mem hf
      have hik : i < k := by have := hi; rw [List.length_take] at this; omega
      have hfi : l[i]? = some f := by
        rw [← e2, List.getElem_take]
        exact List.getElem?_eq_getElem _
      have := h.lt (k - i - 1) i f e hfi (by rw [show i + (k - i - 1) + 1 = k by omega]; exact he)
      have hne : (f.1 == (q : Int)) = false := beq_eq_false_iff_ne.2 (by omega)
      simp [hne]
    rw [h0]
    simp [hq]
  · rw [if_neg hq]
    have hne : (e.1 == (q : Int)) = false := beq_eq_false_iff_ne.2 (fun h => hq h.symm)
    simp [hne]

set_option maxRecDepth 100000 in
set_option maxHeartbeats 8000000 in
theorem walkStarts_any (p : Po) (pa : PoA) (x : Sc) (sb sm : Nat) (q : Int) (a : Nat → Addr) (w : World) (hwf : p.wf) (hin : PoIn (· < w.heap.size) w p pa) (hsc : Scn w sb sm x) (hE : Sent [12, 14] w a) (hq : IsI64 q) (hn6 : p.Ok → p.sets.length < 1000000) (hx6 : x.len < 900000) :
    Calls Tryd.prog 21 #[.agg (p.cells pa).toArray, .pointer (some ⟨sb, 0, none⟩), .int .i64 q] w (Started18 p x q a w) := by
  have hne := fun y ad => run_neq_iface_nil (P := Tryd.prog) (w := y) 37 (by kernel_rfl) 161 (.pointer (some ad))
  have hnn := fun y => run_neq_nil_nil_at (P := Tryd.prog) (w := y) 37 (by kernel_rfl)
  have HA := hide (fun y (hy : Below w.heap.size w y) => asked18_any p pa x sb sm q a y hwf (hin.next hy) (hsc.below hy) (hE.below hy) hq (fun h => Nat.le_of_lt (hn6 h)))
  have HWF := hide hwf
  have HPI := hide hin
  have HSC := hide hsc
  have hfit := hsc.fits
  clear hwf hin hE hsc
  obtain ⟨q1, q2⟩ := hq
  obtain ⟨As, Af, Al, Aw, ks, kf, kl, kw⟩ := pa
  simp only [Po.cells] at HA ⊢
  have hbel := (Below.refl w.heap.size w).alloc (Nat.le_refl _) (.cells #[.slice As p.sets.length ks, .int .i64 p.null, .slice Af p.first.length kf, .slice Al p.last.length kl, .slice Aw p.follow.length kw] 26)
  have hbp := Blk.new w 26 #[.slice As p.sets.length ks, .int .i64 p.null, .slice Af p.first.length kf, .slice Al p.last.length kl, .slice Aw p.follow.length kw]
  go_enter Tryd.func21, Tryd.ntmps21
  go_wp2_with fail
  refine (HA.out _ hbel).mono ?_
  rintro e w1 ⟨g, hg, hb, hsome, hnone⟩
  have HB0 := hide (And.intro (hbel.trans (hb.mono hbel.size)) (hbp.nxt hb))
  have hlw : w.heap.size < w1.heap.size := by have := hb.size; simp at this; omega
  clear HA hbp
  cases g with
  | some k =>
    obtain rfl := hsome (by simp)
    have HG := hide hg
    clear hg hsome hnone hb hbel
    simp only [walkErr, errV]
    go_wp2_with fail
    go_ret2
    exact ⟨some k, _, [], rfl, HG.out, OwnInts.nil _ _, (fun h => by cases h), (fun _ => rfl), HB0.out.1⟩
  | none =>
  obtain ⟨gb0, gi0, rfl, hwk⟩ := hnone rfl
  have hok : p.Ok ∧ 0 ≤ q ∧ q ≤ x.len := by
    rcases hg with ⟨h, _⟩ | ⟨h, _⟩ | ⟨_, h⟩
    · cases h
    · cases h
    · exact h
  have HG := hide hg
  obtain ⟨i, hi⟩ : ∃ i : Nat, q = i := ⟨q.toNat, by omega⟩
  subst hi
  have hix : i ≤ x.len := by omega
  have HOk := hide hok.1
  replace hn6 := hn6 hok.1
  obtain ⟨nu, hnu⟩ : ∃ nu : Nat, p.null = nu := ⟨p.null.toNat, by have := hok.1.low; omega⟩
  have hnu16 : nu < 16 := by have := hok.1.high; omega
  have HNU := hide hnu
  have hnl := HWF.out.nl
  have hnf := HWF.out.nf
  have hnw := HWF.out.nw
  have hfl : p.follow.length = p.sets.length := hok.1.len
  have HFL := hide hfl
  clear hg hok hsome hnone hwk hb hbel hnu hfl
  have hmk := fun W => run_bo (ts := 70) Tryd.underlying70 p.sets.length (by omega) W
  have hal := (Below.refl w1.heap.size w1).alloc (Nat.le_refl _) (.cells (madeCells #[.bool false] p.sets.length) 4)
  have HB := hide (BkAt.mk (p := p) (pa := ⟨As, Af, Al, Aw, ks, kf, kl, kw⟩) (v := .slice none 0 0) (l := []) (HB0.out.1.trans (hal.mono HB0.out.1.size)) (HB0.out.2.nxt hal) (BoRow.new w1 p.sets.length) (OwnInts.nil _ _))
  have cg := HB0.out.2.cell
  clear hal HB0
  go_wp2_with fail
  have hgl := HB.out.row.lt
  generalize (w1.alloc (.cells (madeCells #[.bool false] p.sets.length) 4)) = W0 at *
  generalize w1.heap.size = gd at *
  clear cg
  refine (slen_any (HSC.out.below HB.out.below)).mono ?_
  rintro e w2 ⟨rfl, rfl⟩
  go_wp2_with fail
  go_loopw [11, 12] (fun bv iv wr => ∃ (d : Nat) (G : Nat → Bool), iv = .int .i64 ((x.len : Int) - (d : Int)) ∧ i + d ≤ x.len + 1 ∧ BkAt p ⟨As, Af, Al, Aw, ks, kf, kl, kw⟩ w gd G bv (backL p x d) wr ∧ (d ≤ x.len → ∀ q, q < p.sets.length → G q = goodB p x d q) ∧ gd < wr.heap.size) (fun _ iv _ => (intOf iv + 1 - i).toNat)
  case atStart => exact ⟨0, _, by simp, by omega, HB.out, (fun _ q _ => rfl), hgl⟩
  case round =>
    clear HB hgl
    obtain ⟨d, G, rfl, hd, hB, hG, hgl⟩ := hrel
    have hbl := backL_len p x d
    obtain ⟨LA, Lc, rfl, _, _⟩ := hB.own.form
    have HB := hide hB
    have HGG := hide hG
    clear hB hG
    by_cases hlt : i + d ≤ x.len
    case neg =>
      have g1 : decide ((x.len : Int) - (d : Int) ≥ (i : Int)) = false := decide_eq_false (by omega)
      have hrev : (backL p x d).reverse = startList p x i := by rw [backL_rev p x d (by omega), show x.len + 1 - d = i by omega]
      have HRV := hide hrev
      clear hrev HGG
      generalize backL p x d = bl at *
      have hmk0 := fun W => run_in0 bl.length (by omega) W
      go_wp2_with fail
      clear g1 hmk0
      have hal := (Below.refl wr.heap.size wr).alloc (Nat.le_refl _) (.cells (madeCells #[.int .i64 0] bl.length) 3)
      have H7 := hide (And.intro (HB.out.next hal).own (And.intro (HB.out.next hal).below (show OwnInts wr.heap.size (wr.alloc (.cells (madeCells #[.int .i64 0] bl.length) 3)) (.slice (some ⟨wr.heap.size, 0, none⟩) 0 bl.length) [] from World.ownsRow_made wr _ _ (Nat.le_refl _) (by simp only [maxLen]; omega) (by simp [madeCells]))))
      have HLB := hide (fun g hg => (World.ownsRow.lt HB.out.own g hg).2)
      have hww := HB.out.below.size
      clear hal HB
      generalize (wr.alloc (.cells (madeCells #[.int .i64 0] bl.length) 3)) = W8 at *
      generalize wr.heap.size = m at *
      go_loopw [27, 28] (fun lv iv wx => ∃ k : Nat, iv = .int .i64 ((bl.length : Int) - 1 - (k : Int)) ∧ k ≤ bl.length ∧ OwnInts m wx lv (bl.reverse.take k) ∧ OwnInts w.heap.size wx (.slice LA bl.length Lc) bl ∧ Below w.heap.size w wx ∧ m ≤ wx.heap.size) (fun _ iv _ => (intOf iv + 1).toNat)
      case atStart => exact ⟨0, by simp, by omega, H7.out.2.2, H7.out.1, H7.out.2.1, by have := (World.ownsRow.lt H7.out.2.2 m rfl).2; omega⟩
      case round =>
        clear H7
        obtain ⟨k, rfl, hk, hown, hob, hbel, hmz⟩ := hrel
        by_cases hlk : k < bl.length
        case neg =>
          have g2 : decide ((bl.length : Int) - 1 - (k : Int) ≥ 0) = false := decide_eq_false (by omega)
          obtain rfl : k = bl.length := by omega
          have HF := hide (And.intro hown hbel)
          clear hown hob hbel
          go_wp2_with fail
          go_ret2
          exact ⟨none, _, _, rfl, HG.out, HF.out.1.low (by omega), (fun _ => by rw [Int.toNat_natCast, ← HRV.out, List.take_of_length_le (by simp)]), fun h => absurd rfl h, HF.out.2⟩
        have g2 : decide ((bl.length : Int) - 1 - (k : Int) ≥ 0) = true := decide_eq_true (by omega)
        obtain ⟨i7, hi7⟩ : ∃ i7 : Nat, (bl.length : Int) - 1 - (k : Int) = i7 := ⟨bl.length - 1 - k, by omega⟩
        have hil : i7 < bl.length := by omega
        have hz := List.getElem?_eq_getElem hil
        have htk : bl.reverse.take (k + 1) = bl.reverse.take k ++ [bl[i7]] := by rw [List.take_add_one, List.getElem?_reverse (by omega), show bl.length - 1 - k = i7 by omega, hz]; rfl
        generalize bl[i7] = z at *
        rw [hi7] at g2 ⊢
        have hkl : (bl.reverse.take k).length = k := by simp; omega
        obtain ⟨A2, c2, e2, h9, hcl⟩ := hob.form
        injection e2 with e2 e3 e4
        subst e2
        clear h9 e3 e4
        obtain ⟨gl, eL, _, _, cl⟩ := hcl i7 z hz
        subst eL
        clear hz hcl
        have hal := (Below.refl wr.heap.size wr).alloc (Nat.le_refl _) (.cells #[.int .i64 z] 3)
        have hoA := hide (hown.below hal (Nat.le_refl _))
        have hlen : (bl.reverse.take k).length < 1000000 := by omega
        have cl2 := cl
        have HH := hide (And.intro (hob.below hal (Nat.le_refl _)) (And.intro (hbel.alloc (by omega) (.cells #[.int .i64 z] 3)) (And.intro htk hi7)))
        have HKL := hide hkl
        clear hown hob hbel htk hi7 hal cl2 hkl
        obtain ⟨LA2, Lc2, rfl, _, _⟩ := hoA.out.form
        have HOL := hide (fun g (hg : (Value.slice LA2 k Lc2).ownBlock = some g) => (World.ownsRow.lt hoA.out g (by cases LA2 <;> exact hg)).1)
        go_wp2_with (at_builtin; refine wpList_push_int rfl _ _ rfl m _ _ rfl hoA.out z wr.heap.size 1 rfl (Blk.new _ _ _) hlen (by simp; omega) ?_)
        intro v' w5 hown5 hg5 hv5
        have hsz5 := hg5.size
        simp only [World.size_alloc] at hsz5
        have hob5 := HH.out.1.kept hg5 (.inr fun e => by
          have h1 := HLB.out gl rfl
          have h2 := HOL.out gl e.symm
          omega)
        have hb5 := below_grew HH.out.2.1 hg5 (Nat.le_refl _) (fun g hg => by have := HOL.out g hg; omega)
        rw [← HH.out.2.2.1] at hown5
        have H8 := hide (And.intro hown5 (And.intro hob5 hb5))
        clear hown5 hob5 hb5 hg5 hv5 hoA cl
        go_wp2_with fail
        go_roundw
        case rel => exact ⟨k + 1, by have h9 := HH.out.2.2.2; first | omega | (congr 1; omega) | congr 1, hlk, H8.out.1, H8.out.2.1, H8.out.2.2, by omega⟩
        case measure => have := HH.out.2.2.2; simp [intOf] <;> omega
    obtain ⟨j, hjd⟩ : ∃ j, x.len = j + d := ⟨x.len - d, by omega⟩
    have HJD := hide hjd
    have hji : i ≤ j := by omega
    have hjx : j ≤ x.len := by omega
    have hjb : (j : Int) < 900000 := by omega
    rw [show (x.len : Int) - (d : Int) = (j : Int) by omega]
    clear hjd
    have g1 : decide ((j : Int) ≥ (i : Int)) = true := decide_eq_true (by omega)
    obtain ⟨mk, hmk9⟩ : ∃ mk, mk = x.mark j := ⟨_, rfl⟩
    have HMk := hide (marks_in (HSC.out.below HB.out.below) j hjx)
    have hm4 := HSC.out.small j
    rw [← hmk9] at HMk hm4
    have HME := hide hmk9
    clear hmk9
    have HOPn := hide (fun y => open_any nu mk hnu16 hm4 y)
    have HOP := hide (fun v (hv : v < 16) y => open_any v mk hv hm4 y)
    generalize hbl9 : backL p x d = bl at *
    have HBL := hide hbl9
    clear hbl9
    have hal := (Below.refl wr.heap.size wr).alloc (Nat.le_refl _) (.cells (madeCells #[.bool false] p.sets.length) 4)
    have HB2 := hide (Bk2.mk (HB.out.next hal) (BoRow.new wr p.sets.length) hlw hgl)
    have cg0 := HB.out.box.cell
    have cg := (HB.out.next hal).box.cell
    simp only [Po.cells] at cg0 cg
    clear hal HB
    go_wp2_with fail
    refine HMk.out.mono ?_
    rintro e w3 ⟨rfl, rfl⟩
    go_wp2_with fail
    clear cg cg0 HMk
    generalize (wr.alloc (.cells (madeCells #[.bool false] p.sets.length) 4)) = W2 at *
    generalize wr.heap.size = gb at *
    go_loopw [60] (fun kv wx => ∃ k : Nat, kv = .int .i64 k ∧ k ≤ p.last.length ∧ Bk2 p ⟨As, Af, Al, Aw, ks, kf, kl, kw⟩ w gd gb G (fun q : Nat => (p.last.take k).any fun f => f.1 == (q : Int) && f.2.toNat.testBit mk) (.slice LA bl.length Lc) bl wx) (fun kv _ => p.last.length - (intOf kv).toNat)
    case atStart => exact ⟨0, rfl, by omega, HB2.out.congr fun q _ => by simp⟩
    case round =>
      clear HB2
      obtain ⟨k, rfl, hk, hb2⟩ := hrel
      have HB2 := hide hb2
      clear hb2
      by_cases hlk : k < p.last.length
      case neg =>
        have g2 : decide ((k : Int) < (p.last.length : Int)) = false := decide_eq_false (by omega)
        obtain rfl : k = p.last.length := by omega
        rw [List.take_length] at HB2
        have cg := HB2.out.bk.box.cell
        simp only [Po.cells, HNU.out] at cg
        go_wp2_with fail
        refine (HOPn.out _).mono ?_
        rintro e w4 ⟨rfl, rfl⟩
        go_wp2_with fail
        clear cg g2 hlk
        rename World => W3
        go_loopw [17, 80] (fun sv kv wx => ∃ (k : Nat) (st : Bool), kv = .int .i64 k ∧ k ≤ p.first.length ∧ sv = .bool st ∧ st = (nu.testBit mk || (p.first.take k).any fun e => G e.1.toNat && e.2.toNat.testBit mk) ∧ Bk2 p ⟨As, Af, Al, Aw, ks, kf, kl, kw⟩ w gd gb G (fun q : Nat => p.last.any fun f => f.1 == (q : Int) && f.2.toNat.testBit mk) (.slice LA bl.length Lc) bl wx) (fun _ kv _ => p.first.length - (intOf kv).toNat)
        case atStart => exact ⟨0, _, rfl, by omega, rfl, by simp, HB2.out⟩
        case round =>
          clear HB2 hk
          obtain ⟨k, st, rfl, hk, rfl, hst, hb2⟩ := hrel
          have HB2 := hide hb2
          have HST := hide hst
          clear hb2 hst
          by_cases hlk : k < p.first.length
          case neg =>
            have g2 : decide ((k : Int) < (p.first.length : Int)) = false := decide_eq_false (by omega)
            obtain rfl : k = p.first.length := by omega
            rw [List.take_length] at HST
            rename World => W4
            have hss : st = startB p mk G := by rw [HST.out]; unfold startB; rw [HNU.out]; rfl
            replace HST := hide hss
            obtain ⟨bn, hbn⟩ : ∃ bn, bn = bl ++ (if st = true then [(j : Int)] else []) := ⟨_, rfl⟩
            have HBN := hide hbn
            have hbnl : bn.length ≤ bl.length + 1 := by rw [hbn, List.length_append]; split <;> simp
            clear hss hbn
            go_upto_if 99 with fail
            clear g2 hlk hk
            go_cut [11] (fun lz wx => ∃ (A : Option Addr) (c : Nat), lz = .slice A bn.length c ∧ Bk2 p ⟨As, Af, Al, Aw, ks, kf, kl, kw⟩ w gd gb G (fun q : Nat => p.last.any fun f => f.1 == (q : Int) && f.2.toNat.testBit mk) (.slice A bn.length c) bn wx)
            case first =>
              cases st with
              | false =>
                obtain rfl : bn = bl := by rw [HBN.out]; simp
                go_wp2_with fail
                go_meet
                case rel => exact ⟨_, _, rfl, HB2.out⟩
              | true =>
                have he2 : bn = bl ++ [(j : Int)] := by rw [HBN.out]; rfl
                have hal := (Below.refl W4.heap.size W4).alloc (Nat.le_refl _) (.cells #[.int .i64 (j : Int)] 3)
                have HB3 := hide (HB2.out.next hal)
                have hlen : bl.length < 1000000 := by omega
                have hw4 := HB2.out.bk.below.size
                have HE2 := hide he2
                clear he2
                go_wp2_with (at_builtin; refine wpList_push_int rfl _ _ rfl w.heap.size _ _ rfl HB3.out.bk.own (j : Int) W4.heap.size 1 rfl (Blk.new _ _ _) hlen (by simp; omega) ?_)
                intro v' w5 hown5 hg5 hv5
                obtain ⟨A5, c5, rfl, _, _⟩ := hown5.form
                have HN := hide (HB3.out.push hown5 hg5)
                rw [← HE2.out] at HN
                clear hown5 hg5 hv5 hal HB3
                rw [← HE2.out]
                go_wp2_with fail
                go_meet
                case rel => exact ⟨A5, c5, rfl, HN.out⟩
            case rest =>
            obtain ⟨A, c, rfl, hb2⟩ := hcut
            have HB2 := hide hb2
            clear hb2
            rename World => W5
            have cg := HB2.out.bk.box.cell
            simp only [Po.cells] at cg
            go_wp2_with fail
            clear cg
            go_loopw [107] (fun kv wx => ∃ k : Nat, kv = .int .i64 k ∧ k ≤ p.follow.length ∧ Bk2 p ⟨As, Af, Al, Aw, ks, kf, kl, kw⟩ w gd gb G (fun q : Nat => (p.last.any fun f => f.1 == (q : Int) && f.2.toNat.testBit mk) || (decide (q < k) && ((p.follow.getD q []).any fun e => G e.1.toNat && e.2.toNat.testBit mk))) (.slice A bn.length c) bn wx) (fun kv _ => p.follow.length - (intOf kv).toNat)
            case atStart => exact ⟨0, rfl, by omega, HB2.out.congr fun q _ => by simp⟩
            case round =>
              clear HB2
              obtain ⟨k, rfl, hk, hb2⟩ := hrel
              have HB2 := hide hb2
              clear hb2
              by_cases hlk : k < p.follow.length
              case neg =>
                have g2 : decide ((k : Int) < (p.follow.length : Int)) = false := decide_eq_false (by omega)
                obtain rfl : k = p.follow.length := by omega
                rename World => W7
                have hb3 : Bk2 p ⟨As, Af, Al, Aw, ks, kf, kl, kw⟩ w gd gb G (behindB p mk G) (.slice A bn.length c) bn W7 := HB2.out.congr fun q hq => by
                  unfold behindB
                  rw [decide_eq_true (by have := HFL.out; omega : q < p.follow.length), Bool.true_and]
                have HB3 := hide hb3
                clear hb3 HB2
                clear hlk hk
                by_cases hj0 : j = 0
                case pos =>
                  subst hj0
                  have HBY := hide (byte_out (HSC.out.below HB3.out.bk.below) (-1) (.inl (by omega)) ⟨by omega, by omega⟩)
                  have hm1 : ((0 : Nat) : Int) - 1 = -1 := by omega
                  go_wp2_with (simp only [hm1])
                  refine HBY.out.mono ?_
                  rintro e z1 ⟨rfl, rfl⟩
                  clear HBY
                  go_wp2_with fail
                  rename World => W8
                  go_loopw [149] (fun kv wx => ∃ (k : Nat) (K : Nat → Bool), kv = .int .i64 k ∧ k ≤ p.sets.length ∧ Bk2 p ⟨As, Af, Al, Aw, ks, kf, kl, kw⟩ w gd gb K (behindB p mk G) (.slice A bn.length c) bn wx) (fun kv _ => p.sets.length - (intOf kv).toNat)
                  case atStart => exact ⟨0, G, rfl, by omega, HB3.out⟩
                  case round =>
                    clear HB3
                    obtain ⟨k, K, rfl, hk, hb2⟩ := hrel
                    have HB2 := hide hb2
                    clear hb2
                    by_cases hlk : k < p.sets.length
                    case neg =>
                      have g3 : decide ((k : Int) < (p.sets.length : Int)) = false := decide_eq_false (by omega)
                      go_wp2_with fail
                      go_roundw
                      case rel =>
                        have hbk := HB2.out.bk
                        rw [HBN.out, HST.out, ← HBL.out, ← back_step HOk.out HJD.out HGG.out HME.out] at hbk
                        rw [HBN.out, HST.out, ← HBL.out, ← back_step HOk.out HJD.out HGG.out HME.out]
                        exact ⟨d + 1, K, by have := HJD.out; congr 1; omega, by omega, hbk, (fun h => by have := HJD.out; omega), HB2.out.bk.row.lt⟩
                      case measure => have := HJD.out; simp [intOf]; omega
                    have g3 : decide ((k : Int) < (p.sets.length : Int)) = true := decide_eq_true (by omega)
                    have cgd := HB2.out.bk.row.cell k hlk
                    have fgd := HB2.out.bk.row.frozen
                    go_wp2_with fail
                    go_roundw
                    case rel => exact ⟨k + 1, _, by go_num, hlk, HB2.out.setG k hlk false⟩
                    case measure => simp [intOf]; omega
                obtain ⟨j1, rfl⟩ : ∃ j1, j = j1 + 1 := ⟨j - 1, by omega⟩
                obtain ⟨bt, hbt⟩ : ∃ bt, bt = byteB x j1 := ⟨_, rfl⟩
                have HBY := hide (show Calls Tryd.prog 53 #[.pointer (some ⟨sb, 0, none⟩), .int .i64 (j1 : Int)] _ fun e w' => e = .returned (.tuple #[.int .u8 (byteB x j1 : Nat), .bool true]) ∧ _ = w' from byte_in (HSC.out.below HB3.out.bk.below) j1 (by omega))
                rw [← hbt] at HBY
                have hb256 : bt < 256 := by rw [hbt]; exact UInt8.toNat_lt _
                have HBT := hide hbt
                clear hbt hj0
                have hm1 : ((j1 + 1 : Nat) : Int) - 1 = (j1 : Int) := by omega
                go_wp2_with (simp only [hm1])
                refine HBY.out.mono ?_
                rintro e z1 ⟨rfl, rfl⟩
                clear HBY
                go_wp2_with fail
                rename World => W8
                go_loopw [149] (fun kv wx => ∃ (k : Nat) (K : Nat → Bool), kv = .int .i64 k ∧ k ≤ p.sets.length ∧ Bk2 p ⟨As, Af, Al, Aw, ks, kf, kl, kw⟩ w gd gb K (behindB p mk G) (.slice A bn.length c) bn wx ∧ ∀ q, q < k → K q = (behindB p mk G q && setHas p q bt)) (fun kv _ => p.sets.length - (intOf kv).toNat)
                case atStart => exact ⟨0, G, rfl, by omega, HB3.out, fun q h => by omega⟩
                case round =>
                  clear HB3
                  obtain ⟨k, K, rfl, hk, hb2, hK⟩ := hrel
                  have HB2 := hide hb2
                  have HK := hide hK
                  clear hb2 hK
                  by_cases hlk : k < p.sets.length
                  case neg =>
                    have g3 : decide ((k : Int) < (p.sets.length : Int)) = false := decide_eq_false (by omega)
                    obtain rfl : k = p.sets.length := by omega
                    go_wp2_with fail
                    go_roundw
                    case rel =>
                      have hbk := HB2.out.bk
                      rw [HBN.out, HST.out, ← HBL.out, ← back_step HOk.out HJD.out HGG.out HME.out] at hbk
                      rw [HBN.out, HST.out, ← HBL.out, ← back_step HOk.out HJD.out HGG.out HME.out]
                      exact ⟨d + 1, K, by have := HJD.out; congr 1; omega, by omega, hbk, (fun _ q hq => by rw [HK.out q hq, HBT.out]; exact (good_step HOk.out HJD.out HGG.out HME.out q).symm), HB2.out.bk.row.lt⟩
                    case measure => have := HJD.out; simp [intOf]; omega
                  have g3 : decide ((k : Int) < (p.sets.length : Int)) = true := decide_eq_true (by omega)
                  have cbk := HB2.out.row.cell k hlk
                  generalize hbv : behindB p mk G k = bv at cbk
                  have HBV := hide hbv
                  clear hbv
                  have hs := List.getElem?_eq_getElem hlk
                  have hswf := HWF.out.sets _ (List.getElem_mem hlk)
                  have hsh : setHas p k bt = Hd.has ⟨0, p.sets[k].1, p.sets[k].2.1, p.sets[k].2.2.1, p.sets[k].2.2.2, 0, 0, 0, false⟩ bt := by unfold setHas; rw [hs]
                  generalize p.sets[k] = s at *
                  obtain ⟨s0, s1, s2, s3⟩ := s
                  simp only at hsh hswf
                  cases bv with
                  | false =>
                    clear hs hswf hsh
                    have cgd := HB2.out.bk.row.cell k hlk
                    have fgd := HB2.out.bk.row.frozen
                    go_wp2_with fail
                    go_roundw
                    case rel =>
                      refine ⟨k + 1, _, by go_num, hlk, HB2.out.setG k hlk false, fun q hq => ?_⟩
                      by_cases h : q = k
                      · subst h; rw [if_pos rfl, HBV.out]; rfl
                      · rw [if_neg h]; exact HK.out q (by omega)
                    case measure => simp [intOf]; omega
                  | true =>
                    obtain ⟨bs, os, es, hbs, z0, z1, z2, z3⟩ := (show SeIn (· < w.heap.size) w p.sets As from HPI.out.sets).cell hs
                    subst es
                    replace z0 := (HB2.out.bk.below.cell (p := ⟨bs, os + k * 4, none⟩) (by simp only; omega)).trans z0
                    replace z1 := (HB2.out.bk.below.cell (p := ⟨bs, os + k * 4 + 1, none⟩) (by simp only; omega)).trans z1
                    replace z2 := (HB2.out.bk.below.cell (p := ⟨bs, os + k * 4 + 2, none⟩) (by simp only; omega)).trans z2
                    replace z3 := (HB2.out.bk.below.cell (p := ⟨bs, os + k * 4 + 3, none⟩) (by simp only; omega)).trans z3
                    have cg := HB2.out.bk.box.cell
                    simp only [Po.cells] at cg
                    have HHS := hide (fun y => has_any s0 s1 s2 s3 bt hb256 y hswf.1 hswf.2.1 hswf.2.2.1 hswf.2.2.2)
                    rw [← hsh] at HHS
                    obtain ⟨hb9, hhb⟩ : ∃ t, t = setHas p k bt := ⟨_, rfl⟩
                    rw [← hhb] at HHS
                    have HHB := hide hhb
                    clear hs hswf hsh hhb
                    go_wp2_with fail
                    refine (HHS.out _).mono ?_
                    rintro e y9 ⟨rfl, hb⟩
                    have HB4 := hide (HB2.out.next hb)
                    clear hb cg z0 z1 z2 z3 cbk
                    have cgd := HB4.out.bk.row.cell k hlk
                    have fgd := HB4.out.bk.row.frozen
                    go_wp2_with fail
                    go_roundw
                    case rel =>
                      refine ⟨k + 1, _, by go_num, hlk, HB4.out.setG k hlk hb9, fun q hq => ?_⟩
                      by_cases h : q = k
                      · subst h; rw [if_pos rfl, HBV.out]; rw [← HHB.out]; rfl
                      · rw [if_neg h]; exact HK.out q (by omega)
                    case measure => simp [intOf]; omega
              have g2 : decide ((k : Int) < (p.follow.length : Int)) = true := decide_eq_true (by omega)
              have hkn : k < p.sets.length := by have := HFL.out; omega
              have hr := List.getElem?_eq_getElem hlk
              have hgd : p.follow.getD k [] = p.follow[k] := by rw [List.getD_eq_getElem?_getD, hr]; rfl
              have hmr := List.getElem_mem hlk
              generalize p.follow[k] = r at *
              obtain ⟨bf, of, Br, cr, ef, hbf, cf, hri⟩ := (show FoIn (· < w.heap.size) w p.follow Aw from HPI.out.follow).cell hr
              subst ef
              replace cf := (HB2.out.bk.below.cell (p := ⟨bf, of + k, none⟩) (by simp only; omega)).trans cf
              have hrl := (HWF.out.follow r hmr).1
              have HRI := hide hri
              have HRO := hide (HOk.out.follow k r hr)
              have HGD := hide hgd
              clear hri hr hmr hgd
              go_wp2_with fail
              clear cf
              rename World => W6
              have HB6 := hide HB2.out
              clear HB2
              go_loopw [114] (fun jv wx => ∃ k2 : Nat, jv = .int .i64 k2 ∧ k2 ≤ r.length ∧ Bk2 p ⟨As, Af, Al, some ⟨bf, of, none⟩, ks, kf, kl, kw⟩ w gd gb G (fun q : Nat => (fun q : Nat => (p.last.any fun f => f.1 == (q : Int) && f.2.toNat.testBit mk) || (decide (q < k) && ((p.follow.getD q []).any fun e => G e.1.toNat && e.2.toNat.testBit mk))) q || (decide (q = k) && ((r.take k2).any fun e => G e.1.toNat && e.2.toNat.testBit mk))) (.slice A bn.length c) bn wx) (fun jv _ => r.length - (intOf jv).toNat)
              case atStart => exact ⟨0, rfl, by omega, HB6.out.congr fun q _ => by simp⟩
              case round =>
                clear HB6
                obtain ⟨k2, rfl, hk2, hb2⟩ := hrel
                have HB2 := hide hb2
                clear hb2
                by_cases hlr : k2 < r.length
                case neg =>
                  have g3 : decide ((k2 : Int) < (r.length : Int)) = false := decide_eq_false (by omega)
                  obtain rfl : k2 = r.length := by omega
                  rw [List.take_length] at HB2
                  go_wp2_with fail
                  go_roundw
                  case rel =>
                    refine ⟨k + 1, by go_num, hlk, HB2.out.congr fun q _ => ?_⟩
                    simp only
                    rw [Bool.or_assoc]
                    congr 1
                    by_cases h : q = k
                    · subst h; rw [HGD.out]; simp
                    · have h2 : (q < k + 1) = (q < k) := by rw [eq_iff_iff]; omega
                      simp [h, h2]
                  case measure => simp [intOf]; omega
                have g3 : decide ((k2 : Int) < (r.length : Int)) = true := decide_eq_true (by omega)
                have he := List.getElem?_eq_getElem hlr
                have htk : r.take (k2 + 1) = r.take k2 ++ [r[k2]] := by rw [List.take_add_one, he]; rfl
                generalize r[k2] = e at *
                obtain ⟨be, oe, rfl, hbe, c0, c1⟩ := (HRI.out).cell he
                obtain ⟨v0, v1, v2, v3, _⟩ := HRO.out.at_ he
                obtain ⟨e1, e2⟩ := e
                simp only at c0 c1 v0 v1 v2 v3
                obtain ⟨z, hz9⟩ : ∃ z : Nat, e1 = z := ⟨e1.toNat, by omega⟩
                obtain ⟨v, hv9⟩ : ∃ v : Nat, e2 = v := ⟨e2.toNat, by omega⟩
                subst hz9 hv9
                have hzn : z < p.sets.length := by omega
                have hv16 : v < 16 := by omega
                replace c0 := (HB2.out.bk.below.cell (p := ⟨be, oe + k2 * 2, none⟩) (by simp only; omega)).trans c0
                replace c1 := (HB2.out.bk.below.cell (p := ⟨be, oe + k2 * 2 + 1, none⟩) (by simp only; omega)).trans c1
                have HT := hide (And.intro htk he)
                clear htk he v0 v1 v2 v3
                have hz0 := hide (Blk.new wr 73 #[.int .i64 0, .int .i64 0])
                go_wp2_with (refine wpList_store_row rfl _ _ _ rfl wr.heap.size 0 _ _ _ rfl rfl hz0.out Tryd.sizeEdge (by simp) (by simp [Value.oneCell']) ?_)
                intro w2 hrow2 hg2 hz2
                have hrow := hrow2.out
                rw [splice_full (by rfl)] at hrow
                have HE := hide (And.intro (HB2.out.edge hg2 rfl) hrow)
                have ce := hrow.cell
                clear hrow2 hg2 hz2 hz0 c0 c1 hrow HB2
                generalize wr.heap.size = ge at *
                have cgd := HE.out.1.bk.row.cell z hzn
                have fbk := HE.out.1.row.frozen
                generalize hgz : G z = gz at cgd
                obtain ⟨hv, hhv⟩ : ∃ t, t = (fun q : Nat => (fun q : Nat => (p.last.any fun f => f.1 == (q : Int) && f.2.toNat.testBit mk) || (decide (q < k) && ((p.follow.getD q []).any fun e => G e.1.toNat && e.2.toNat.testBit mk))) q || (decide (q = k) && ((r.take k2).any fun e => G e.1.toNat && e.2.toNat.testBit mk))) k := ⟨_, rfl⟩
                have cbk : w2.cell? ⟨gb, k, none⟩ = some (.bool hv) := by rw [hhv]; exact HE.out.1.row.cell k hkn
                have HGZ := hide hgz
                have HHV := hide hhv.symm
                clear hgz hhv
                cases hv with
                | true =>
                  go_wp2_with fail
                  go_roundw
                  case rel =>
                    refine ⟨k2 + 1, by go_num, hlr, (HE.out.1.setB k hkn true).congr fun q _ => ?_⟩
                    by_cases h : q = k
                    · subst h
                      rw [if_pos rfl, HT.out.1, List.any_append]
                      have h9 := HHV.out
                      simp only at h9 ⊢
                      simp only [decide_true, Bool.true_and] at h9 ⊢
                      rw [← Bool.or_assoc, h9]
                      rfl
                    · rw [if_neg h]; simp [h]
                  case measure => simp [intOf]; omega
                | false =>
                cases gz with
                | false =>
                  go_wp2_with fail
                  go_roundw
                  case rel =>
                    refine ⟨k2 + 1, by go_num, hlr, (HE.out.1.setB k hkn false).congr fun q _ => ?_⟩
                    by_cases h : q = k
                    · subst h
                      rw [if_pos rfl, HT.out.1, List.any_append]
                      have h9 := HHV.out
                      simp only at h9 ⊢
                      simp only [decide_true, Bool.true_and] at h9 ⊢
                      rw [← Bool.or_assoc, h9]
                      simp [HGZ.out]
                    · rw [if_neg h]; simp [h]
                  case measure => simp [intOf]; omega
                | true =>
                  go_wp2_with fail
                  refine (HOP.out v hv16 _).mono ?_
                  rintro e z1 ⟨rfl, rfl⟩
                  go_wp2_with fail
                  go_roundw
                  case rel =>
                    refine ⟨k2 + 1, by go_num, hlr, (HE.out.1.setB k hkn (v.testBit mk)).congr fun q _ => ?_⟩
                    by_cases h : q = k
                    · subst h
                      rw [if_pos rfl, HT.out.1, List.any_append]
                      have h9 := HHV.out
                      simp only at h9 ⊢
                      simp only [decide_true, Bool.true_and] at h9 ⊢
                      rw [← Bool.or_assoc, h9]
                      simp [HGZ.out]
                    · rw [if_neg h]; simp [h]
                  case measure => simp [intOf]; omega
          have g2 : decide ((k : Int) < (p.first.length : Int)) = true := decide_eq_true (by omega)
          have he := List.getElem?_eq_getElem hlk
          have htk : p.first.take (k + 1) = p.first.take k ++ [p.first[k]] := by rw [List.take_add_one, he]; rfl
          generalize p.first[k] = e at *
          obtain ⟨be, oe, rfl, hbe, c0, c1⟩ := (show EdIn (· < w.heap.size) w p.first Af from HPI.out.first).cell he
          obtain ⟨v0, v1, v2, v3, _⟩ := HOk.out.first.at_ he
          obtain ⟨e1, e2⟩ := e
          simp only at c0 c1 v0 v1 v2 v3
          obtain ⟨z, hz9⟩ : ∃ z : Nat, e1 = z := ⟨e1.toNat, by omega⟩
          obtain ⟨v, hv9⟩ : ∃ v : Nat, e2 = v := ⟨e2.toNat, by omega⟩
          subst hz9 hv9
          have hzn : z < p.sets.length := by omega
          have hv16 : v < 16 := by omega
          replace c0 := (HB2.out.bk.below.cell (p := ⟨be, oe + k * 2, none⟩) (by simp only; omega)).trans c0
          replace c1 := (HB2.out.bk.below.cell (p := ⟨be, oe + k * 2 + 1, none⟩) (by simp only; omega)).trans c1
          have HT := hide (And.intro htk he)
          clear htk he v0 v1 v2 v3
          have hz0 := hide (Blk.new wr 73 #[.int .i64 0, .int .i64 0])
          go_wp2_with (refine wpList_store_row rfl _ _ _ rfl wr.heap.size 0 _ _ _ rfl rfl hz0.out Tryd.sizeEdge (by simp) (by simp [Value.oneCell']) ?_)
          intro w2 hrow2 hg2 hz2
          have hrow := hrow2.out
          rw [splice_full (by rfl)] at hrow
          have HE := hide (And.intro (HB2.out.edge hg2 rfl) hrow)
          have ce := hrow.cell
          clear hrow2 hg2 hz2 hz0 c0 c1 hrow HB2
          generalize wr.heap.size = ge at *
          have cgd := HE.out.1.bk.row.cell z hzn
          generalize hgz : G z = gz at cgd
          have HGZ := hide hgz
          clear hgz
          cases st with
          | true =>
            go_wp2_with fail
            go_roundw
            case rel => exact ⟨k + 1, true, by go_num, hlk, rfl, by rw [HT.out.1, List.any_append, ← Bool.or_assoc, ← HST.out]; rfl, HE.out.1⟩
            case measure => simp [intOf]; omega
          | false =>
          cases gz with
          | false =>
            go_wp2_with fail
            go_roundw
            case rel => exact ⟨k + 1, false, by go_num, hlk, rfl, by rw [HT.out.1, List.any_append, ← Bool.or_assoc, ← HST.out]; simp [HGZ.out], HE.out.1⟩
            case measure => simp [intOf]; omega
          | true =>
            go_wp2_with fail
            refine (HOP.out v hv16 _).mono ?_
            rintro e z1 ⟨rfl, rfl⟩
            go_wp2_with fail
            go_roundw
            case rel => exact ⟨k + 1, v.testBit mk, by go_num, hlk, rfl, by rw [HT.out.1, List.any_append, ← Bool.or_assoc, ← HST.out]; simp [HGZ.out], HE.out.1⟩
            case measure => simp [intOf]; omega
      have g2 : decide ((k : Int) < (p.last.length : Int)) = true := decide_eq_true (by omega)
      have he := List.getElem?_eq_getElem hlk
      have htk : p.last.take (k + 1) = p.last.take k ++ [p.last[k]] := by rw [List.take_add_one, he]; rfl
      generalize p.last[k] = e at *
      obtain ⟨be, oe, rfl, hbe, c0, c1⟩ := (show EdIn (· < w.heap.size) w p.last Al from HPI.out.last).cell he
      obtain ⟨v0, v1, v2, v3, _⟩ := HOk.out.last.at_ he
      obtain ⟨e1, e2⟩ := e
      simp only at c0 c1 v0 v1 v2 v3
      obtain ⟨z, hz9⟩ : ∃ z : Nat, e1 = z := ⟨e1.toNat, by omega⟩
      obtain ⟨v, hv9⟩ : ∃ v : Nat, e2 = v := ⟨e2.toNat, by omega⟩
      subst hz9 hv9
      have hzn : z < p.sets.length := by omega
      have hv16 : v < 16 := by omega
      replace c0 := (HB2.out.bk.below.cell (p := ⟨be, oe + k * 2, none⟩) (by simp only; omega)).trans c0
      replace c1 := (HB2.out.bk.below.cell (p := ⟨be, oe + k * 2 + 1, none⟩) (by simp only; omega)).trans c1
      have HT := hide (And.intro htk he)
      clear htk he v0 v1 v2 v3
      have hz0 := hide (Blk.new wr 73 #[.int .i64 0, .int .i64 0])
      go_wp2_with (refine wpList_store_row rfl _ _ _ rfl wr.heap.size 0 _ _ _ rfl rfl hz0.out Tryd.sizeEdge (by simp) (by simp [Value.oneCell']) ?_)
      intro w2 hrow2 hg2 hz2
      have hrow := hrow2.out
      rw [splice_full (by rfl)] at hrow
      have HE := hide (And.intro (HB2.out.edge hg2 rfl) hrow)
      have ce := hrow.cell
      clear hrow2 hg2 hz2 hz0 c0 c1 hrow HB2
      generalize wr.heap.size = ge at *
      go_upto_region 14 with fail
      clear ce
      refine wp_region_mix (fun y => Bk2 p ⟨As, Af, some ⟨be, oe, none⟩, Aw, ks, kf, kl, kw⟩ w gd gb G (fun q : Nat => (p.last.take k).any fun f => f.1 == (q : Int) && f.2.toNat.testBit mk) (.slice LA bl.length Lc) bl y ∧ Blk y ge 73 #[.int .i64 (z : Int), .int .i64 (v : Int)]) [8] (by kernel_rfl) (fun hcl => ?_)
      have hS : Bk2 p ⟨As, Af, some ⟨be, oe, none⟩, Aw, ks, kf, kl, kw⟩ w gd gb G (fun q : Nat => (p.last.take k).any fun f => f.1 == (q : Int) && f.2.toNat.testBit mk) (.slice LA bl.length Lc) bl w2.drew ∧ Blk w2.drew ge 73 #[.int .i64 (z : Int), .int .i64 (v : Int)] := ⟨HE.out.1.drew, HE.out.2.nxt (Below.refl _ _).drew⟩
      refine wpAnyT_free (i := 0) hcl rfl (by kernel_rfl) (v := ?_) (fun _ _ _ h => h) hS (Or.inl ⟨rfl, fun w' _ => ?_⟩) (fun hcl => ?_)
      rotate_left
      · go_simp
        with_reducible rfl
      simp only [List.getElem_toArray, List.getElem_cons_zero, List.getElem_cons_succ, Act.put, List.setIfInBounds_toArray, List.set_cons_zero, List.set_cons_succ]
      refine wpAnyT_free (i := 1) hcl rfl (by kernel_rfl) (v := ?_) (fun _ _ _ h => h) hS (Or.inl ⟨rfl, fun w' _ => ?_⟩) (fun hcl => ?_)
      rotate_left
      · go_simp
        with_reducible rfl
      simp only [List.getElem_toArray, List.getElem_cons_zero, List.getElem_cons_succ, Act.put, List.setIfInBounds_toArray, List.set_cons_zero, List.set_cons_succ]
      refine wpAnyT_take (i := 2) hcl rfl (by kernel_rfl) (v := ?_) (fun _ _ _ h => h) hS (Or.inl ⟨rfl, fun w' hS => ?_⟩) (fun hcl => ?_)
      rotate_left
      · skip
        have ce := hS.2.cell
        go_simp
        with_reducible rfl
      simp only [List.getElem_toArray, List.getElem_cons_zero, List.getElem_cons_succ, Act.put, List.setIfInBounds_toArray, List.set_cons_zero, List.set_cons_succ]
      refine wpAnyT_free (i := 3) hcl rfl (by kernel_rfl) (v := ?_) (fun _ _ _ h => h) hS (Or.inl ⟨rfl, fun w' _ => ?_⟩) (fun hcl => ?_)
      rotate_left
      · go_simp
        with_reducible rfl
      simp only [List.getElem_toArray, List.getElem_cons_zero, List.getElem_cons_succ, Act.put, List.setIfInBounds_toArray, List.set_cons_zero, List.set_cons_succ]
      refine wpAnyT_take (i := 4) hcl rfl (by kernel_rfl) (v := ?_) (fun _ _ _ h => h) hS (Or.inl ⟨rfl, fun w' hS => ?_⟩) (fun hcl => ?_)
      rotate_left
      · skip
        have ce := hS.2.cell
        go_simp
        with_reducible rfl
      simp only [List.getElem_toArray, List.getElem_cons_zero, List.getElem_cons_succ, Act.put, List.setIfInBounds_toArray, List.set_cons_zero, List.set_cons_succ]
      refine wpAnyT_free (i := 5) hcl rfl (by kernel_rfl) (v := ?_) (fun _ _ _ h => h) hS (Or.inl ⟨rfl, fun w' _ => ?_⟩) (fun hcl => ?_)
      rotate_left
      · go_simp
        with_reducible rfl
      simp only [List.getElem_toArray, List.getElem_cons_zero, List.getElem_cons_succ, Act.put, List.setIfInBounds_toArray, List.set_cons_zero, List.set_cons_succ]
      have HSS := hide hS
      clear hS
      refine wpAnyT_step (i := 6) hcl rfl (by kernel_rfl) (fun hcl => ?_)
      simp only [List.getElem_toArray, List.getElem_cons_zero, List.getElem_cons_succ, Act.put, List.setIfInBounds_toArray, List.set_cons_zero, List.set_cons_succ]
      go_wp2_with fail
      refine (HOP.out v hv16 _).mono ?_
      rintro e z1 ⟨rfl, rfl⟩
      go_wp2_with fail
      refine ⟨HSS.out, ?_⟩
      refine wpAnyT_step (i := 7) hcl rfl (by kernel_rfl) (fun hcl => ?_)
      simp only [List.getElem_toArray, List.getElem_cons_zero, List.getElem_cons_succ, Act.put, List.setIfInBounds_toArray, List.set_cons_zero, List.set_cons_succ]
      go_wp2_with fail
      refine ⟨HSS.out, ?_⟩
      have cw := HSS.out.1.row.cell z hzn
      have hfz := HSS.out.1.row.frozen
      refine wpAnyT_last (i := 8) hcl rfl (by kernel_rfl) (by kernel_rfl) (fun hcl => ?_)
      simp only [List.getElem_toArray, List.getElem_cons_zero, List.getElem_cons_succ, Act.put, List.setIfInBounds_toArray, List.set_cons_zero, List.set_cons_succ]
      go_wp2_with fail
      refine wpAnyT_done (by kernel_rfl) ?_ _
      clear cw hfz
      go_wp2_with fail
      go_roundw
      case rel =>
        refine ⟨k + 1, by go_num, hlk, (HSS.out.1.setB z hzn (v.testBit mk)).congr fun q _ => ?_⟩
        rw [← last_step HOk.out.last HT.out.2 mk q]
        by_cases h : q = z
        · subst h; simp
        · rw [if_neg h, if_neg (by omega)]
      case measure => simp [intOf]; omega
end Go.Proofs.YtlomjepemnlliaaDoor
