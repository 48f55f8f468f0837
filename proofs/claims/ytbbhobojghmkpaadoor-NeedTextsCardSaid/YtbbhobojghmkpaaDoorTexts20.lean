/- trawllaw20.NeedTexts: for every tree true, and what was there stays. (Printed by gen_texts20.py.) -/
import Derived.Test.YtbbhobojghmkpaaDoorLives20
import Derived.Test.YtbbhobojghmkpaaDoorRefReq20
import Derived.Test.YtbbhobojghmkpaaDoorRefCheck20
import Derived.Test.YtbbhobojghmkpaaDoorSames
set_option linter.unusedSimpArgs false
set_option linter.unusedVariables false
namespace Go.Proofs.YtbbhobojghmkpaaDoor
open Go.RowKit

mutual
theorem T.same_self20 : ∀ t : T, t.same t = true
  | .mk h l => by
    have hh : h.same h = true := by obtain ⟨k, a, b, c, d, n, i, x, f⟩ := h; simp [Hd.same]
    simp [T.same, hh, TL.same_self20 l]
theorem TL.same_self20 : ∀ l : List T, TL.same l l = true
  | [] => rfl
  | t :: l => by simp [TL.same, T.same_self20 t, TL.same_self20 l]
end
theorem cells_of_blk {w : World} {g : Nat} {ty : TypeId} {cs : List Value} (h : Blk w g ty cs.toArray) : CellsAt w ⟨g, 0, none⟩ cs := fun j u hu => by
  rw [Addr.add_lit, Nat.zero_add, h.cell, List.getElem?_toArray]
  exact hu
theorem beq_refl20 (x : ByteArray) : (x.toList == x.toList) = true := by rw [toList_beq]; simp

set_option maxRecDepth 100000 in
set_option maxHeartbeats 2000000 in
theorem texts_true (t : T) (A : Option Addr) (c : Nat) (w : World) (a : Nat → Addr) (hwf : t.wf) (hT : Tab w) (hE : Sent [0, 1, 2] w a) (hin : T.In w (· < w.heap.size) t A) :
    Calls Tryd.prog 3 #[.agg (t.hd.cells (.slice A t.subs.length c)).toArray] w fun e w' => e = .returned (.bool true) ∧ Below w.heap.size w w' := by
  have HLv := hide (fun (x : World) (hx : Below w.heap.size w x) => lives20_any x a (hT.below hx) (hE.below hx))
  have HI := hide (fun (x : World) (hx : Below w.heap.size w x) => hin.same (same_of_below hx) (fun y hy => Nat.lt_of_lt_of_le hy hx.size))
  have HFe := hide (fun (x : World) (hi : T.In x (· < x.heap.size) t A) => few_any t A c 2500 x hwf (by decide) (by decide) hi)
  have HCp := hide (fun (hN : t.nodes ≤ 2500) (x : World) (hi : T.In x (· < x.heap.size) t A) => copyNode_any 2500 t A c x hN (by decide) hi)
  have HSm := hide (fun (hN : t.nodes ≤ 2500) (B : Option Addr) (d : Nat) (x : World) (hj : T.In x (· < x.heap.size) t B) (hi : T.In x (· < x.heap.size) t A) => T.same_self20 t ▸ same_any 2500 t t B A d c x hN (by decide) hj hi)
  have HOn := hide (fun (hN : t.nodes ≤ 2500) (B : Option Addr) (d : Nat) (x : World) (hx : Below w.heap.size w x) (hj : T.In x (· < x.heap.size) t B) => Only_any t B d x a (Nat.le_trans hN (by decide)) hwf (hT.below hx) (hE.below hx) hj)
  have HRe := hide (fun (hN : t.nodes ≤ 2500) (B : Option Addr) (d : Nat) (x : World) (hx : Below w.heap.size w x) (hj : T.In x (· < x.heap.size) t B) => Required_any t B d x a (Nat.le_trans hN (by decide)) hwf (hT.below hx) (hE.below hx) hj)
  have HCk := hide (fun (hN : t.nodes ≤ 2500) (x : World) (hi : T.In x (· < x.heap.size) t A) => refCheck_any t A c x (Nat.le_trans hN (by decide)) hi)
  have HRO := hide (fun (hN : t.nodes ≤ 2500) (hf : t.form = true) (x : World) (hx : Below w.heap.size w x) (hi : T.In x (· < x.heap.size) t A) => refOnly_any 2500 t A c x hN (by decide) hf hwf hi)
  have HRR := hide (fun (hN : t.nodes ≤ 2500) (hf : t.form = true) (x : World) (hx : Below w.heap.size w x) (hi : T.In x (· < x.heap.size) t A) => refReq_any 2500 t A c x hN (by decide) hf hwf hi)
  have HN := hide (fun (h : decide (0 ≤ t.left 2500) = true) => (by have := few_nodes (t := t) (m := 2500) (by decide) h; omega : t.nodes ≤ 2500))
  clear hin hE hT hwf
  go_enter Tryd.func3, Tryd.ntmps3
  go_wp2_with fail
  obtain ⟨w0, hw0⟩ : ∃ y, y = w.alloc (.cells (t.hd.cells (.slice A t.subs.length c)).toArray 27) := ⟨_, rfl⟩
  have hbW := (Below.refl w.heap.size w).alloc (Nat.le_refl _) (.cells (t.hd.cells (.slice A t.subs.length c)).toArray 27)
  have hk := Blk.new w 27 (t.hd.cells (.slice A t.subs.length c)).toArray
  rw [← hw0] at hbW hk
  have H0 := hide (And.intro hbW hk)
  rw [← hw0]
  clear hbW hk hw0
  refine (HLv.out w0 H0.out.1).mono ?_
  rintro e w1 ⟨rfl, hb⟩
  have H1 := hide (And.intro (H0.out.1.trans (hb.mono H0.out.1.size)) (H0.out.2.next hb))
  clear hb H0 HLv
  go_wp2_with (refine wpList_load_cells rfl 27 _ rfl ⟨w.heap.size, 0, none⟩ rfl (t.hd.cells (.slice A t.subs.length c)) _ Tryd.underlying27 rfl (by rw [Tryd.sizeNode]; simp [Hd.cells_length]) (cells_of_blk H1.out.2) ?_)
  refine (HFe.out w1 (HI.out w1 H1.out.1)).mono ?_
  rintro e w2 ⟨rfl, hb⟩
  have H2 := hide (And.intro (H1.out.1.trans (hb.mono H1.out.1.size)) (H1.out.2.next hb))
  clear hb H1 HFe
  generalize decide (0 ≤ t.left 2500) = few at *
  cases few with
  | false =>
    go_wp2_with fail
    refine bodyPost_ret (v := .bool true) (by simp [results, Tryd.results3, go_sem]) rfl ?_
    exact ⟨rfl, H2.out.1⟩
  | true =>
    have hN := HN.out rfl
    clear HN
    go_wp2_with (refine wpList_load_cells rfl 27 _ rfl ⟨w.heap.size, 0, none⟩ rfl (t.hd.cells (.slice A t.subs.length c)) _ Tryd.underlying27 rfl (by rw [Tryd.sizeNode]; simp [Hd.cells_length]) (cells_of_blk H2.out.2) ?_)
    refine (HCp.out hN w2 (HI.out w2 H2.out.1)).mono ?_
    rintro e w3 ⟨B, d, bs, rfl, hown, _, hbs, hb⟩
    have H3 := hide (And.intro (H2.out.1.trans (hb.mono H2.out.1.size)) (And.intro (H2.out.2.next hb) (hown.in_ (fun b hb => (hbs b hb).2))))
    clear hb H2 HCp hown hbs
    simp only [Hd.cells]
    go_wp2_with fail
    obtain ⟨w4, hw4⟩ : ∃ y, y = w3.alloc (.cells (t.hd.cells (.slice B t.subs.length d)).toArray 27) := ⟨_, rfl⟩
    have hbW := (Below.refl w3.heap.size w3).alloc (Nat.le_refl _) (.cells (t.hd.cells (.slice B t.subs.length d)).toArray 27)
    have hk := Blk.new w3 27 (t.hd.cells (.slice B t.subs.length d)).toArray
    rw [← hw4] at hbW hk
    have H4 := hide (And.intro (H3.out.1.trans (hbW.mono H3.out.1.size)) (And.intro (H3.out.2.1.next hbW) (And.intro hk (H3.out.2.2.next hbW))))
    simp only [Hd.cells] at hw4
    rw [← hw4]
    clear hbW hk hw4 H3
    have ho := HOn.out hN B d
    have hr := HRe.out hN B d
    obtain ⟨s, b, r, ho, hr, hnone, hsome⟩ : ∃ (s : ByteArray) (b : Bool) (r : ByteArray),
        (∀ (x : World), Below w.heap.size w x → T.In x (· < x.heap.size) t B → Calls Tryd.prog 14 #[.agg (t.hd.cells (.slice B t.subs.length d)).toArray] x fun e w' => e = .returned (.tuple #[.string s, .bool b]) ∧ Below x.heap.size x w') ∧
        (∀ (x : World), Below w.heap.size w x → T.In x (· < x.heap.size) t B → Calls Tryd.prog 15 #[.agg (t.hd.cells (.slice B t.subs.length d)).toArray] x fun e w' => e = .returned (.string r) ∧ Below x.heap.size x w') ∧
        (t.check = none → optV t.only = .tuple #[.string s, .bool b] ∧ t.req = r) ∧ (∀ q, t.check = some q → s = ⟨#[]⟩ ∧ b = false ∧ r = ⟨#[]⟩) := by
      cases hc : t.check with
      | none =>
        rw [hc] at ho hr
        exact ⟨_, _, _, ho, hr, fun _ => ⟨rfl, rfl⟩, fun q h => by cases h⟩
      | some q =>
        rw [hc] at ho hr
        exact ⟨_, _, _, ho, hr, fun h => by (cases h), fun _ _ => ⟨rfl, rfl, rfl⟩⟩
    have HO := hide ho
    have HR := hide hr
    have HC := hide (And.intro hnone hsome)
    clear ho hr hnone hsome HOn HRe
    go_wp2_with (refine wpList_load_cells rfl 27 _ rfl ⟨w3.heap.size, 0, none⟩ rfl (t.hd.cells (.slice B t.subs.length d)) _ Tryd.underlying27 rfl (by rw [Tryd.sizeNode]; simp [Hd.cells_length]) (cells_of_blk H4.out.2.2.1) ?_)
    refine (HO.out w4 H4.out.1 H4.out.2.2.2).mono ?_
    rintro e w5 ⟨rfl, hb⟩
    have H5 := hide (And.intro (H4.out.1.trans (hb.mono H4.out.1.size)) (And.intro (H4.out.2.1.next hb) (And.intro (H4.out.2.2.1.next hb) (H4.out.2.2.2.next hb))))
    clear hb H4 HO
    go_wp2_with (refine wpList_load_cells rfl 27 _ rfl ⟨w3.heap.size, 0, none⟩ rfl (t.hd.cells (.slice B t.subs.length d)) _ Tryd.underlying27 rfl (by rw [Tryd.sizeNode]; simp [Hd.cells_length]) (cells_of_blk H5.out.2.2.1) ?_)
    refine (HR.out w5 H5.out.1 H5.out.2.2.2).mono ?_
    rintro e w6 ⟨rfl, hb⟩
    have H6 := hide (And.intro (H5.out.1.trans (hb.mono H5.out.1.size)) (And.intro (H5.out.2.1.next hb) (And.intro (H5.out.2.2.1.next hb) (H5.out.2.2.2.next hb))))
    clear hb H5 HR
    go_wp2_with (first | (refine wpList_load_cells rfl 27 _ rfl ⟨w3.heap.size, 0, none⟩ rfl (t.hd.cells (.slice B t.subs.length d)) _ Tryd.underlying27 rfl (by rw [Tryd.sizeNode]; simp [Hd.cells_length]) (cells_of_blk H6.out.2.2.1) ?_) | (refine wpList_load_cells rfl 27 _ rfl ⟨w.heap.size, 0, none⟩ rfl (t.hd.cells (.slice A t.subs.length c)) _ Tryd.underlying27 rfl (by rw [Tryd.sizeNode]; simp [Hd.cells_length]) (cells_of_blk H6.out.2.1) ?_))
    refine (HSm.out hN B d w6 H6.out.2.2.2 (HI.out w6 H6.out.1)).mono ?_
    rintro e w7 ⟨rfl, hb⟩
    have H7 := hide (And.intro (H6.out.1.trans (hb.mono H6.out.1.size)) (H6.out.2.1.next hb))
    clear hb H6 HSm
    go_wp2_with (refine wpList_load_cells rfl 27 _ rfl ⟨w.heap.size, 0, none⟩ rfl (t.hd.cells (.slice A t.subs.length c)) _ Tryd.underlying27 rfl (by rw [Tryd.sizeNode]; simp [Hd.cells_length]) (cells_of_blk H7.out.2) ?_)
    refine (HCk.out hN w7 (HI.out w7 H7.out.1)).mono ?_
    rintro e w8 ⟨rfl, hb⟩
    have H8 := hide (And.intro (H7.out.1.trans (hb.mono H7.out.1.size)) (H7.out.2.next hb))
    clear hb H7 HCk
    cases hck : t.check with
    | some q =>
      obtain ⟨rfl, rfl, rfl⟩ := HC.out.2 q hck
      have gz : decide (t.chkN = 0) = false := decide_eq_false (T.chkN_some hck)
      have gz' : t.chkN ≠ 0 := T.chkN_some hck
      have q0 := beq_refl20 ⟨#[]⟩
      generalize t.chkN = n at *
      clear hck HC HRO HRR
      go_wp2_with fail
      refine bodyPost_ret (v := .bool true) (by simp [results, Tryd.results3, go_sem]) rfl ?_
      exact ⟨rfl, H8.out.1⟩
    | none =>
      obtain ⟨ho, hr⟩ := HC.out.1 hck
      have hf := T.form_of_check0 hck
      have gz : t.chkN = 0 := T.chkN_none hck
      rw [gz]
      have hro := HRO.out hN hf
      have hrr := HRR.out hN hf
      rw [ho] at hro
      rw [hr] at hrr
      have HO := hide hro
      have HR := hide hrr
      clear hck HC HRO HRR ho hr hf gz hro hrr
      go_wp2_with (refine wpList_load_cells rfl 27 _ rfl ⟨w.heap.size, 0, none⟩ rfl (t.hd.cells (.slice A t.subs.length c)) _ Tryd.underlying27 rfl (by rw [Tryd.sizeNode]; simp [Hd.cells_length]) (cells_of_blk H8.out.2) ?_)
      refine (HO.out w8 H8.out.1 (HI.out w8 H8.out.1)).mono ?_
      rintro e w9 ⟨rfl, hb⟩
      have H9 := hide (And.intro (H8.out.1.trans (hb.mono H8.out.1.size)) (H8.out.2.next hb))
      clear hb H8 HO
      have q0 := beq_refl20 s
      have q1 := beq_refl20 r
      have c9 := H9.out.2.cell
      simp only [Hd.cells] at c9 HR
      cases b <;> (
      go_wp2_with fail
      refine (HR.out w9 H9.out.1 (HI.out w9 H9.out.1)).mono ?_
      rintro e w10 ⟨rfl, hb⟩
      have H10 := hide (H9.out.1.trans (hb.mono H9.out.1.size))
      clear hb H9 HR c9
      go_wp2_with fail
      refine bodyPost_ret (v := .bool true) (by simp [results, Tryd.results3, go_sem]) rfl ?_
      exact ⟨rfl, H10.out⟩)
theorem texts_law (t : T) (A : Option Addr) (c : Nat) (w : World) (a : Nat → Addr) (hwf : t.wf) (hin : T.In w (· < w.heap.size) t A) (hE : Sent [0, 1, 2] w a) (hT : Tab w) :
    Calls Tryd.prog 3 #[.agg (t.hd.cells (.slice A t.subs.length c)).toArray] w fun e w' => e = .returned (.bool true) ∧ Below w.heap.size w w' := texts_true t A c w a hwf hT hE hin
end Go.Proofs.YtbbhobojghmkpaaDoor
