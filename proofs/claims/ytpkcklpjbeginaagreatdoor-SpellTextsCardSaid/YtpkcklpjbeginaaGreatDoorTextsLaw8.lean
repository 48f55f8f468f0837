/- TextsLaw8: trawllaw08.SpellTexts: the law walked. (Printed by gen_textslaw8.py.) -/
import Derived.Test.YtpkcklpjbeginaaGreatDoorRefEre8
import Derived.Test.YtpkcklpjbeginaaGreatDoorSames
set_option linter.unusedSimpArgs false
set_option linter.unusedVariables false
namespace Go.Proofs.YtpkcklpjbeginaaGreatDoor
open Go.RowKit

mutual
theorem T.same_self8 : ∀ t : T, t.same t = true
 | .mk h l => by
  have hh : h.same h = true := by obtain ⟨k, a, b, c, d, n, i, x, f⟩ := h; simp [Hd.same]
  simp [T.same, hh, TL.same_self8 l]
theorem TL.same_self8 : ∀ l : List T, TL.same l l = true
 | [] => rfl
 | t :: l => by simp [TL.same, T.same_self8 t, TL.same_self8 l]
end
theorem cells_of_blk8 {w : World} {g : Nat} {ty : TypeId} {cs : List Value} (h : Blk w g ty cs.toArray) : CellsAt w ⟨g, 0, none⟩ cs := fun j u hu => by
 rw [Addr.add_lit, Nat.zero_add, h.cell, List.getElem?_toArray]
 exact hu
theorem beq_refl8 (x : ByteArray) : (x.toList == x.toList) = true := beq_self_eq_true _
mutual
theorem T.wf_w64 : ∀ t : T, t.wf → t.w64
 | .mk h l, hw => by
  simp only [T.wf, Hd.wf] at hw
  rw [T.w64]
  exact ⟨⟨hw.1.2.1, hw.1.2.2.1, hw.1.2.2.2.1, hw.1.2.2.2.2.1⟩, TL.wf_w64 l hw.2.2⟩
theorem TL.wf_w64 : ∀ l : List T, TL.wf l → TL.w64 l
 | [], _ => by rw [TL.w64]; trivial
 | t :: l, hw => by
  simp only [TL.wf] at hw
  rw [TL.w64]
  exact ⟨T.wf_w64 t hw.1, TL.wf_w64 l hw.2⟩
end
theorem T.chk_cases (t : T) : (t.check = none ∧ t.chkN = 0) ∨ ∃ k : Nat, k < 21 ∧ t.check = some (sentVar k) ∧ t.chkN = (k : Int) + 1 := by
 unfold T.check T.chkN
 by_cases h1 : t.form = true
 ·rw [if_pos h1, if_pos h1]
  by_cases h2 : 200 < t.depth
  ·rw [if_pos h2, if_pos h2]
   exact .inr ⟨13, by decide, rfl, rfl⟩
  ·rw [if_neg h2, if_neg h2]
   by_cases h3 : 2000 < t.size
   ·rw [if_pos h3, if_pos h3]
    exact .inr ⟨9, by decide, rfl, rfl⟩
   ·rw [if_neg h3, if_neg h3]
    exact .inl ⟨rfl, rfl⟩
 ·rw [if_neg h1, if_neg h1]
  exact .inr ⟨12, by decide, rfl, rfl⟩
theorem T.tidyB_eq (t : T) : (t.check.isNone && (t.tidyN 0).isSome) = t.tidyB := by
 unfold T.tidyB
 rcases t.chk_cases with ⟨h1, h2⟩ | ⟨k, hk, h1, h2⟩
 ·rw [h1, h2]; rfl
 ·rw [h1, decide_eq_false (by omega)]; rfl
/-- The error and its number. -/
theorem T.ere_cases (t : T) : (t.ereE = none ∧ t.ereN = 0) ∨ ∃ k : Nat, k < 21 ∧ t.ereE = some (sentVar k) ∧ t.ereN = (k : Int) + 1 := by
 unfold T.ereE T.ereN
 rcases t.chk_cases with ⟨h1, h2⟩ | ⟨k, hk, h1, h2⟩
 ·rw [if_neg (show ¬ t.chkN ≠ 0 from fun h => h h2), ← T.tidyB_eq, h1]
  simp only
  cases htd : t.tidyN 0 with
  | none => exact .inr ⟨12, by decide, rfl, rfl⟩
  | some x =>
   rw [if_neg (show ¬ (some x : Option Int) = none from fun e => by cases e), if_neg (show ¬ ((none : Option Nat).isNone && (some x : Option Int).isSome) = false from fun e => by cases e)]
   by_cases h3 : 32 < t.nest
   ·rw [if_pos h3, if_pos h3]
    exact .inr ⟨10, by decide, rfl, rfl⟩
   ·rw [if_neg h3, if_neg h3]
    by_cases h4 : 1024 < t.txt.size
    ·rw [if_pos h4, if_pos h4]
     exact .inr ⟨11, by decide, rfl, rfl⟩
    ·rw [if_neg h4, if_neg h4]
     exact .inl ⟨rfl, rfl⟩
 ·rw [if_pos (show t.chkN ≠ 0 by omega), h1]
  exact .inr ⟨k, hk, rfl, h2⟩
theorem T.ereT_eq (t : T) : t.ereT = t.ereS := by
 unfold T.ereT T.ereS
 rcases t.ere_cases with ⟨h1, h2⟩ | ⟨k, hk, h1, h2⟩
 ·rw [if_pos h2, if_pos h1]
 ·rw [if_neg (by omega), if_neg (by rw [h1]; intro e; cases e)]
theorem num8_any (t : T) (w : World) (a : Nat → Addr) (hE : E8 w a) : Calls Tryz.prog 12 #[errOf a t.ereE] w fun e w' => e = .returned (.int .i64 t.ereN) ∧ Below w.heap.size w w' := by
 rcases t.ere_cases with ⟨h1, h2⟩ | ⟨k, hk, h1, h2⟩
 ·rw [h1, h2]
  exact (num_nil w).mono fun e w' h => ⟨h.1, h.2 ▸ Below.refl _ _⟩
 ·rw [h1, h2]
  exact num_err w a k hk hE.errs

set_option maxRecDepth 100000 in
set_option maxHeartbeats 4000000 in
theorem spellTexts_law (t : T) (A : Option Addr) (c : Nat) (w : World) (a : Nat → Addr) (hwf : t.wf) (hE : E8 w a) (hin : T.In w (· < w.heap.size) t A) :
  Calls Tryz.prog 3 #[.agg (t.hd.cells (.slice A t.subs.length c)).toArray] w fun e w' => e = .returned (.bool true) ∧ Below w.heap.size w w' := by
 have HLv := hide (fun (x : World) (hx : Below w.heap.size w x) => lives8_true a x (hE.below hx))
 have HI := hide (fun (x : World) (hx : Below w.heap.size w x) => hin.same (same_of_below hx) (fun y hy => Nat.lt_of_lt_of_le hy hx.size))
 have HFe := hide (fun (x : World) (hi : T.In x (· < x.heap.size) t A) => few_any t A c 3000 x hwf (by decide) (by decide) hi)
 have HCp := hide (fun (hN : t.nodes ≤ 3000) (x : World) (hi : T.In x (· < x.heap.size) t A) => copyNode_any 3000 t A c x hN (by decide) hi)
 have HSm := hide (fun (hN : t.nodes ≤ 3000) (B : Option Addr) (d : Nat) (x : World) (hj : T.In x (· < x.heap.size) t B) (hi : T.In x (· < x.heap.size) t A) => T.same_self8 t ▸ same_any 3000 t t B A d c x hN (by decide) hj hi)
 have HEr := hide (fun (hN : t.nodes ≤ 3000) (B : Option Addr) (d : Nat) (x : World) (hx : Below w.heap.size w x) (hj : T.In x (· < x.heap.size) t B) => Ere8_any t B d x a (Nat.le_trans hN (by decide)) (T.wf_w64 t hwf) hj (hE.below hx))
 have HRe := hide (fun (hN : t.nodes ≤ 3000) (x : World) (hi : T.In x (· < x.heap.size) t A) => T.ereT_eq t ▸ refEre8_any t A c x (Nat.le_trans hN (by decide)) (T.wf_w64 t hwf) hi)
 have HNm := hide (fun (x : World) (hx : Below w.heap.size w x) => num8_any t x a (hE.below hx))
 have HTd := hide (fun (hN : t.nodes ≤ 3000) (B : Option Addr) (d : Nat) (x : World) (hx : Below w.heap.size w x) (hj : T.In x (· < x.heap.size) t B) => T.tidyB_eq t ▸ Tidy8_any t B d x a (Nat.le_trans hN (by decide)) hj (hE.below hx))
 have HRt := hide (fun (hN : t.nodes ≤ 3000) (x : World) (hi : T.In x (· < x.heap.size) t A) => refTidy8_any t A c x (Nat.le_trans hN (by decide)) hi)
 have HN := hide (fun (h : decide (0 ≤ t.left 3000) = true) => (by have := few_nodes (t := t) (m := 3000) (by decide) h; omega : t.nodes ≤ 3000))
 generalize t.ereS = es at *
 generalize errOf a t.ereE = ev at *
 generalize t.ereN = en at *
 generalize t.tidyB = tb at *
 clear hin hE hwf
 go_enter Tryz.func3, Tryz.ntmps3
 go_wp2_with fail
 obtain ⟨w0, hw0⟩ : ∃ y, y = w.alloc (.cells (t.hd.cells (.slice A t.subs.length c)).toArray 27) := ⟨_, rfl⟩
 have hbW := (Below.refl w.heap.size w).alloc (Nat.le_refl _) (.cells (t.hd.cells (.slice A t.subs.length c)).toArray 27)
 have hk := Blk.new w 27 (t.hd.cells (.slice A t.subs.length c)).toArray
 rw [← hw0] at hbW hk
 have H0 := hide (And.intro hbW hk)
 rw [← hw0]
 clear hbW hk hw0
 refine (HLv.out w0 H0.out.1).mono ?_
 rintro e w1 ⟨rfl, hb⟩
 have H1 := hide (And.intro (H0.out.1.trans (hb.mono H0.out.1.size)) (H0.out.2.next hb))
 clear hb H0 HLv
 go_wp2_with (refine wpList_load_cells rfl 27 _ rfl ⟨w.heap.size, 0, none⟩ rfl (t.hd.cells (.slice A t.subs.length c)) _ Tryz.underlying27 rfl (by rw [Tryz.sizeNode]; simp [Hd.cells_length]) (cells_of_blk8 H1.out.2) ?_)
 refine (HFe.out w1 (HI.out w1 H1.out.1)).mono ?_
 rintro e w2 ⟨rfl, hb⟩
 have H2 := hide (And.intro (H1.out.1.trans (hb.mono H1.out.1.size)) (H1.out.2.next hb))
 clear hb H1 HFe
 generalize decide (0 ≤ t.left 3000) = few at *
 cases few with
 | false =>
  go_wp2_with fail
  refine bodyPost_ret (v := .bool true) (by simp [results, Tryz.results3, go_sem]) rfl ?_
  exact ⟨rfl, H2.out.1⟩
 | true =>
  have hN := HN.out rfl
  clear HN
  go_wp2_with (refine wpList_load_cells rfl 27 _ rfl ⟨w.heap.size, 0, none⟩ rfl (t.hd.cells (.slice A t.subs.length c)) _ Tryz.underlying27 rfl (by rw [Tryz.sizeNode]; simp [Hd.cells_length]) (cells_of_blk8 H2.out.2) ?_)
  refine (HCp.out hN w2 (HI.out w2 H2.out.1)).mono ?_
  rintro e w3 ⟨B, d, bs, rfl, hown, _, hbs, hb⟩
  have H3 := hide (And.intro (H2.out.1.trans (hb.mono H2.out.1.size)) (And.intro (H2.out.2.next hb) (hown.in_ (fun b hb => (hbs b hb).2))))
  clear hb H2 HCp hown hbs
  simp only [Hd.cells]
  go_wp2_with fail
  obtain ⟨w4, hw4⟩ : ∃ y, y = w3.alloc (.cells (t.hd.cells (.slice B t.subs.length d)).toArray 27) := ⟨_, rfl⟩
  have hbW := (Below.refl w3.heap.size w3).alloc (Nat.le_refl _) (.cells (t.hd.cells (.slice B t.subs.length d)).toArray 27)
  have hk := Blk.new w3 27 (t.hd.cells (.slice B t.subs.length d)).toArray
  rw [← hw4] at hbW hk
  have H4 := hide (And.intro (H3.out.1.trans (hbW.mono H3.out.1.size)) (And.intro (H3.out.2.1.next hbW) (And.intro hk (H3.out.2.2.next hbW))))
  simp only [Hd.cells] at hw4
  rw [← hw4]
  clear hbW hk hw4 H3
  go_wp2_with (refine wpList_load_cells rfl 27 _ rfl ⟨w3.heap.size, 0, none⟩ rfl (t.hd.cells (.slice B t.subs.length d)) _ Tryz.underlying27 rfl (by rw [Tryz.sizeNode]; simp [Hd.cells_length]) (cells_of_blk8 H4.out.2.2.1) ?_)
  refine (HEr.out hN B d w4 H4.out.1 H4.out.2.2.2).mono ?_
  rintro e w5 ⟨rfl, hb⟩
  have H5 := hide (And.intro (H4.out.1.trans (hb.mono H4.out.1.size)) (And.intro (H4.out.2.1.next hb) (And.intro (H4.out.2.2.1.next hb) (H4.out.2.2.2.next hb))))
  clear hb H4 HEr
  go_wp2_with (refine wpList_load_cells rfl 27 _ rfl ⟨w.heap.size, 0, none⟩ rfl (t.hd.cells (.slice A t.subs.length c)) _ Tryz.underlying27 rfl (by rw [Tryz.sizeNode]; simp [Hd.cells_length]) (cells_of_blk8 H5.out.2.1) ?_)
  refine (HRe.out hN w5 (HI.out w5 H5.out.1)).mono ?_
  rintro e w6 ⟨rfl, hb⟩
  have H6 := hide (And.intro (H5.out.1.trans (hb.mono H5.out.1.size)) (And.intro (H5.out.2.1.next hb) (And.intro (H5.out.2.2.1.next hb) (H5.out.2.2.2.next hb))))
  have q0 := beq_refl8 es
  clear hb H5 HRe
  have HN := hide (fun (x : Later w6) => HNm.out x.val (H6.out.1.trans (x.2.mono H6.out.1.size)))
  have HT1 := hide (fun (x : Later w6) => HTd.out hN B d x.val (H6.out.1.trans (x.2.mono H6.out.1.size)) (H6.out.2.2.2.next x.2))
  have HT2 := hide (fun (x : Later w6) => HRt.out hN x.val (HI.out x.val (H6.out.1.trans (x.2.mono H6.out.1.size))))
  have HS := hide (fun (x : Later w6) => HSm.out hN B d x.val (H6.out.2.2.2.next x.2) (HI.out x.val (H6.out.1.trans (x.2.mono H6.out.1.size))))
  have c0 := fun (x : Later w6) => (H6.out.2.1.next x.2).cell
  have c3 := fun (x : Later w6) => (H6.out.2.2.1.next x.2).cell
  have HB := hide H6.out.1
  simp only [Hd.cells] at c0 c3 HT1 HT2 HS ⊢
  have q1 : (tb == tb) = true := by cases tb <;> rfl
  clear HNm HTd HRt HSm HI H6
  generalize w3.heap.size = gm at *
  go_upto_region 8 with fail
  refine wp_region_later (by kernel_rfl) (by kernel_rfl) ?_
  repeat (go_big_quiet_step (first | with_reducible exact calls_later (HN.out _) | with_reducible exact calls_later (HT1.out _) | with_reducible exact calls_later (HT2.out _) | with_reducible exact calls_later (HS.out _)))
  refine wpQuiet_nil ?_
  intro w8 hw6
  obtain ⟨x, hxe⟩ := hw6
  have hx : Below w6.heap.size w6 w8 := hxe ▸ x.2
  clear hxe x
  have HX := hide (HB.out.trans (hx.mono HB.out.size))
  clear hx c0 c3 HN HT1 HT2 HS
  go_wp2_with fail
  refine bodyPost_ret (v := .bool true) (by simp [results, Tryz.results3, go_sem]) rfl ?_
  exact ⟨rfl, HX.out⟩
theorem textsLaw8 (t : T) (A : Option Addr) (c : Nat) (w : World) (a : Nat → Addr) (hwf : t.wf) (hin : T.In w (· < w.heap.size) t A) (hE : E8 w a) :
  Calls Tryz.prog 3 #[.agg (t.hd.cells (.slice A t.subs.length c)).toArray] w fun e w' => e = .returned (.bool true) ∧ Below w.heap.size w w' := spellTexts_law t A c w a hwf hE hin
end Go.Proofs.YtpkcklpjbeginaaGreatDoor
