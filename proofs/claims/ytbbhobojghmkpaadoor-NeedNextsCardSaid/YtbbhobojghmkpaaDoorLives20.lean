/- trawllaw20.lives: its fixed facts. (Printed by gen_lives20.py.) -/
import Derived.Test.YtbbhobojghmkpaaDoorNext20
import Derived.Test.YtbbhobojghmkpaaDoorText
set_option linter.unusedSimpArgs false
set_option linter.unusedVariables false
namespace Go.Proofs.YtbbhobojghmkpaaDoor
open Go.RowKit

def byt20 (b : Nat) : T := T.byte b
def tX : T := .mk ⟨8, 0, 0, 0, 0, 0, 0, -1, false⟩ [T.byte 120]
def tABC : T := .mk ⟨5, 0, 0, 0, 0, 0, 0, 0, false⟩ [T.byte 97, T.byte 98, T.byte 99]
def tD : T := .mk ⟨8, 0, 0, 0, 0, 0, 0, 1, false⟩ [T.byte 100]
def t20 : T := .mk ⟨5, 0, 0, 0, 0, 0, 0, 0, false⟩ [tX, tABC, tD]
def tAB : T := .mk ⟨5, 0, 0, 0, 0, 0, 0, 0, false⟩ [T.byte 97, T.byte 98]
def tABAB : T := .mk ⟨8, 0, 0, 0, 0, 0, 2, 2, false⟩ [tAB]
theorem tABAB_check : tABAB.check = none := by decide +kernel
theorem tABAB_only : tABAB.only = some ⟨#[97, 98, 97, 98]⟩ := by decide +kernel
theorem t20_check : t20.check = none := by decide +kernel
theorem t20_req : t20.req = ⟨#[97, 98, 99]⟩ := by decide +kernel
theorem t20_next : t20.nextOf ⟨#[97, 98, 120, 97, 98, 99]⟩ 1 = some 2 := by decide +kernel
theorem tABAB_wf : tABAB.wf := by
  simp [tABAB, tAB, T.byte, T.wf, TL.wf, Hd.wf, IsI64, IsU64]
  decide
theorem t20_wf : t20.wf := by
  simp [t20, tX, tABC, tD, T.byte, T.wf, TL.wf, Hd.wf, IsI64, IsU64]
  decide
theorem T.hd_mk (h : Hd) (l : List T) : (T.mk h l).hd = h := rfl
theorem T.subs_mk (h : Hd) (l : List T) : (T.mk h l).subs = l := rfl
theorem calls_fresh20 {f : FuncId} {args : Array Value} {w : World} {t t' : T} (h : Calls Tryd.prog f args w (Fresh t w)) (e : t = t') : Calls Tryd.prog f args w (Fresh t' w) := e ▸ h
theorem triple_in {w : World} {t u v : T} {B C D : Option Addr} (b c d : Nat) (h1 : T.In w (· < w.heap.size) t B) (h2 : T.In w (· < w.heap.size) u C) (h3 : T.In w (· < w.heap.size) v D) (W : World) (hW : W = w.alloc (.cells (t.hd.cells (.slice B t.subs.length b) ++ (u.hd.cells (.slice C u.subs.length c) ++ v.hd.cells (.slice D v.subs.length d))).toArray 27)) :
    TL.In W (· < W.heap.size) [t, u, v] (some ⟨w.heap.size, 0, none⟩) := by
  have hb := (Below.refl w.heap.size w).alloc (Nat.le_refl _) (.cells (t.hd.cells (.slice B t.subs.length b) ++ (u.hd.cells (.slice C u.subs.length c) ++ v.hd.cells (.slice D v.subs.length d))).toArray 27)
  have hk := Blk.new w 27 (t.hd.cells (.slice B t.subs.length b) ++ (u.hd.cells (.slice C u.subs.length c) ++ v.hd.cells (.slice D v.subs.length d))).toArray
  rw [← hW] at hb hk
  have hz : w.heap.size < W.heap.size := hk.lt
  refine ⟨w.heap.size, 0, B, b, rfl, hz, fun j x hx => ?_, h1.next hb, w.heap.size, 10, C, c, rfl, hz, fun j x hx => ?_, h2.next hb, w.heap.size, 20, D, d, rfl, hz, fun j x hx => ?_, h3.next hb, trivial⟩
  · rw [Addr.add_lit, Nat.zero_add, hk.cell, List.getElem?_toArray, List.getElem?_append_left (List.getElem?_eq_some_iff.1 hx).1]
    exact hx
  · rw [Addr.add_lit, hk.cell, List.getElem?_toArray, List.getElem?_append_right (by simp [Hd.cells_length])]
    simp only [Hd.cells_length]
    rw [show 10 + j - 10 = j by omega, List.getElem?_append_left (List.getElem?_eq_some_iff.1 hx).1]
    exact hx
  · rw [Addr.add_lit, hk.cell, List.getElem?_toArray, List.getElem?_append_right (by simp [Hd.cells_length]; omega), List.getElem?_append_right (by simp [Hd.cells_length]; omega)]
    simp only [Hd.cells_length]
    rw [show 20 + j - 10 - 10 = j by omega]
    exact hx
theorem Fresh.get {t : T} {w : World} {e : Ending} {w' : World} (h : Fresh t w e w') : ∃ B c, e = .returned (.agg (t.hd.cells (.slice B t.subs.length c)).toArray) ∧ T.In w' (· < w'.heap.size) t B ∧ Below w.heap.size w w' := by
  obtain ⟨B, c, bs, h1, h2, _, h4, h5⟩ := h
  exact ⟨B, c, h1, h2.in_ (fun b hb => (h4 b hb).2), h5⟩
set_option maxRecDepth 100000 in
set_option maxHeartbeats 1500000 in
theorem lives20_any (w : World) (a : Nat → Addr) (hT : Tab w) (hE : Sent [0, 1, 2] w a) : Calls Tryd.prog 11 #[] w fun e w' => e = .returned (.bool true) ∧ Below w.heap.size w w' := by
  have HE := hide (fun x (hx : Below w.heap.size w x) => hE.below hx)
  have HT := hide (fun x (hx : Below w.heap.size w x) => hT.below hx)
  clear hE hT
  obtain ⟨tx, htx⟩ : ∃ t, t = T.byte 120 := ⟨_, rfl⟩
  obtain ⟨ta, hta⟩ : ∃ t, t = tABC := ⟨_, rfl⟩
  obtain ⟨td, htd⟩ : ∃ t, t = T.byte 100 := ⟨_, rfl⟩
  obtain ⟨tb, htb⟩ : ∃ t, t = tAB := ⟨_, rfl⟩
  have HX := hide (fun y => calls_fresh20 (text_any ⟨#[120]⟩ y (by decide)) (show T.seq (T.texts ⟨#[120]⟩) = tx from htx ▸ rfl))
  have HA := hide (fun y => calls_fresh20 (text_any ⟨#[97, 98, 99]⟩ y (by decide)) (show T.seq (T.texts ⟨#[97, 98, 99]⟩) = ta from hta ▸ rfl))
  have HD := hide (fun y => calls_fresh20 (text_any ⟨#[100]⟩ y (by decide)) (show T.seq (T.texts ⟨#[100]⟩) = td from htd ▸ rfl))
  have HB := hide (fun y => calls_fresh20 (text_any ⟨#[97, 98]⟩ y (by decide)) (show T.seq (T.texts ⟨#[97, 98]⟩) = tb from htb ▸ rfl))
  have n1 : tx.nodes ≤ 10 := by rw [htx]; decide
  have n2 : ta.nodes ≤ 10 := by rw [hta]; decide
  have n3 : td.nodes ≤ 10 := by rw [htd]; decide
  have n4 : tb.nodes ≤ 10 := by rw [htb]; decide
  have e20 : T.mk ⟨5, 0, 0, 0, 0, 0, 0, 0, false⟩ [T.mk ⟨8, 0, 0, 0, 0, 0, 0, -1, false⟩ [tx], ta, T.mk ⟨8, 0, 0, 0, 0, 0, 0, 1, false⟩ [td]] = t20 := by rw [htx, hta, htd]; rfl
  have eAB : T.mk ⟨8, 0, 0, 0, 0, 0, 2, 2, false⟩ [tb] = tABAB := by rw [htb]; rfl
  have HEQ := hide (And.intro e20 eAB)
  clear htx hta htd htb e20 eAB
  go_enter Tryd.func11, Tryd.ntmps11
  go_wp2_with fail
  refine (HX.out w).mono ?_
  intro e w1 hf
  obtain ⟨B1, c1, rfl, hi, hb⟩ := hf.get
  have H1 := hide (And.intro hb hi)
  have HR := hide (rep_any tx B1 c1 0 (-1) w1 (by omega) hi)
  clear hf hb hi HX
  simp only [Hd.cells] at HR ⊢
  go_wp2_with fail
  refine HR.out.mono ?_
  intro e w2 hf
  obtain ⟨B2, c2, rfl, hi, hb⟩ := hf.get
  have H2 := hide (And.intro (H1.out.1.trans (hb.mono H1.out.1.size)) hi)
  clear hf hb hi HR H1
  simp only [T.hd_mk, T.subs_mk, Hd.cells, List.length_cons, List.length_nil, Nat.zero_add]
  go_wp2_with fail
  refine (HA.out w2).mono ?_
  intro e w3 hf
  obtain ⟨B3, c3, rfl, hi, hb⟩ := hf.get
  have H3 := hide (And.intro (H2.out.1.trans (hb.mono H2.out.1.size)) (And.intro (H2.out.2.next hb) hi))
  clear hf hb hi HA H2
  simp only [Hd.cells]
  go_wp2_with fail
  refine (HD.out w3).mono ?_
  intro e w4 hf
  obtain ⟨B4, c4, rfl, hi, hb⟩ := hf.get
  have H4 := hide (And.intro (H3.out.1.trans (hb.mono H3.out.1.size)) (And.intro (H3.out.2.1.next hb) (H3.out.2.2.next hb)))
  have HR := hide (rep_any td B4 c4 0 1 w4 (by omega) hi)
  clear hf hb hi HD H3
  simp only [Hd.cells] at HR ⊢
  go_wp2_with fail
  refine HR.out.mono ?_
  intro e w5 hf
  obtain ⟨B5, c5, rfl, hi, hb⟩ := hf.get
  have H5 := hide (And.intro (H4.out.1.trans (hb.mono H4.out.1.size)) (And.intro (H4.out.2.1.next hb) (And.intro (H4.out.2.2.next hb) hi)))
  clear hf hb hi HR H4
  simp only [T.hd_mk, T.subs_mk, Hd.cells, List.length_cons, List.length_nil, Nat.zero_add]
  obtain ⟨W, hW⟩ : ∃ W, W = w5.alloc (.cells (Hd.cells ⟨8, 0, 0, 0, 0, 0, 0, -1, false⟩ (.slice B2 [tx].length c2) ++ (ta.hd.cells (.slice B3 ta.subs.length c3) ++ Hd.cells ⟨8, 0, 0, 0, 0, 0, 0, 1, false⟩ (.slice B5 [td].length c5))).toArray 27) := ⟨_, rfl⟩
  have hti := triple_in c2 c3 c5 H5.out.2.1 H5.out.2.2.1 H5.out.2.2.2 W hW
  have hbW := (Below.refl w5.heap.size w5).alloc (Nat.le_refl _) (.cells (Hd.cells ⟨8, 0, 0, 0, 0, 0, 0, -1, false⟩ (.slice B2 [tx].length c2) ++ (ta.hd.cells (.slice B3 ta.subs.length c3) ++ Hd.cells ⟨8, 0, 0, 0, 0, 0, 0, 1, false⟩ (.slice B5 [td].length c5))).toArray 27)
  rw [← hW] at hbW
  have hsq := seq_any [T.mk ⟨8, 0, 0, 0, 0, 0, 0, -1, false⟩ [tx], ta, T.mk ⟨8, 0, 0, 0, 0, 0, 0, 1, false⟩ [td]] (some ⟨w5.heap.size, 0, none⟩) 3 W (by simp only [T.nodes, TL.nodes]; omega) hti
  have HSQ := hide (calls_fresh20 hsq (show T.seq [T.mk ⟨8, 0, 0, 0, 0, 0, 0, -1, false⟩ [tx], ta, T.mk ⟨8, 0, 0, 0, 0, 0, 0, 1, false⟩ [td]] = t20 from HEQ.out.1 ▸ rfl))
  have HW := hide (H5.out.1.trans (hbW.mono H5.out.1.size))
  simp only [Hd.cells, List.length_cons, List.length_nil, Nat.zero_add, List.cons_append, List.nil_append] at hW HSQ
  clear hti hbW hsq H5
  go_wp2_with fail
  rw [← hW]
  refine HSQ.out.mono ?_
  intro e w6 hf
  obtain ⟨B6, c6, rfl, hi, hb⟩ := hf.get
  have H6 := hide (And.intro (HW.out.trans (hb.mono HW.out.size)) hi)
  clear hf hb hi HSQ HW hW
  obtain ⟨u20, hu20⟩ : ∃ u, u = t20 := ⟨_, rfl⟩
  rw [← hu20] at H6 ⊢
  have HU := hide hu20
  clear hu20
  simp only [Hd.cells]
  go_wp2_with fail
  obtain ⟨w7, hw7⟩ : ∃ y, y = w6.alloc (.cells (u20.hd.cells (.slice B6 u20.subs.length c6)).toArray 27) := ⟨_, rfl⟩
  have hbW := (Below.refl w6.heap.size w6).alloc (Nat.le_refl _) (.cells (u20.hd.cells (.slice B6 u20.subs.length c6)).toArray 27)
  have hk := Blk.new w6 27 (u20.hd.cells (.slice B6 u20.subs.length c6)).toArray
  rw [← hw7] at hbW hk
  have H7 := hide (And.intro (H6.out.1.trans (hbW.mono H6.out.1.size)) (And.intro (H6.out.2.next hbW) hk))
  simp only [Hd.cells] at hw7
  rw [← hw7]
  clear hbW hk H6 hw7
  refine (HB.out w7).mono ?_
  intro e w8 hf
  obtain ⟨B8, c8, rfl, hi, hb⟩ := hf.get
  have H8 := hide (And.intro (H7.out.1.trans (hb.mono H7.out.1.size)) (And.intro (H7.out.2.1.next hb) (H7.out.2.2.next hb)))
  have HR := hide (calls_fresh20 (rep_any tb B8 c8 2 2 w8 (by omega) hi) HEQ.out.2)
  clear hf hb hi H7 HB
  simp only [Hd.cells]
  go_wp2_with fail
  refine HR.out.mono ?_
  intro e w9 hf
  obtain ⟨B9, c9, rfl, hi, hb⟩ := hf.get
  have H9 := hide (And.intro (H8.out.1.trans (hb.mono H8.out.1.size)) (And.intro (H8.out.2.1.next hb) (H8.out.2.2.next hb)))
  have ho := Only_any tABAB B9 c9 w9 a (by decide) tABAB_wf (HT.out w9 H9.out.1) (HE.out w9 H9.out.1) hi
  rw [tABAB_check] at ho
  simp only [tABAB_only] at ho
  have HO := hide ho
  clear hf hb hi HR H8 ho
  simp only [Hd.cells] at HO ⊢
  go_wp2_with fail
  refine HO.out.mono ?_
  rintro e w10 ⟨rfl, hb⟩
  have H10 := hide (And.intro (H9.out.1.trans (hb.mono H9.out.1.size)) (And.intro (H9.out.2.1.next hb) (H9.out.2.2.next hb)))
  clear hb HO H9
  simp only [optV, Option.getD_some, Option.isSome_some]
  have HL := hide (show CellsAt w10 ⟨w6.heap.size, 0, none⟩ (u20.hd.cells (.slice B6 u20.subs.length c6)) from fun j u hu => by
    rw [Addr.add_lit, Nat.zero_add, H10.out.2.2.cell, List.getElem?_toArray]
    exact hu)
  go_wp2_with (refine wpList_load_cells rfl 27 _ rfl ⟨w6.heap.size, 0, none⟩ rfl (u20.hd.cells (.slice B6 u20.subs.length c6)) _ Tryd.underlying27 rfl (by rw [Tryd.sizeNode]; simp [Hd.cells_length]) HL.out ?_)
  have hn := next_any u20 B6 c6 ⟨#[97, 98, 120, 97, 98, 99]⟩ 1 w10 a (by decide) (by rw [HU.out]; decide) (by rw [HU.out]; exact t20_wf) (HT.out w10 H10.out.1) (HE.out w10 H10.out.1) H10.out.2.1
  rw [show u20.nextOf ⟨#[97, 98, 120, 97, 98, 99]⟩ 1 = some 2 by rw [HU.out]; exact t20_next] at hn
  refine hn.mono ?_
  rintro e w11 ⟨rfl, hb⟩
  have H11 := hide (And.intro (H10.out.1.trans (hb.mono H10.out.1.size)) (And.intro (H10.out.2.1.next hb) (H10.out.2.2.next hb)))
  clear hb hn HL H10
  simp only [optN, Option.getD_some, Option.isSome_some]
  have HL := hide (show CellsAt w11 ⟨w6.heap.size, 0, none⟩ (u20.hd.cells (.slice B6 u20.subs.length c6)) from fun j u hu => by
    rw [Addr.add_lit, Nat.zero_add, H11.out.2.2.cell, List.getElem?_toArray]
    exact hu)
  go_wp2_with (refine wpList_load_cells rfl 27 _ rfl ⟨w6.heap.size, 0, none⟩ rfl (u20.hd.cells (.slice B6 u20.subs.length c6)) _ Tryd.underlying27 rfl (by rw [Tryd.sizeNode]; simp [Hd.cells_length]) HL.out ?_)
  have hn := Required_any u20 B6 c6 w11 a (by rw [HU.out]; decide) (by rw [HU.out]; exact t20_wf) (HT.out w11 H11.out.1) (HE.out w11 H11.out.1) H11.out.2.1
  rw [show u20.check = none by rw [HU.out]; exact t20_check] at hn
  simp only [show u20.req = ⟨#[97, 98, 99]⟩ by rw [HU.out]; exact t20_req] at hn
  refine hn.mono ?_
  rintro e w12 ⟨rfl, hb⟩
  have H12 := hide (H11.out.1.trans (hb.mono H11.out.1.size))
  clear hb hn HL H11
  have q1 : ((⟨#[97, 98, 99]⟩ : ByteArray).toList == (⟨#[97, 98, 99]⟩ : ByteArray).toList) = true := by rw [toList_beq]; simp
  have q2 : ((⟨#[97, 98, 97, 98]⟩ : ByteArray).toList == (⟨#[97, 98, 97, 98]⟩ : ByteArray).toList) = true := by rw [toList_beq]; simp
  go_wp2_with fail
  refine bodyPost_ret (v := .bool true) (by simp [results, Tryd.results11, go_sem]) rfl ?_
  exact ⟨rfl, H12.out⟩
end Go.Proofs.YtbbhobojghmkpaaDoor
