/- posit.formed, posit.Check, trawlref17.rise, trawlref17.Form: are positions in form. -/
import Derived.Test.YthkddbfgihgfaaaDoorPo
import Derived.Test.YthkddbfgihgfaaaDoorSent
import Derived.Test.YthkddbfgihgfaaaDoorNum
import Derived.BigQuiet
import Derived.Test.YthkddbfgihgfaaaDoorInts
import Derived.Deep.DeepCutAuto
set_option linter.unusedSimpArgs false
set_option linter.unusedVariables false
namespace Go.Proofs.YthkddbfgihgfaaaDoor
open Go.RowKit

theorem EdIn.cell {ok : Nat → Prop} {w : World} {l : List Ed} {A : Option Addr} (h : EdIn ok w l A) {k : Nat} {e : Ed} (hk : l[k]? = some e) :
    ∃ b o, A = some ⟨b, o, none⟩ ∧ ok b ∧ w.cell? ⟨b, o + k * 2, none⟩ = some (.int .i64 e.1) ∧ w.cell? ⟨b, o + k * 2 + 1, none⟩ = some (.int .i64 e.2) := by
  obtain ⟨b, o, e1, hb, hc⟩ := LIn.at_ h hk
  exact ⟨b, o, e1, hb, by simpa [Addr.add_lit] using hc 0 _ rfl, by simpa [Addr.add_lit] using hc 1 _ rfl⟩

/-- The first k edges are in form, out of n positions. -/
def EdOkTo (n : Int) (l : List Ed) (k : Nat) : Prop := ∀ i e, i < k → l[i]? = some e → 0 ≤ e.1 ∧ e.1 < n ∧ 1 ≤ e.2 ∧ e.2 ≤ 15 ∧ ∀ d, 0 < i → l[i - 1]? = some d → d.1 < e.1
def EdOk (n : Int) (l : List Ed) : Prop := EdOkTo n l l.length
theorem EdOkTo.zero (n : Int) (l : List Ed) : EdOkTo n l 0 := fun i e h => by omega
theorem EdOkTo.succ {n : Int} {l : List Ed} {k : Nat} {e : Ed} (h : EdOkTo n l k) (hk : l[k]? = some e) (h0 : 0 ≤ e.1) (h1 : e.1 < n) (h2 : 1 ≤ e.2) (h3 : e.2 ≤ 15) (h4 : ∀ d, 0 < k → l[k - 1]? = some d → d.1 < e.1) : EdOkTo n l (k + 1) := fun i f hi hf => by
  by_cases hik : i = k
  · subst hik
    obtain rfl := Option.some.inj (hk.symm.trans hf)
    exact ⟨h0, h1, h2, h3, h4⟩
  · exact h i f (by omega) hf
theorem EdOk.at_ {n : Int} {l : List Ed} {k : Nat} {e : Ed} (h : EdOk n l) (hk : l[k]? = some e) : 0 ≤ e.1 ∧ e.1 < n ∧ 1 ≤ e.2 ∧ e.2 ≤ 15 ∧ ∀ d, 0 < k → l[k - 1]? = some d → d.1 < e.1 := h k e (List.getElem?_eq_some_iff.1 hk).1 hk

theorem Tryd.sizeEdge : (Tryd.prog.info? 58).map (·.size) = some 2 := by kernel_rfl

/-- What formed and rise answer. -/
def Formed (n : Int) (l : List Ed) (w : World) (e : Ending) (w' : World) : Prop := ∃ b : Bool, e = .returned (.bool b) ∧ (b = true ↔ EdOk n l) ∧ Below w.heap.size w w'

set_option maxRecDepth 100000 in
set_option maxHeartbeats 2000000 in
theorem formed_any' (l : List Ed) (A : Option Addr) (c : Nat) (n : Int) (w : World) (hin : EdIn (· < w.heap.size) w l A) (hl : l.length ≤ 9223372036854775807) (hn : IsI64 n) :
    Calls Tryd.prog 52 #[.slice A l.length c, .int .i64 n] w (Formed n l w) := by
  obtain ⟨n1, n2⟩ := hn
  have HIn := hide hin
  clear hin
  go_enter Tryd.func52, Tryd.ntmps52
  go_wp2_with fail
  go_loopw [9] (fun kv wr => ∃ k : Nat, kv = .int .i64 k ∧ k ≤ l.length ∧ EdOkTo n l k ∧ Below w.heap.size w wr) (fun kv _ => l.length - (intOf kv).toNat)
  case atStart => exact ⟨0, rfl, by omega, EdOkTo.zero _ _, Below.refl _ _⟩
  case round =>
    obtain ⟨k, rfl, hk, hok, hbel⟩ := hrel
    by_cases hlt : k < l.length
    case neg =>
      have g1 : decide ((k : Int) < (l.length : Int)) = false := decide_eq_false (by omega)
      obtain rfl : k = l.length := by omega
      have HH := hide (And.intro hok hbel)
      clear hok hbel
      go_wp2_with fail
      go_ret
      exact ⟨true, rfl, ⟨fun _ => HH.out.1, fun _ => rfl⟩, HH.out.2⟩
    have g1 : decide ((k : Int) < (l.length : Int)) = true := decide_eq_true (by omega)
    have he := List.getElem?_eq_getElem hlt
    generalize l[k] = e at *
    obtain ⟨b, o, rfl, hb0, c0, c1⟩ := (HIn.out.same (ok' := (· < wr.heap.size)) (same_of_below hbel) (fun y hy => Nat.lt_of_lt_of_le hy hbel.size)).cell he
    obtain ⟨e1, e2⟩ := e
    simp only at c0 c1
    have HH := hide (And.intro hok (And.intro hbel he))
    clear hok hbel he
    have hz := hide (Blk.new wr 58 #[.int .i64 0, .int .i64 0])
    go_wp2_with (refine wpList_store_row rfl _ _ _ rfl wr.heap.size 0 _ _ _ rfl rfl hz.out Tryd.sizeEdge (by simp) (by simp [Value.oneCell']) ?_)
    intro w2 hrow2 hg2 hz2
    have hrow := hrow2.out
    rw [splice_full (by rfl)] at hrow
    have hb : Below wr.heap.size wr w2 := below_grew ((Below.refl wr.heap.size wr).alloc (Nat.le_refl _) _) hg2 (Nat.le_refl _) (fun g hg => by injection hg with hg; omega)
    replace c0 := (hb.cell (p := ⟨b, o + k * 2, none⟩) hb0).trans c0
    clear hrow2 hg2 hz2 hz c1
    have HH2 := hide (HH.out.2.1.trans (hb.mono HH.out.2.1.size))
    have ce := hrow.cell
    generalize wr.heap.size = ge at *
    by_cases q1 : e1 < 0
    · have d1 : decide (e1 < 0) = true := decide_eq_true q1
      go_upto_region 4 with fail
      go_quiet (fail)
      go_wp2_with fail
      go_ret
      exact ⟨false, rfl, ⟨fun h => (by cases h), fun h => absurd (h.at_ HH.out.2.2) fun hh => by have := hh; simp only at this; omega⟩, below_drewN HH2.out _⟩
    have d1 : decide (e1 < 0) = false := decide_eq_false q1
    by_cases q2 : n ≤ e1
    · have d2 : decide (n ≤ e1) = true := decide_eq_true q2
      go_upto_region 4 with fail
      go_quiet (fail)
      go_wp2_with fail
      go_ret
      exact ⟨false, rfl, ⟨fun h => (by cases h), fun h => absurd (h.at_ HH.out.2.2) fun hh => by have := hh; simp only at this; omega⟩, below_drewN HH2.out _⟩
    have d2 : decide (n ≤ e1) = false := decide_eq_false q2
    by_cases q3 : e2 < 1
    · have d3 : decide (e2 < 1) = true := decide_eq_true q3
      go_upto_region 4 with fail
      go_quiet (fail)
      go_wp2_with fail
      go_ret
      exact ⟨false, rfl, ⟨fun h => (by cases h), fun h => absurd (h.at_ HH.out.2.2) fun hh => by have := hh; simp only at this; omega⟩, below_drewN HH2.out _⟩
    have d3 : decide (e2 < 1) = false := decide_eq_false q3
    by_cases q4 : 15 < e2
    · have d4 : decide (15 < e2) = true := decide_eq_true q4
      go_upto_region 4 with fail
      go_quiet (fail)
      go_wp2_with fail
      go_ret
      exact ⟨false, rfl, ⟨fun h => (by cases h), fun h => absurd (h.at_ HH.out.2.2) fun hh => by have := hh; simp only at this; omega⟩, below_drewN HH2.out _⟩
    have d4 : decide (15 < e2) = false := decide_eq_false q4
    by_cases hk0 : k = 0
    · subst hk0
      go_upto_region 4 with fail
      go_quiet (fail)
      go_wp2_with fail
      go_roundw
      case rel => exact ⟨0 + 1, by go_num, hlt, HH.out.1.succ HH.out.2.2 (by simp only; omega) (by simp only; omega) (by simp only; omega) (by simp only; omega) (fun d h => by omega), below_drewN HH2.out _⟩
      case measure => simp [intOf]; omega
    · obtain ⟨k, rfl⟩ : ∃ q, k = q + 1 := ⟨k - 1, by omega⟩
      have hd := List.getElem?_eq_getElem (show k < l.length by omega)
      generalize l[k] = d at *
      obtain ⟨b2, o2, eb, hb2, p0, p1⟩ := (HIn.out.same (ok' := (· < w2.heap.size)) (same_of_below HH2.out) (fun y hy => Nat.lt_of_lt_of_le hy HH2.out.size)).cell hd
      injection eb with eb
      injection eb with eb eo
      subst eb eo
      obtain ⟨f1, f2⟩ := d
      simp only at p0
      have HD := hide hd
      clear hd p1
      have d5 : decide ((0 : Int) < (k : Int) + 1) = true := decide_eq_true (by omega)
      by_cases q6 : e1 ≤ f1
      · have d6 : decide (e1 ≤ f1) = true := decide_eq_true q6
        go_upto_region 4 with fail
        go_quiet (fail)
        go_wp2_with fail
        go_ret
        exact ⟨false, rfl, ⟨fun h => (by cases h), fun h => absurd ((h.at_ HH.out.2.2).2.2.2.2 _ (by omega) HD.out) (by simp only; omega)⟩, below_drewN HH2.out _⟩
      · have d6 : decide (e1 ≤ f1) = false := decide_eq_false q6
        go_upto_region 4 with fail
        go_quiet (fail)
        go_wp2_with fail
        go_roundw
        case rel =>
          refine ⟨k + 1 + 1, by go_num, hlt, HH.out.1.succ HH.out.2.2 (by simp only; omega) (by simp only; omega) (by simp only; omega) (by simp only; omega) (fun d _ h => ?_), below_drewN HH2.out _⟩
          obtain rfl := Option.some.inj (HD.out.symm.trans h)
          simp only
          omega
        case measure => simp [intOf]; omega

/-- An error, or none. -/
def walkErr (a : Nat → Addr) : Option Nat → Value
  | none => .nilIface
  | some g => errV (a g)

/-- Positions in form. -/
structure Po.Ok (p : Po) : Prop where
  len : p.follow.length = p.sets.length
  low : 0 ≤ p.null
  high : p.null ≤ 15
  first : EdOk p.sets.length p.first
  last : EdOk p.sets.length p.last
  follow : ∀ (i : Nat) (l : List Ed), p.follow[i]? = some l → EdOk p.sets.length l

theorem FoIn.cell {ok : Nat → Prop} {w : World} {l : List (List Ed)} {A : Option Addr} (h : FoIn ok w l A) {k : Nat} {r : List Ed} (hk : l[k]? = some r) :
    ∃ b o B c, A = some ⟨b, o, none⟩ ∧ ok b ∧ w.cell? ⟨b, o + k, none⟩ = some (.slice B r.length c) ∧ EdIn ok w r B := by
  obtain ⟨b, o, e1, hb, B, c, hc, hin⟩ := LIn.at_ h hk
  exact ⟨b, o, B, c, e1, hb, by simpa [Addr.add_lit] using hc 0 _ rfl, hin⟩

set_option maxRecDepth 100000 in
set_option maxHeartbeats 2000000 in
theorem posCheck_any (p : Po) (pa : PoA) (w : World) (a : Nat → Addr) (hwf : p.wf) (hin : PoIn (· < w.heap.size) w p pa) (hE : Sent [12] w a) :
    Calls Tryd.prog 20 #[.agg (p.cells pa).toArray] w fun e w' => ∃ g : Option Nat, e = .returned (walkErr a g) ∧ (g = none ↔ p.Ok) ∧ (g = none ∨ g = some 12) ∧ Below w.heap.size w w' := by
  have HE := hide (fun y (hy : Below w.heap.size w y) => (hE.below hy) 12 (by decide))
  have HIn := hide hin
  have HO := hide (show p.Ok ↔ (p.follow.length = p.sets.length ∧ 0 ≤ p.null ∧ p.null ≤ 15 ∧ EdOk p.sets.length p.first ∧ EdOk p.sets.length p.last) ∧ ∀ (i : Nat) (l : List Ed), p.follow[i]? = some l → EdOk p.sets.length l from
    ⟨fun h => ⟨⟨h.len, h.low, h.high, h.first, h.last⟩, h.follow⟩, fun h => ⟨h.1.1, h.1.2.1, h.1.2.2.1, h.1.2.2.2.1, h.1.2.2.2.2, h.2⟩⟩)
  have HW := hide (fun (i : Nat) (l : List Ed) (h : p.follow[i]? = some l) => (hwf.follow l (List.mem_of_getElem? h)).1)
  obtain ⟨u1, u2⟩ := hwf.null
  have hns := hwf.ns
  have hnf := hwf.nf
  have hnl := hwf.nl
  have hnw := hwf.nw
  clear hin hE hwf
  obtain ⟨sets, null, first, last, follow⟩ := p
  obtain ⟨As, Af, Al, Aw, cs, cf, cl, cw⟩ := pa
  simp only [Po.cells] at HIn HO u1 u2 hns hnf hnl hnw ⊢
  have HFo := hide (fun l A c y hi hl => formed_any' l A c (sets.length : Int) y hi hl ⟨by omega, by omega⟩)
  generalize (Po.mk sets null first last follow).Ok = OK at *
  have hbx := Blk.new w 36 #[.slice As sets.length cs, .int .i64 null, .slice Af first.length cf, .slice Al last.length cl, .slice Aw follow.length cw]
  have hbel := (Below.refl w.heap.size w).alloc (Nat.le_refl _) (.cells #[.slice As sets.length cs, .int .i64 null, .slice Af first.length cf, .slice Al last.length cl, .slice Aw follow.length cw] 36)
  go_enter Tryd.func20, Tryd.ntmps20
  go_upto_region 2 with fail
  generalize (w.alloc (.cells #[.slice As sets.length cs, .int .i64 null, .slice Af first.length cf, .slice Al last.length cl, .slice Aw follow.length cw] 36)) = W at *
  have HB := hide (And.intro hbel hbx)
  clear hbel hbx
  go_cut [4] (fun z wx => ∃ gd : Bool, z = .bool gd ∧ (gd = true ↔ (follow.length = sets.length ∧ 0 ≤ null ∧ null ≤ 15 ∧ EdOk sets.length first ∧ EdOk sets.length last)) ∧ Below w.heap.size w wx ∧ Blk wx w.heap.size 36 #[.slice As sets.length cs, .int .i64 null, .slice Af first.length cf, .slice Al last.length cl, .slice Aw follow.length cw])
  case first =>
    have cx := HB.out.2.cell
    by_cases q1 : follow.length = sets.length
    case neg =>
      have d1 : ((follow.length : Int) == (sets.length : Int)) = false := beq_false_of_ne (by omega)
      go_wp2_with fail
      go_meet
      case rel => exact ⟨false, rfl, ⟨fun h => (by cases h), fun h => absurd h.1 q1⟩, HB.out⟩
    have d1 : ((follow.length : Int) == (sets.length : Int)) = true := by rw [q1]; simp
    have Q1 := hide q1
    clear q1
    by_cases q2 : 0 ≤ null
    case neg =>
      have d2 : decide (0 ≤ null) = false := decide_eq_false q2
      go_wp2_with fail
      go_meet
      case rel => exact ⟨false, rfl, ⟨fun h => (by cases h), fun h => by have := h.2.1; omega⟩, HB.out⟩
    have d2 : decide (0 ≤ null) = true := decide_eq_true q2
    by_cases q3 : null ≤ 15
    case neg =>
      have d3 : decide (null ≤ 15) = false := decide_eq_false q3
      go_wp2_with fail
      go_meet
      case rel => exact ⟨false, rfl, ⟨fun h => (by cases h), fun h => by have := h.2.2.1; omega⟩, HB.out⟩
    have d3 : decide (null ≤ 15) = true := decide_eq_true q3
    go_wp2_with fail
    refine (HFo.out first Af cf _ (HIn.out.first.same (same_of_below HB.out.1) (fun y hy => Nat.lt_of_lt_of_le hy HB.out.1.size)) hnf).mono ?_
    rintro e w1 ⟨b1, rfl, hb1, hb⟩
    replace HB := hide (And.intro (HB.out.1.trans (hb.mono HB.out.1.size)) (HB.out.2.nxt hb))
    clear hb cx
    have cx := HB.out.2.cell
    cases b1 with
    | false =>
      have H1 := hide hb1
      clear hb1
      go_wp2_with fail
      go_meet
      case rel => exact ⟨false, rfl, ⟨fun h => (by cases h), fun h => absurd (H1.out.2 h.2.2.2.1) (by decide)⟩, HB.out⟩
    | true =>
    have H1 := hide (hb1.1 rfl)
    clear hb1
    go_wp2_with fail
    refine (HFo.out last Al cl _ (HIn.out.last.same (same_of_below HB.out.1) (fun y hy => Nat.lt_of_lt_of_le hy HB.out.1.size)) hnl).mono ?_
    rintro e w2 ⟨b2, rfl, hb2, hb⟩
    replace HB := hide (And.intro (HB.out.1.trans (hb.mono HB.out.1.size)) (HB.out.2.nxt hb))
    have H2 := hide hb2
    clear hb cx hb2
    go_wp2_with fail
    go_meet
    case rel => exact ⟨b2, rfl, ⟨fun h => ⟨Q1.out, q2, q3, H1.out, H2.out.1 h⟩, fun h => H2.out.2 h.2.2.2.2⟩, HB.out⟩
  case rest =>
  obtain ⟨gd, rfl, hgd, hbel, hbx⟩ := hcut
  clear HB
  have HG := hide hgd
  have HB := hide (And.intro hbel hbx)
  have cx := hbx.cell
  clear hbel hbx hgd
  go_wp2_with fail
  clear cx
  go_loopw [4, 40] (fun gv kv wr => ∃ (k : Nat) (g2 : Bool), gv = .bool g2 ∧ kv = .int .i64 k ∧ k ≤ follow.length ∧ (g2 = true ↔ gd = true ∧ ∀ (i : Nat) (l : List Ed), i < k → follow[i]? = some l → EdOk sets.length l) ∧ Below w.heap.size w wr) (fun _ kv _ => follow.length - (intOf kv).toNat)
  case atStart => exact ⟨0, gd, rfl, rfl, by omega, ⟨fun h => ⟨h, fun i l h => by omega⟩, fun h => h.1⟩, HB.out.1⟩
  case round =>
    clear HB
    obtain ⟨k, g2, rfl, rfl, hk, hg2, hbel⟩ := hrel
    have HB := hide hbel
    have HQ := hide hg2
    clear hbel hg2
    by_cases hlt : k < follow.length
    case neg =>
      have g1 : decide ((k : Int) < (follow.length : Int)) = false := decide_eq_false (by omega)
      have hfin : g2 = true ↔ OK := by
        rw [HQ.out, HG.out, HO.out]
        constructor
        · rintro ⟨h1, h2⟩; exact ⟨h1, fun i l hi => h2 i l (by have := (List.getElem?_eq_some_iff.1 hi).1; omega) hi⟩
        · rintro ⟨h1, h2⟩; exact ⟨h1, fun i l _ hi => h2 i l hi⟩
      have HF := hide hfin
      clear hfin
      cases g2 with
      | true =>
        go_wp2_with fail
        go_ret
        exact ⟨none, rfl, ⟨fun _ => HF.out.1 (by first | rfl | trivial), fun _ => rfl⟩, .inl rfl, HB.out⟩
      | false =>
        have hv := HE.out _ HB.out
        simp only [errV] at hv
        go_wp2_with fail
        go_ret
        exact ⟨some 12, rfl, ⟨fun h => (by cases h), fun h => absurd (HF.out.2 h) (by decide)⟩, .inr rfl, HB.out⟩
    have g1 : decide ((k : Int) < (follow.length : Int)) = true := decide_eq_true (by omega)
    have he := List.getElem?_eq_getElem hlt
    generalize follow[k] = r at *
    obtain ⟨b, o, B, c, rfl, hb0, c0, hri⟩ := (HIn.out.follow.same (ok' := (· < wr.heap.size)) (same_of_below HB.out) (fun y hy => Nat.lt_of_lt_of_le hy HB.out.size)).cell he
    have HR := hide (And.intro he hri)
    have hlr := HW.out _ _ he
    clear he hri
    cases g2 with
    | false =>
      go_wp2_with fail
      go_roundw
      case rel => exact ⟨k + 1, false, rfl, by go_num, hlt, ⟨fun h => (by cases h), fun h => HQ.out.2 ⟨h.1, fun i l hi => h.2 i l (by omega)⟩⟩, HB.out⟩
      case measure => simp [intOf]; omega
    | true =>
      go_wp2_with fail
      refine (HFo.out r B c _ HR.out.2 hlr).mono ?_
      rintro e w1 ⟨b1, rfl, hb1, hb⟩
      have H1 := hide (And.intro hb1 (HB.out.trans (hb.mono HB.out.size)))
      clear hb hb1
      go_wp2_with fail
      go_roundw
      case rel =>
        refine ⟨k + 1, b1, rfl, by go_num, hlt, ⟨fun h => ⟨(HQ.out.1 (by first | rfl | trivial)).1, fun i l hi hl => ?_⟩, fun h => H1.out.1.2 (h.2 k r (by omega) HR.out.1)⟩, H1.out.2⟩
        by_cases hik : i = k
        · subst hik
          obtain rfl := Option.some.inj (HR.out.1.symm.trans hl)
          exact H1.out.1.1 h
        · exact (HQ.out.1 (by first | rfl | trivial)).2 i l (by omega) hl
      case measure => simp [intOf]; omega
/-- Whether something holds was answered. -/
def Asked01 (ok : Prop) (w : World) (e : Ending) (w' : World) : Prop := ∃ b : Bool, e = .returned (.bool b) ∧ (b = true ↔ ok) ∧ Below w.heap.size w w'

end Go.Proofs.YthkddbfgihgfaaaDoor
