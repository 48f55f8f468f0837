/- trawllaw11.ReachEnds: it returns true, and what was there stays. (Printed by gen_endslaw.py.) -/
import Derived.Test.YtgpmiflfgpnhaaaDoorRefEnds
import Derived.Test.YtgpmiflfgpnhaaaDoorRefAsked
import Derived.Test.YtgpmiflfgpnhaaaDoorLong11
import Derived.Test.YtgpmiflfgpnhaaaDoorCopyNode
import Derived.Test.YtgpmiflfgpnhaaaDoorSame
import Derived.Test.YtgpmiflfgpnhaaaDoorNum
set_option linter.unusedSimpArgs false
set_option linter.unusedVariables false
set_option linter.unnecessarySimpa false
namespace Go.Proofs.YtgpmiflfgpnhaaaDoor
open Go.RowKit

theorem Hd.same_self (h : Hd) : h.same h = true := Hd.same_iff.2 rfl
mutual
theorem T.same_self : ∀ t : T, t.same t = true
  | .mk h l => by simp [T.same, Hd.same_self, TL.same_self l]
theorem TL.same_self : ∀ l : List T, TL.same l l = true
  | [] => rfl
  | t :: l => by simp [TL.same, T.same_self t, TL.same_self l]
end

theorem OwnInts.row {base : Nat} {w : World} {v : Value} {l : List Int} (h : OwnInts base w v l) : ∃ A c, v = .slice A l.length c ∧ l.length ≤ 9223372036854775807 ∧ (0 < l.length → ∃ g cur, A = some ⟨g, 0, none⟩ ∧ base ≤ g ∧ g < w.heap.size ∧ Blk w g 3 cur ∧ l.length ≤ cur.size) := by
  rcases h.2 with ⟨e, h0⟩ | ⟨g, cap, cur, e, hb, hg, hn, hc, hz, _⟩
  · exact ⟨none, 0, by rw [e, h0], by omega, fun h => by omega⟩
  · exact ⟨some ⟨g, 0, none⟩, cap, e, by simp only [maxLen] at hc; omega, fun _ => ⟨g, cur, rfl, hb, (World.ownsRow.lt h g (by rw [e]; rfl)).2, hg, by omega⟩⟩
theorem OwnInts.blk {base : Nat} {w : World} {A : Option Addr} {c n : Nat} {l : List Int} (h : OwnInts base w (.slice A n c) l) (hl : 0 < l.length) : ∃ g cur, A = some ⟨g, 0, none⟩ ∧ base ≤ g ∧ Blk w g 3 cur ∧ l.length ≤ cur.size := by
  rcases h.2 with ⟨e, h0⟩ | ⟨g, cap, cur, e, hb, hg, hn, hc, hz, _⟩
  · omega
  · injection e with e1 e2 e3
    exact ⟨g, cur, e1, hb, hg, by omega⟩
theorem OwnInts.shut {base : Nat} {w w' : World} {A : Option Addr} {v : Value} {l : List Int} (h : OwnInts base w v l) (hs : Same (fun b => b < w.heap.size ∧ ∀ g, A = some ⟨g, 0, none⟩ → b ≠ g) w w') (hB : ∀ g, A = some ⟨g, 0, none⟩ → g < base) : OwnInts base w' v l :=
  h.same hs fun g hg => ⟨(World.ownsRow.lt h g hg).2, fun g' e e' => by have := hB g' e; have := (World.ownsRow.lt h g hg).1; omega⟩

/-- What the walk keeps: the tree, its box, the view's box, the copy and its box. -/
structure EW (t : T) (A B : Option Addr) (c cm : Nat) (cs : Array Value) (gt gv gm : Nat) (w y : World) : Prop where
  below : Below w.heap.size w y
  bt : Blk y gt 52 (t.hd.cells (.slice A t.subs.length c)).toArray
  bv : Blk y gv 28 cs
  bm : Blk y gm 52 (t.hd.cells (.slice B t.subs.length cm)).toArray
  it : T.In y (· < y.heap.size) t A
  im : T.In y (· < y.heap.size) t B
theorem EW.next {t : T} {A B : Option Addr} {c cm : Nat} {cs : Array Value} {gt gv gm : Nat} {w y y' : World} (h : EW t A B c cm cs gt gv gm w y) (hb : Below y.heap.size y y') : EW t A B c cm cs gt gv gm w y' :=
  ⟨h.below.trans (hb.mono h.below.size), h.bt.next hb, h.bv.next hb, h.bm.next hb, h.it.next hb, h.im.next hb⟩

set_option maxRecDepth 100000 in
set_option maxHeartbeats 8000000 in
theorem endsLaw_true (ta : T) (A : Option Addr) (c : Nat) (s : ByteArray) (cf ef p : Int) (w : World) (a : Nat → Addr) (hwa : ta.wf) (hia : T.In w (· < w.heap.size) ta A)
    (hs : s.size ≤ 140737488355328) (hcf : IsI64 cf) (hef : IsI64 ef) (hp : IsI64 p) (hE : Env w a) (hG : Errs w a) :
    Calls Tryd.prog 8 #[.agg (ta.hd.cells (.slice A ta.subs.length c)).toArray, .agg [.string s, .int .i64 cf, .int .i64 ef].toArray, .int .i64 p] w fun e w' => e = .returned (.bool true) ∧ Below w.heap.size w w' := by
  have HLa := hide (fun y hi => long_any ta A c s cf ef y hwa hi)
  have HE := hide (fun x (hx : Below w.heap.size w x) => hE.below hx)
  have HG := hide (fun x (hx : Below w.heap.size w x) => hG.below hx)
  have HLv := hide (fun y (hy : Below w.heap.size w y) => lives11_true y a (hE.below hy))
  have HCo := hide (fun y (hN : ta.nodes ≤ 1000000) hi => copyNode_any 1000000 ta A c y hN (by omega) hi)
  have HEn := hide (fun x b m B cm y hN hi hs' he => ends_any (x := x) (b := b) (m := m) ta B cm p y a hN hwa hi hs' he hp)
  have HAs := hide (fun x hx y hN hi => refAsked_any (x := x) ta A c s cf ef p 0 y hx hN hi hp ⟨by omega, by omega⟩ hs)
  have HSm := hide (fun B cm y hN hi hi' => same_any 1000000 ta ta B A cm c y hN (by omega) hi hi')
  simp only [T.same_self] at HSm
  have HRe := hide (fun x (hx : x.text = s) (hr : RefSc x cf ef) (hn : x.text.size ≤ 63) (hf : ta.form = true) y hN hi i hi2 => refEnds_of hx hr hn ta A c y hN hwa hf hi i hi2)
  have HFc := hide (@T.form_of_check ta)
  have HTA := hide hia
  clear hia hE hG hwa hp
  obtain ⟨⟨ak, a0, a1, a2, a3, an, ai, ax, ab⟩, la⟩ := ta
  simp only [T.hd, T.subs, Hd.cells] at HLa HCo HEn HAs HSm HRe ⊢
  go_enter Tryd.func8, Tryd.ntmps8
  go_wp2_with fail
  have hbel := ((Below.refl w.heap.size w).alloc (Nat.le_refl _) (.cells #[.int .i64 ak, .int .u64 a0, .int .u64 a1, .int .u64 a2, .int .u64 a3, .slice A la.length c, .int .i64 an, .int .i64 ai, .int .i64 ax, .bool ab] 52)).alloc (by simp) (.cells #[.string s, .int .i64 cf, .int .i64 ef] 28)
  have hba := (Blk.new w 52 #[.int .i64 ak, .int .u64 a0, .int .u64 a1, .int .u64 a2, .int .u64 a3, .slice A la.length c, .int .i64 an, .int .i64 ai, .int .i64 ax, .bool ab]).alloc (.cells #[.string s, .int .i64 cf, .int .i64 ef] 28)
  have hbv := Blk.new (w.alloc (.cells #[.int .i64 ak, .int .u64 a0, .int .u64 a1, .int .u64 a2, .int .u64 a3, .slice A la.length c, .int .i64 an, .int .i64 ai, .int .i64 ax, .bool ab] 52)) 28 #[.string s, .int .i64 cf, .int .i64 ef]
  simp only [World.size_alloc] at hbv
  refine (HLv.out _ hbel).mono ?_
  rintro e v1 ⟨rfl, hb⟩
  have HBA := hide (hba.next hb)
  have HBV := hide (hbv.next hb)
  have HBL := hide (hbel.trans (hb.mono hbel.size))
  replace HTA := hide ((HTA.out.next hbel).next hb)
  clear hb hbel hba hbv HLv
  have ca := HBA.out.cell
  have cv := HBV.out.cell
  go_wp2_with fail
  refine (HLa.out _ HTA.out).mono ?_
  rintro e v2 ⟨lg, rfl, hna, hb⟩
  replace HBA := hide (HBA.out.next hb)
  replace HBV := hide (HBV.out.next hb)
  replace HBL := hide (HBL.out.trans (hb.mono HBL.out.size))
  replace HTA := hide (HTA.out.next hb)
  clear hb ca cv HLa
  cases lg with
  | true =>
    clear hna
    have cv := HBV.out.cell
    go_wp2_with fail
    go_ret
    exact ⟨rfl, HBL.out⟩
  | false =>
  have hna' := hna (by first | rfl | trivial)
  clear hna
  have hN : ((T.mk ⟨ak, a0, a1, a2, a3, an, ai, ax, ab⟩ la)).nodes ≤ 1000000 := by omega
  have HN := hide hN
  clear hna' hN
  have cv := HBV.out.cell
  go_wp2_with fail
  refine (new_any s cf ef v2 hs).mono ?_
  rintro e u4 ⟨sb, sm, x, rfl, hsc, htx, hmk, _, _, hb⟩
  replace HBA := hide (HBA.out.next hb)
  replace HBV := hide (HBV.out.next hb)
  replace HBL := hide (HBL.out.trans (hb.mono HBL.out.size))
  replace HTA := hide (HTA.out.next hb)
  have HS := hide hsc
  have HX := hide (And.intro htx (show RefSc x cf ef from ⟨fun i hi => by rw [hmk i (by rw [← htx]; exact hi), htx], by rw [htx]; exact hs⟩))
  clear hb cv hsc hmk htx
  have ca := HBA.out.cell
  go_wp2_with fail
  refine (HCo.out _ HN.out HTA.out).mono ?_
  rintro e x1 ⟨B, cm, bs, rfl, hown, _, hbs, hb⟩
  replace HBA := hide (HBA.out.next hb)
  replace HBV := hide (HBV.out.next hb)
  replace HBL := hide (HBL.out.trans (hb.mono HBL.out.size))
  replace HTA := hide (HTA.out.next hb)
  replace HS := hide (HS.out.below hb)
  have hin : T.In x1 (· < x1.heap.size) (T.mk ⟨ak, a0, a1, a2, a3, an, ai, ax, ab⟩ la) B := hown.in_ (fun b hb => (hbs b hb).2)
  clear hb ca hown hbs HCo
  have hz := hide (Blk.new x1 52 #[.int .i64 0, .int .u64 0, .int .u64 0, .int .u64 0, .int .u64 0, .slice none 0 0, .int .i64 0, .int .i64 0, .int .i64 0, .bool false])
  go_wp2_with (refine wpList_store_row rfl _ _ _ rfl x1.heap.size 0 _ _ _ rfl rfl hz.out Tryd.sizeNode (by simp) (by simp [Value.oneCell']) ?_)
  intro x1s hrow2 hg2 hz2
  have hrow := hrow2.out
  rw [splice_all (by rfl)] at hrow
  have hb : Below x1.heap.size x1 x1s := below_grown ((Below.refl x1.heap.size x1).alloc (Nat.le_refl _) _) hg2 (Nat.le_refl _) (fun g hg => by injection hg with hg; omega)
  replace HBA := hide (HBA.out.next hb)
  replace HBV := hide (HBV.out.next hb)
  replace HBL := hide (HBL.out.trans (hb.mono HBL.out.size))
  replace HTA := hide (HTA.out.next hb)
  replace HS := hide (HS.out.below hb)
  have HK := hide (EW.mk (t := (T.mk ⟨ak, a0, a1, a2, a3, an, ai, ax, ab⟩ la)) (A := A) (B := B) (c := c) (cm := cm) HBL.out HBA.out HBV.out hrow HTA.out (hin.next hb))
  clear hb hrow hrow2 hg2 hz2 hz hin HBA HBV HBL HTA
  generalize x1.heap.size = gm at *
  have cz := HK.out.bm.cell
  simp only [T.hd, T.subs, Hd.cells] at cz
  go_wp2_with fail
  refine (HEn.out x sb sm B cm _ HN.out HK.out.im HS.out (HE.out _ HK.out.below)).mono ?_
  rintro e y1 ⟨v1, r1, rfl, ho1, hen1, hnl1, hb⟩
  have hsz1 := hb.size
  have HBS := hide (show w.heap.size ≤ x1s.heap.size from HK.out.below.size)
  replace HK := hide (HK.out.next hb)
  replace HS := hide (HS.out.below hb)
  have HO1 := hide ho1
  have HL1 := hide (fun g (h : v1.ownBlock = some g) => (World.ownsRow.lt ho1 g h).2)
  have HQ1 := hide (And.intro hen1 hnl1)
  clear hb cz ho1 hen1 hnl1
  have cz := HK.out.bm.cell
  simp only [T.hd, T.subs, Hd.cells] at cz
  go_wp2_with fail
  refine (HEn.out x sb sm B cm _ HN.out HK.out.im HS.out (HE.out _ HK.out.below)).mono ?_
  rintro e y2 ⟨v2, r2, rfl, ho2, hen2, hnl2, hb⟩
  have hsz2 := hb.size
  replace HK := hide (HK.out.next hb)
  replace HS := hide (HS.out.below hb)
  replace HO1 := hide (HO1.out.below hb (Nat.le_refl _))
  have HO2 := hide ho2
  have HQ2 := hide hen2
  clear hb cz ho2 hen2 hnl2 HEn
  have cv := HK.out.bv.cell
  have hz := hide (Blk.new y2 34 #[.string ⟨#[]⟩, .int .i64 0, .int .i64 0, .bool false])
  go_wp2_with (refine wpList_store_row rfl _ _ _ rfl y2.heap.size 0 _ _ _ rfl rfl hz.out Tryd.sizeRefScene (by simp) (by simp [Value.oneCell']) ?_)
  intro y3 hrow2 hg2 hz2
  have hrow := hrow2.out
  rw [splice_all (by rfl)] at hrow
  have hb : Below y2.heap.size y2 y3 := below_grown ((Below.refl y2.heap.size y2).alloc (Nat.le_refl _) _) hg2 (Nat.le_refl _) (fun g hg => by injection hg with hg; omega)
  replace HO1 := hide (HO1.out.below hb (Nat.le_refl _))
  replace HO2 := hide (HO2.out.below hb (Nat.le_refl _))
  replace HK := hide (HK.out.next hb)
  replace HS := hide (HS.out.below hb)
  have HB := hide hrow
  clear hb hrow hrow2 hg2 hz2 hz cv
  generalize y2.heap.size = gs at *
  have cz := HK.out.bt.cell
  simp only [T.hd, T.subs, Hd.cells] at cz
  have cs := HB.out.cell
  go_wp2_with fail
  refine (HAs.out x HX.out.1 _ HN.out HK.out.it).mono ?_
  rw [asked_zero]
  rintro e y4 ⟨rfl, hb⟩
  replace HO1 := hide (HO1.out.below hb (Nat.le_refl _))
  replace HO2 := hide (HO2.out.below hb (Nat.le_refl _))
  replace HK := hide (HK.out.next hb)
  replace HS := hide (HS.out.below hb)
  replace HB := hide (HB.out.next hb)
  clear hb cz cs HAs
  have hlt : ∀ g, asked (T.mk ⟨ak, a0, a1, a2, a3, an, ai, ax, ab⟩ la) x [p] = some g → g < 21 := fun g h => asked_lt h
  have hno := (@asked_none (T.mk ⟨ak, a0, a1, a2, a3, an, ai, ax, ab⟩ la) x [p])
  generalize asked (T.mk ⟨ak, a0, a1, a2, a3, an, ai, ax, ab⟩ la) x [p] = res at *
  have HNO := hide hno
  have HLT := hide hlt
  clear hno hlt
  go_wp2_with fail
  refine (numOf_any _ a res HLT.out (HG.out _ HK.out.below)).mono ?_
  rintro e y5 ⟨rfl, hb⟩
  replace HO1 := hide (HO1.out.below hb (Nat.le_refl _))
  replace HO2 := hide (HO2.out.below hb (Nat.le_refl _))
  replace HK := hide (HK.out.next hb)
  replace HS := hide (HS.out.below hb)
  replace HB := hide (HB.out.next hb)
  clear hb
  have cz := HK.out.bt.cell
  have cm' := HK.out.bm.cell
  simp only [T.hd, T.subs, Hd.cells] at cz cm'
  obtain ⟨LA, Lc, rfl, hl1, hl2⟩ := HO1.out.row
  clear hl2
  cases res with
  | some g =>
    have hne0 : ((g : Int) + 1 != 0) = true := bne_iff_ne.2 (by omega)
    obtain rfl : r1 = [] := HQ1.out.2 (by simp)
    simp only [numOf]
    go_wp2_with fail
    refine (HSm.out B cm _ HN.out HK.out.im HK.out.it).mono ?_
    rintro e y6 ⟨rfl, hb⟩
    replace HK := hide (HK.out.next hb)
    clear hb cz cm'
    go_wp2_with fail
    go_ret
    exact ⟨rfl, HK.out.below⟩
  | none =>
  simp only [numOf]
  go_wp2_with fail
  refine (HSm.out B cm _ HN.out HK.out.im HK.out.it).mono ?_
  rintro e y6 ⟨rfl, hb⟩
  replace HO1 := hide (HO1.out.below hb (Nat.le_refl _))
  replace HO2 := hide (HO2.out.below hb (Nat.le_refl _))
  replace HK := hide (HK.out.next hb)
  replace HS := hide (HS.out.below hb)
  replace HB := hide (HB.out.next hb)
  clear hb cz cm'
  obtain ⟨hck, hx63, hpp⟩ := HNO.out.1 (by first | rfl | trivial)
  have hpp' := hpp p (by simp)
  obtain ⟨i, rfl⟩ : ∃ i : Nat, p = i := ⟨p.toNat, by omega⟩
  have HP := hide (And.intro hck (And.intro hx63 (show i ≤ x.text.size by have : x.text.size = x.len := rfl; omega)))
  clear hck hx63 hpp hpp'
  have cz := HK.out.bt.cell
  simp only [T.hd, T.subs, Hd.cells] at cz
  have cs := HB.out.cell
  go_wp2_with fail
  have HLA := hide (And.intro (fun g (e : LA = some ⟨g, 0, none⟩) => HL1.out g (by rw [e]; rfl)) (fun g (e : LA = some ⟨g, 0, none⟩) => Nat.lt_of_lt_of_le (HL1.out g (by rw [e]; rfl)) (Nat.le_trans hsz2 (Nat.le_of_lt HB.out.lt))))
  refine (HRe.out x HX.out.1 HX.out.2 HP.out.2.1 (HFc.out HP.out.1) _ HN.out HK.out.it i HP.out.2.2).mono ?_
  rintro e y7 ⟨v3, r3, rfl, ho3, hen3, hb⟩
  have hsz7 := HK.out.below.size
  obtain rfl : r1 = r3 := (HQ1.out.1 (by first | rfl | trivial)).eq hen3 (fun j => Iff.rfl)
  obtain rfl : r1 = r2 := (HQ1.out.1 (by first | rfl | trivial)).eq (HQ2.out (by first | rfl | trivial)) (fun j => Iff.rfl)
  replace HO1 := hide (HO1.out.below hb (Nat.le_refl _))
  replace HO2 := hide (HO2.out.below hb (Nat.le_refl _))
  replace HK := hide (HK.out.next hb)
  have HO3 := hide ho3
  clear ho3 hen3 hb cz cs HQ1 HQ2 HNO HLT HS HB HRe HSm
  go_wp2_with fail
  refine (sameInts_any _ HO1.out HO3.out).mono ?_
  rw [decide_eq_true (rfl : r1 = r1)]
  rintro e y8 ⟨rfl, hb⟩
  replace HO1 := hide (HO1.out.below hb (Nat.le_refl _))
  replace HO2 := hide (HO2.out.below hb (Nat.le_refl _))
  replace HO3 := hide (HO3.out.below hb (Nat.le_refl _))
  replace HK := hide (HK.out.next hb)
  clear hb
  go_wp2_with fail
  go_loopw [81] (fun kv wr => ∃ k : Nat, kv = .int .i64 k ∧ k ≤ r1.length ∧ Below w.heap.size w wr ∧ Same (fun b => b < y8.heap.size ∧ ∀ g, LA = some ⟨g, 0, none⟩ → b ≠ g) y8 wr ∧ (0 < r1.length → ∃ g cur, LA = some ⟨g, 0, none⟩ ∧ w.heap.size ≤ g ∧ Blk wr g 3 cur ∧ r1.length ≤ cur.size)) (fun kv _ => r1.length - (intOf kv).toNat)
  case atStart =>
    refine ⟨0, rfl, by omega, HK.out.below, Same.refl _ _, fun h => ?_⟩
    obtain ⟨g, cur, e, h1, h2, h3⟩ := HO1.out.blk h
    exact ⟨g, cur, e, by have := HBS.out; omega, h2, h3⟩
  case round =>
    obtain ⟨k, rfl, hk, hbel, hsame, hblk⟩ := hrel
    by_cases hlt : k < r1.length
    case neg =>
      have g1 : decide ((k : Int) < (r1.length : Int)) = false := decide_eq_false (by omega)
      have HH := hide (And.intro hsame hbel)
      clear hsame hbel hblk
      go_wp2_with fail
      refine (sameInts_any _ (HO2.out.shut HH.out.1 HLA.out.1) (HO3.out.shut HH.out.1 HLA.out.2)).mono ?_
      rw [decide_eq_true (rfl : r1 = r1)]
      rintro e y9 ⟨rfl, hb⟩
      have HF := hide (HH.out.2.trans (hb.mono HH.out.2.size))
      clear hb
      go_wp2_with fail
      go_ret
      exact ⟨rfl, HF.out⟩
    have g1 : decide ((k : Int) < (r1.length : Int)) = true := decide_eq_true (by omega)
    obtain ⟨g, cur, rfl, hwg, hbk, hcz⟩ := hblk (by omega)
    have hkc : k < cur.size := by omega
    have cc := hbk.cell k
    have cfr := hbk.frozen
    have HH := hide (And.intro hsame (And.intro hbel (And.intro hbk (And.intro hwg hcz))))
    clear hsame hbel hblk hwg hcz hbk
    rw [Array.getElem?_eq_getElem hkc] at cc
    go_wp2_with fail
    go_roundw
    case rel =>
      exact ⟨k + 1, by go_num, hlt, HH.out.2.1.setCell HH.out.2.2.2.1 _, HH.out.1.set (fun h => h.2 g rfl rfl) _, fun _ => ⟨g, _, rfl, HH.out.2.2.2.1, heap_setCell_same wr g k cur _ _ HH.out.2.2.1, by simp [HH.out.2.2.2.2]⟩⟩
    case measure => simp [intOf]; omega
end Go.Proofs.YtgpmiflfgpnhaaaDoor
