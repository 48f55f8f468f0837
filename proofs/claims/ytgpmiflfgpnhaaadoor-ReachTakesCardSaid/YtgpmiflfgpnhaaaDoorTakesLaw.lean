/- trawllaw11.ReachTakes: it returns true, and what was there stays. (Printed by gen_takeslaw.py.) -/
import Derived.Test.YtgpmiflfgpnhaaaDoorFirst
import Derived.Test.YtgpmiflfgpnhaaaDoorRefAsked
import Derived.Test.YtgpmiflfgpnhaaaDoorLong11
set_option linter.unusedSimpArgs false
set_option linter.unusedVariables false
set_option linter.unnecessarySimpa false
namespace Go.Proofs.YtgpmiflfgpnhaaaDoor
open Go.RowKit

theorem asked_zero2 (t : T) (x : Sc) : asked t x [0, 0] = asked t x [] := by
  unfold asked
  cases t.check with
  | some g => rfl
  | none =>
    have h : ¬ ((x.len : Int) < 0) := by omega
    simp [h]

/-- What the walk keeps: the tree, its box, the view's box, the document's scene, the scene. -/
structure TW (t : T) (A : Option Addr) (c : Nat) (cs : Array Value) (gt gs sb sm : Nat) (x : Sc) (w y : World) : Prop where
  below : Below w.heap.size w y
  bt : Blk y gt 52 (t.hd.cells (.slice A t.subs.length c)).toArray
  bs : Blk y gs 34 cs
  it : T.In y (· < y.heap.size) t A
  sc : Scn y sb sm x
theorem TW.next {t : T} {A : Option Addr} {c : Nat} {cs : Array Value} {gt gs sb sm : Nat} {x : Sc} {w y y' : World} (h : TW t A c cs gt gs sb sm x w y) (hb : Below y.heap.size y y') : TW t A c cs gt gs sb sm x w y' :=
  ⟨h.below.trans (hb.mono h.below.size), h.bt.next hb, h.bs.next hb, h.it.next hb, h.sc.below hb⟩

set_option maxRecDepth 100000 in
set_option maxHeartbeats 8000000 in
theorem takesLaw_true (ta : T) (A : Option Addr) (c : Nat) (s : ByteArray) (cf ef p q : Int) (w : World) (a : Nat → Addr) (hwa : ta.wf) (hia : T.In w (· < w.heap.size) ta A)
    (hs : s.size ≤ 140737488355328) (hcf : IsI64 cf) (hef : IsI64 ef) (hp : IsI64 p) (hq : IsI64 q) (hE : Env w a) (hG : Errs w a) :
    Calls Tryd.prog 9 #[.agg (ta.hd.cells (.slice A ta.subs.length c)).toArray, .agg [.string s, .int .i64 cf, .int .i64 ef].toArray, .int .i64 p, .int .i64 q] w fun e w' => e = .returned (.bool true) ∧ Below w.heap.size w w' := by
  have HLa := hide (fun y hi => long_any ta A c s cf ef y hwa hi)
  have HE := hide (fun x (hx : Below w.heap.size w x) => hE.below hx)
  have HG := hide (fun x (hx : Below w.heap.size w x) => hG.below hx)
  have HLv := hide (fun y (hy : Below w.heap.size w y) => lives11_true y a (hE.below hy))
  have HTk := hide (fun x b m y hN hi hs' he => takes_any (x := x) (b := b) (m := m) ta A c p q y a hN hwa hi hs' he hp hq)
  have HFi := hide (fun x b m y hN hi hs' he => first_any (x := x) (b := b) (m := m) ta A c y a hN hwa hi hs' he)
  have HAs := hide (fun x p q (hp : IsI64 p) (hq : IsI64 q) hx y hN hi => refAsked_any (x := x) ta A c s cf ef p q y hx hN hi hp hq hs)
  have HRt := hide (fun x (hx : x.text = s) (hr : RefSc x cf ef) (hn : x.text.size ≤ 63) (hf : ta.form = true) y hN hi i hi2 j hj => refTakes_of hx hr hn ta A c y hN hwa hf hi i hi2 j hj)
  have HRf := hide (fun x (hx : x.text = s) (hr : RefSc x cf ef) (hn : x.text.size ≤ 63) (hf : ta.form = true) y hN hi => refFirst_of hx hr hn ta A c y hN hwa hf hi)
  have HFc := hide (@T.form_of_check ta)
  have HTA := hide hia
  have HP := hide (And.intro hp hq)
  clear hia hE hG hwa hp hq
  obtain ⟨⟨ak, a0, a1, a2, a3, an, ai, ax, ab⟩, la⟩ := ta
  simp only [T.hd, T.subs, Hd.cells] at HLa HTk HFi HAs HRt HRf ⊢
  go_enter Tryd.func9, Tryd.ntmps9
  go_wp2_with fail
  have hbel := ((Below.refl w.heap.size w).alloc (Nat.le_refl _) (.cells #[.int .i64 ak, .int .u64 a0, .int .u64 a1, .int .u64 a2, .int .u64 a3, .slice A la.length c, .int .i64 an, .int .i64 ai, .int .i64 ax, .bool ab] 52)).alloc (by simp) (.cells #[.string s, .int .i64 cf, .int .i64 ef] 28)
  have hba := (Blk.new w 52 #[.int .i64 ak, .int .u64 a0, .int .u64 a1, .int .u64 a2, .int .u64 a3, .slice A la.length c, .int .i64 an, .int .i64 ai, .int .i64 ax, .bool ab]).alloc (.cells #[.string s, .int .i64 cf, .int .i64 ef] 28)
  have hbv := Blk.new (w.alloc (.cells #[.int .i64 ak, .int .u64 a0, .int .u64 a1, .int .u64 a2, .int .u64 a3, .slice A la.length c, .int .i64 an, .int .i64 ai, .int .i64 ax, .bool ab] 52)) 28 #[.string s, .int .i64 cf, .int .i64 ef]
  simp only [World.size_alloc] at hbv
  refine (HLv.out _ hbel).mono ?_
  rintro e v1 ⟨rfl, hb⟩
  have HBA := hide (hba.next hb)
  have HBV := hide (hbv.next hb)
  have HBL := hide (hbel.trans (hb.mono hbel.size))
  replace HTA := hide ((HTA.out.next hbel).next hb)
  clear hb hbel hba hbv HLv
  have ca := HBA.out.cell
  have cv := HBV.out.cell
  go_wp2_with fail
  refine (HLa.out _ HTA.out).mono ?_
  rintro e v2 ⟨lg, rfl, hna, hb⟩
  replace HBA := hide (HBA.out.next hb)
  replace HBV := hide (HBV.out.next hb)
  replace HBL := hide (HBL.out.trans (hb.mono HBL.out.size))
  replace HTA := hide (HTA.out.next hb)
  clear hb ca cv HLa
  cases lg with
  | true =>
    clear hna
    have cv := HBV.out.cell
    go_wp2_with fail
    go_ret
    exact ⟨rfl, HBL.out⟩
  | false =>
  have hna' := hna (by first | rfl | trivial)
  clear hna
  have hN : ((T.mk ⟨ak, a0, a1, a2, a3, an, ai, ax, ab⟩ la)).nodes ≤ 1000000 := by omega
  have HN := hide hN
  clear hna' hN
  have cv := HBV.out.cell
  go_wp2_with fail
  refine (new_any s cf ef v2 hs).mono ?_
  rintro e u4 ⟨sb, sm, x, rfl, hsc, htx, hmk, _, _, hb⟩
  replace HBA := hide (HBA.out.next hb)
  replace HBV := hide (HBV.out.next hb)
  replace HBL := hide (HBL.out.trans (hb.mono HBL.out.size))
  replace HTA := hide (HTA.out.next hb)
  have HS := hide hsc
  have HX := hide (And.intro htx (show RefSc x cf ef from ⟨fun i hi => by rw [hmk i (by rw [← htx]; exact hi), htx], by rw [htx]; exact hs⟩))
  clear hb cv hsc hmk htx
  have cv := HBV.out.cell
  have hz := hide (Blk.new u4 34 #[.string ⟨#[]⟩, .int .i64 0, .int .i64 0, .bool false])
  go_wp2_with (refine wpList_store_row rfl _ _ _ rfl u4.heap.size 0 _ _ _ rfl rfl hz.out Tryd.sizeRefScene (by simp) (by simp [Value.oneCell']) ?_)
  intro y0 hrow2 hg2 hz2
  have hrow := hrow2.out
  rw [splice_all (by rfl)] at hrow
  have hb : Below u4.heap.size u4 y0 := below_grown ((Below.refl u4.heap.size u4).alloc (Nat.le_refl _) _) hg2 (Nat.le_refl _) (fun g hg => by injection hg with hg; omega)
  have HK := hide (TW.mk (t := (T.mk ⟨ak, a0, a1, a2, a3, an, ai, ax, ab⟩ la)) (A := A) (c := c) (HBL.out.trans (hb.mono HBL.out.size)) (HBA.out.next hb) hrow (HTA.out.next hb) (HS.out.below hb))
  clear hb hrow hrow2 hg2 hz2 hz cv HBA HBV HBL HTA HS
  generalize u4.heap.size = gs at *
  have cz := HK.out.bt.cell
  simp only [T.hd, T.subs, Hd.cells] at cz
  go_wp2_with fail
  refine (HTk.out x sb sm _ HN.out HK.out.it HK.out.sc (HE.out _ HK.out.below)).mono ?_
  rintro e y1 ⟨r1, rfl, hok, hno1, hb⟩
  replace HK := hide (HK.out.next hb)
  have HQ1 := hide (And.intro hok hno1)
  clear hb cz hok hno1 HTk
  have cz := HK.out.bt.cell
  simp only [T.hd, T.subs, Hd.cells] at cz
  have cs := HK.out.bs.cell
  go_wp2_with fail
  refine (HAs.out x p q HP.out.1 HP.out.2 HX.out.1 _ HN.out HK.out.it).mono ?_
  rintro e y2 ⟨rfl, hb⟩
  replace HK := hide (HK.out.next hb)
  clear hb cz cs
  have hlt : ∀ g, asked (T.mk ⟨ak, a0, a1, a2, a3, an, ai, ax, ab⟩ la) x [p, q] = some g → g < 21 := fun g h => asked_lt h
  have hno := (@asked_none (T.mk ⟨ak, a0, a1, a2, a3, an, ai, ax, ab⟩ la) x [p, q])
  generalize asked (T.mk ⟨ak, a0, a1, a2, a3, an, ai, ax, ab⟩ la) x [p, q] = res at *
  have HNO := hide hno
  have HLT := hide hlt
  clear hno hlt
  go_upto_region 9 with fail
  go_cut [66] (fun z wx => z = .bool false ∧ TW (T.mk ⟨ak, a0, a1, a2, a3, an, ai, ax, ab⟩ la) A c #[.string s, .int .i64 cf, .int .i64 ef, .bool false] w.heap.size gs sb sm x w wx)
  case first =>
    go_wp2_with fail
    refine (numOf_any _ a res HLT.out (HG.out _ HK.out.below)).mono ?_
    rintro e y3 ⟨rfl, hb⟩
    replace HK := hide (HK.out.next hb)
    clear hb HLT
    cases res with
    | some g =>
      have hne0 : ((g : Int) + 1 == 0) = false := beq_false_of_ne (by omega)
      obtain rfl : r1 = false := HQ1.out.2 (by simp)
      simp only [numOf]
      go_wp2_with fail
      go_meet
      case rel => exact ⟨rfl, HK.out⟩
    | none =>
      simp only [numOf]
      obtain ⟨hck, hx63, hpp⟩ := HNO.out.1 (by first | rfl | trivial)
      have hp' := hpp p (by simp)
      have hq' := hpp q (by simp)
      obtain ⟨i, hi⟩ : ∃ i : Nat, p = i := ⟨p.toNat, by omega⟩
      obtain ⟨j, hj⟩ : ∃ j : Nat, q = j := ⟨q.toNat, by omega⟩
      subst hi
      subst hj
      have HP2 := hide (And.intro hck (And.intro hx63 (show i ≤ x.text.size ∧ j ≤ x.text.size by have : x.text.size = x.len := rfl; omega)))
      clear hck hx63 hpp hp' hq'
      have cz := HK.out.bt.cell
      simp only [T.hd, T.subs, Hd.cells] at cz
      have cs := HK.out.bs.cell
      go_wp2_with fail
      refine (HRt.out x HX.out.1 HX.out.2 HP2.out.2.1 (HFc.out HP2.out.1) _ HN.out HK.out.it i HP2.out.2.2.1 j HP2.out.2.2.2).mono ?_
      rintro e y4 ⟨r2, rfl, hr2, hb⟩
      obtain rfl : r1 = r2 := by
        rw [Bool.eq_iff_iff, HQ1.out.1 (by first | rfl | trivial), hr2]
        exact Iff.rfl
      replace HK := hide (HK.out.next hb)
      clear hb cz cs hr2
      cases r1 <;>
        (go_wp2_with fail
         go_meet
         case rel => exact ⟨rfl, HK.out⟩)
  case rest =>
  obtain ⟨rfl, hk⟩ := hcut
  replace HK := hide hk
  clear hk HRt HNO HLT HQ1
  generalize errOf a res = junk1
  generalize numOf res = junk2
  clear res
  have cz := HK.out.bt.cell
  simp only [T.hd, T.subs, Hd.cells] at cz
  go_wp2_with fail
  refine (HFi.out x sb sm _ HN.out HK.out.it HK.out.sc (HE.out _ HK.out.below)).mono ?_
  rintro e z1 ⟨f1, u1, b1, rfl, hok, hno1, hb⟩
  replace HK := hide (HK.out.next hb)
  have HQ1 := hide (And.intro hok hno1)
  clear hb cz hok hno1 HFi
  have hz := hide (Blk.new z1 72 #[.int .i64 0, .int .i64 0])
  go_wp2_with (refine wpList_store_row rfl _ _ _ rfl z1.heap.size 0 _ _ _ rfl rfl hz.out Tryd.sizeSpan (by simp) (by simp [Value.oneCell']) ?_)
  intro z2 hrow2 hg2 hz2
  have hrow := hrow2.out
  rw [splice_all (by rfl)] at hrow
  have hb : Below z1.heap.size z1 z2 := below_grown ((Below.refl z1.heap.size z1).alloc (Nat.le_refl _) _) hg2 (Nat.le_refl _) (fun g hg => by injection hg with hg; omega)
  replace HK := hide (HK.out.next hb)
  have HSp := hide hrow
  clear hb hrow hrow2 hg2 hz2 hz
  generalize z1.heap.size = g14 at *
  have cz := HK.out.bt.cell
  simp only [T.hd, T.subs, Hd.cells] at cz
  have cs := HK.out.bs.cell
  go_wp2_with fail
  refine (HAs.out x 0 0 ⟨by omega, by omega⟩ ⟨by omega, by omega⟩ HX.out.1 _ HN.out HK.out.it).mono ?_
  rw [asked_zero2]
  rintro e z3 ⟨rfl, hb⟩
  replace HK := hide (HK.out.next hb)
  replace HSp := hide (HSp.out.next hb)
  clear hb cz cs HAs
  have hlt : ∀ g, asked (T.mk ⟨ak, a0, a1, a2, a3, an, ai, ax, ab⟩ la) x [] = some g → g < 21 := fun g h => asked_lt h
  have hno := (@asked_none (T.mk ⟨ak, a0, a1, a2, a3, an, ai, ax, ab⟩ la) x [])
  generalize asked (T.mk ⟨ak, a0, a1, a2, a3, an, ai, ax, ab⟩ la) x [] = res at *
  have HNO := hide hno
  have HLT := hide hlt
  clear hno hlt
  go_wp2_with fail
  refine (numOf_any _ a res HLT.out (HG.out _ HK.out.below)).mono ?_
  rintro e z4 ⟨rfl, hb⟩
  replace HK := hide (HK.out.next hb)
  replace HSp := hide (HSp.out.next hb)
  clear hb HLT
  have csp := HSp.out.cell
  have hss := run_eql_span
  have hsg := Tryd.spanGuard
  cases res with
  | some g =>
    have hne0 : ((g : Int) + 1 != 0) = true := bne_iff_ne.2 (by omega)
    obtain ⟨rfl, rfl, rfl⟩ := HQ1.out.2 (by simp)
    simp only [numOf]
    go_wp2_with fail
    go_ret
    exact ⟨rfl, HK.out.below⟩
  | none =>
  simp only [numOf]
  obtain ⟨hck, hx63, _⟩ := HNO.out.1 (by first | rfl | trivial)
  have cz := HK.out.bt.cell
  simp only [T.hd, T.subs, Hd.cells] at cz
  have cs := HK.out.bs.cell
  have HP2 := hide (And.intro hck hx63)
  clear hck hx63
  go_wp2_with fail
  refine (HRf.out x HX.out.1 HX.out.2 HP2.out.2 (HFc.out HP2.out.1) _ HN.out HK.out.it).mono ?_
  rintro e z5 ⟨f2, u2, b2, rfl, hok2, hb⟩
  obtain ⟨rfl, rfl, rfl⟩ := (HQ1.out.1 (by first | rfl | trivial)).eq hok2
  replace HK := hide (HK.out.next hb)
  replace HSp := hide (HSp.out.next hb)
  clear hb cz cs hok2 csp
  have hz := hide (Blk.new z5 72 #[.int .i64 0, .int .i64 0])
  go_wp2_with (refine wpList_store_row rfl _ _ _ rfl z5.heap.size 0 _ _ _ rfl rfl hz.out Tryd.sizeSpan (by simp) (by simp [Value.oneCell']) ?_)
  intro z6 hrow2 hg2 hz2
  have hrow := hrow2.out
  rw [splice_all (by rfl)] at hrow
  have hb : Below z5.heap.size z5 z6 := below_grown ((Below.refl z5.heap.size z5).alloc (Nat.le_refl _) _) hg2 (Nat.le_refl _) (fun g hg => by injection hg with hg; omega)
  replace HK := hide (HK.out.next hb)
  have csp := (HSp.out.next hb).cell
  have csq := hrow.cell
  clear hb hrow hrow2 hg2 hz2 hz HSp
  have hself : (f1 == f1 && u1 == u1) = true := by simp
  go_wp2_with fail
  go_ret
  exact ⟨by simp, HK.out.below⟩
end Go.Proofs.YtgpmiflfgpnhaaaDoor
