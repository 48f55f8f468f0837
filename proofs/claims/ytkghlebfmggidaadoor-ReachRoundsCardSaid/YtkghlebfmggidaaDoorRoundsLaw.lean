/- trawllaw11.ReachRounds: it returns true, and what was there stays. (Printed by gen_rounds.py.) -/
import Derived.Test.YtkghlebfmggidaaDoorReachLaw
import Derived.Test.YtkghlebfmggidaaDoorBoxes
import Derived.Test.YtkghlebfmggidaaDoorSetMap
import Derived.Test.YtkghlebfmggidaaDoorLong11
import Derived.Deep.DeepCutAuto
set_option linter.unusedSimpArgs false
set_option linter.unusedVariables false
set_option linter.unnecessarySimpa false
namespace Go.Proofs.YtkghlebfmggidaaDoor
open Go.RowKit

def roundSlots : List (Option Nat) := [some 72, some 73, some 74, some 75, some 76, some 77, some 78, some 79, some 80, some 81, some 82, some 12, none]
def roundSpecs : List Ss := [.o (.ld 5), .o (.ld 5), .o (.mv 2), .o (.sub1 2), .o (.mv 2), .o (.mv 3), .o (.add 4 5), .o (.sub1 6), .o (.rep 1 3 7), .o (.lst [0, 8]), .o (.seq 9), .bx, .st 11 10]
def rb2 (t : T) (mn mx : Int) : T := tseq [t, trep t (mn - 1) (mx - 1)]
def roundKinds (t : T) (mn mo : Int) : List Ks := [.o (.kt t), .o (.kt t), .o (.ki mn), .o (.ki (mn - 1)), .o (.ki mn), .o (.ki mo), .o (.ki (mn + mo)), .o (.ki (mn + mo - 1)), .o (.kt (trep t (mn - 1) (mn + mo - 1))), .o (.kl [t, trep t (mn - 1) (mn + mo - 1)]), .o (.kt (rb2 t mn (mn + mo))), .bx, .st 11 (rb2 t mn (mn + mo))]
theorem round_agree {t : T} {mn mo : Int} {a0 : Act} {w0 : World} (hA : Box a0 w0 5 t) (h2 : a0.eval (.tmp 2) = .int .i64 mn) (h3 : a0.eval (.tmp 3) = .int .i64 mo) (m1 : 1 ≤ mn) (m2 : mn ≤ 3) (o1 : 0 ≤ mo) (o2 : mo ≤ 2) (na : t.nodes ≤ 2500) : AgreeSFrom (roundKinds t mn mo) a0 w0 0 roundSpecs :=
  have hn : TL.nodes [t, trep t (mn - 1) (mn + mo - 1)] ≤ 1000000 := by simp [TL.nodes, trep, T.nodes]; omega
  have i1 : IsI64 (mn - 1) := ⟨by omega, by omega⟩
  have i2 : IsI64 (mn + mo) := ⟨by omega, by omega⟩
  have i3 : IsI64 (mn + mo - 1) := ⟨by omega, by omega⟩
  ⟨⟨by nofun, ⟨t, rfl, hA⟩, _, rfl, by nofun⟩, ⟨by nofun, ⟨t, rfl, hA⟩, _, rfl, by nofun⟩, ⟨by nofun, ⟨mn, rfl, h2⟩, _, rfl, by nofun⟩, ⟨by nofun, ⟨mn, rfl, rfl, i1⟩, _, rfl, by nofun⟩, ⟨by nofun, ⟨mn, rfl, h2⟩, _, rfl, by nofun⟩, ⟨by nofun, ⟨mo, rfl, h3⟩, _, rfl, by nofun⟩,
    ⟨by nofun, ⟨mn, mo, rfl, rfl, rfl, i2⟩, _, rfl, by nofun⟩, ⟨by nofun, ⟨mn + mo, rfl, rfl, i3⟩, _, rfl, by nofun⟩, ⟨by nofun, ⟨t, mn - 1, mn + mo - 1, rfl, rfl, rfl, rfl, by omega⟩, _, rfl, by nofun⟩, ⟨by nofun, ⟨[t, trep t (mn - 1) (mn + mo - 1)], rfl, by simp, by simp, rfl, rfl, trivial⟩, _, rfl, by nofun⟩,
    ⟨by nofun, ⟨[t, trep t (mn - 1) (mn + mo - 1)], rfl, rfl, hn⟩, _, rfl, by nofun⟩, rfl, ⟨_, rfl, rfl, rfl⟩, trivial⟩

/-- A tree in a box. -/
def Boxed (w : World) (t : T) (v : Value) : Prop := ∃ g B c, v = .pointer (some ⟨g, 0, none⟩) ∧ Blk w g 27 (t.hd.cells (.slice B t.subs.length c)).toArray ∧ T.In w (· < w.heap.size) t B

/-- What the walk keeps: four trees and their boxes. -/
structure RW (ta : T) (mn mx : Int) (A : Option Addr) (c : Nat) (cs : Array Value) (ga gv g1 g2 g3 : Nat) (B1 B2 B3 : Option Addr) (c1 c2 c3 : Nat) (w y : World) : Prop where
  below : Below w.heap.size w y
  ba : Blk y ga 27 (ta.hd.cells (.slice A ta.subs.length c)).toArray
  bv : Blk y gv 29 cs
  b1 : Blk y g1 27 ((trep ta mn mx).hd.cells (.slice B1 (trep ta mn mx).subs.length c1)).toArray
  b2 : Blk y g2 27 ((rb2 ta mn mx).hd.cells (.slice B2 (rb2 ta mn mx).subs.length c2)).toArray
  b3 : Blk y g3 27 ((trep ta 0 (-1)).hd.cells (.slice B3 (trep ta 0 (-1)).subs.length c3)).toArray
  ia : T.In y (· < y.heap.size) ta A
  i1 : T.In y (· < y.heap.size) (trep ta mn mx) B1
  i2 : T.In y (· < y.heap.size) (rb2 ta mn mx) B2
  i3 : T.In y (· < y.heap.size) (trep ta 0 (-1)) B3
theorem RW.next {ta : T} {mn mx : Int} {A : Option Addr} {c : Nat} {cs : Array Value} {ga gv g1 g2 g3 : Nat} {B1 B2 B3 : Option Addr} {c1 c2 c3 : Nat} {w y y' : World} (h : RW ta mn mx A c cs ga gv g1 g2 g3 B1 B2 B3 c1 c2 c3 w y) (hb : Below y.heap.size y y') :
    RW ta mn mx A c cs ga gv g1 g2 g3 B1 B2 B3 c1 c2 c3 w y' :=
  ⟨h.below.trans (hb.mono h.below.size), h.ba.next hb, h.bv.next hb, h.b1.next hb, h.b2.next hb, h.b3.next hb, h.ia.next hb, h.i1.next hb, h.i2.next hb, h.i3.next hb⟩

set_option maxRecDepth 100000 in
set_option maxHeartbeats 8000000 in
theorem roundsLaw_true (ta : T) (A : Option Addr) (c : Nat) (s : ByteArray) (cf ef le mr p : Int) (w : World) (a : Nat → Addr) (hwa : ta.wf) (hia : T.In w (· < w.heap.size) ta A)
    (hs : s.size ≤ 140737488355328) (hcf : IsI64 cf) (hef : IsI64 ef) (hle : IsI64 le) (hmr : IsI64 mr) (hp : IsI64 p) (hE : Env w a) :
    Calls Tryd.prog 4 #[.agg (ta.hd.cells (.slice A ta.subs.length c)).toArray, .agg [.string s, .int .i64 cf, .int .i64 ef].toArray, .int .i64 le, .int .i64 mr, .int .i64 p] w fun e w' => e = .returned (.bool true) ∧ Below w.heap.size w w' := by
  have hne := fun y ad => run_neq_iface_nil (P := Tryd.prog) (w := y) 33 (by kernel_rfl) 83 (.pointer (some ad))
  have hnn := fun y => run_neq_nil_nil_at (P := Tryd.prog) (w := y) 33 (by kernel_rfl)
  have hmm := @run_makeMap Tryd.prog
  have HLa := hide (fun y hi => long_any ta A c s cf ef y hwa hi)
  have HCa := hide (fun y hN hi he => check_any ta A c y a hN hi he)
  have HE := hide (fun x (hx : Below w.heap.size w x) => hE.below hx)
  have HPF := hide hwa
  have HLv := hide (fun y (hy : Below w.heap.size w y) => lives11_true y a (hE.below hy))
  have HTA := hide hia
  clear hia hE hwa
  obtain ⟨⟨ak, a0, a1, a2, a3, an, ai, ax, ab⟩, la⟩ := ta
  simp only [T.hd, T.subs, Hd.cells] at HLa HCa ⊢
  obtain ⟨p1, p2⟩ := hp
  generalize hcka : ((T.mk ⟨ak, a0, a1, a2, a3, an, ai, ax, ab⟩ la)).check = cka at *
  have HKA := hide hcka
  clear hcka
  go_enter Tryd.func4, Tryd.ntmps4
  go_wp2_with fail
  have hbel := ((Below.refl w.heap.size w).alloc (Nat.le_refl _) (.cells #[.int .i64 ak, .int .u64 a0, .int .u64 a1, .int .u64 a2, .int .u64 a3, .slice A la.length c, .int .i64 an, .int .i64 ai, .int .i64 ax, .bool ab] 27)).alloc (by simp) (.cells #[.string s, .int .i64 cf, .int .i64 ef] 29)
  have hba := (Blk.new w 27 #[.int .i64 ak, .int .u64 a0, .int .u64 a1, .int .u64 a2, .int .u64 a3, .slice A la.length c, .int .i64 an, .int .i64 ai, .int .i64 ax, .bool ab]).alloc (.cells #[.string s, .int .i64 cf, .int .i64 ef] 29)
  have hbv := Blk.new (w.alloc (.cells #[.int .i64 ak, .int .u64 a0, .int .u64 a1, .int .u64 a2, .int .u64 a3, .slice A la.length c, .int .i64 an, .int .i64 ai, .int .i64 ax, .bool ab] 27)) 29 #[.string s, .int .i64 cf, .int .i64 ef]
  simp only [World.size_alloc] at hbv
  refine (HLv.out _ hbel).mono ?_
  rintro e v1 ⟨rfl, hb⟩
  have HBA := hide (hba.next hb)
  have HBV := hide (hbv.next hb)
  have HBL := hide (hbel.trans (hb.mono hbel.size))
  replace HTA := hide ((HTA.out.next hbel).next hb)
  clear hb hbel hba hbv HLv
  have ca := HBA.out.cell
  have cv := HBV.out.cell
  go_wp2_with fail
  refine (HLa.out _ HTA.out).mono ?_
  rintro e v2 ⟨lg, rfl, hna, hb⟩
  replace HBA := hide (HBA.out.next hb)
  replace HBV := hide (HBV.out.next hb)
  replace HBL := hide (HBL.out.trans (hb.mono HBL.out.size))
  replace HTA := hide (HTA.out.next hb)
  clear hb ca cv HLa
  cases lg with
  | true =>
    clear hna
    have cv := HBV.out.cell
    go_wp2_with fail
    go_ret
    exact ⟨rfl, HBL.out⟩
  | false =>
  have hna' := hna (by first | rfl | trivial)
  clear hna
  have ca := HBA.out.cell
  go_wp2_with fail
  refine (HCa.out _ (by omega) HTA.out ((HE.out _ HBL.out).sent.mono (by decide))).mono ?_
  rintro e v3 ⟨rfl, hb⟩
  replace HBA := hide (HBA.out.next hb)
  replace HBV := hide (HBV.out.next hb)
  replace HBL := hide (HBL.out.trans (hb.mono HBL.out.size))
  replace HTA := hide (HTA.out.next hb)
  clear hb ca HCa
  cases cka with
  | some g =>
    simp only [errOf, errV]
    go_wp2_with fail
    go_ret
    exact ⟨rfl, HBL.out⟩
  | none =>
  simp only [errOf]
  have cv := HBV.out.cell
  by_cases h40 : (40 : Int) < s.size
  · have eh40 : decide ((40 : Int) < (s.size : Int)) = true := decide_eq_true h40
    go_wp2_with fail
    go_ret
    exact ⟨rfl, HBL.out⟩
  have eh40 : decide ((40 : Int) < (s.size : Int)) = false := decide_eq_false h40
  by_cases hp0 : p < 0
  · have ehp0 : decide (p < 0) = true := decide_eq_true hp0
    go_wp2_with fail
    go_ret
    exact ⟨rfl, HBL.out⟩
  have ehp0 : decide (p < 0) = false := decide_eq_false hp0
  by_cases hps : (s.size : Int) < p
  · have ehps : decide ((s.size : Int) < p) = true := decide_eq_true hps
    go_wp2_with fail
    go_ret
    exact ⟨rfl, HBL.out⟩
  have ehps : decide ((s.size : Int) < p) = false := decide_eq_false hps
  have hna : 1 + TL.nodes la ≤ 2500 := by simpa [T.nodes] using hna'
  clear hna'
  go_upto_region 5 with fail
  clear cv eh40 ehp0 ehps
  go_cut [2, 3] (fun x1 x2 wx => ∃ mn mo : Int, x1 = .int .i64 mn ∧ x2 = .int .i64 mo ∧ 1 ≤ mn ∧ mn ≤ 3 ∧ 0 ≤ mo ∧ mo ≤ 2 ∧ Below v3.heap.size v3 wx)
  case first =>
    go_wp2_with fail
    go_meet
    case rel => exact ⟨_, _, rfl, rfl, (third le).2.1, (third le).2.2, (third mr).1.1, (third mr).1.2, Below.refl _ _⟩
  case rest =>
  obtain ⟨mn, mo, rfl, rfl, m1, m2, o1, o2, hb⟩ := hcut
  replace HBA := hide (HBA.out.next hb)
  replace HBV := hide (HBV.out.next hb)
  replace HBL := hide (HBL.out.trans (hb.mono HBL.out.size))
  replace HTA := hide (HTA.out.next hb)
  clear hb
  have HRep := hide (fun (m n : Int) y hi => rep_new (T.mk ⟨ak, a0, a1, a2, a3, an, ai, ax, ab⟩ la) A c m n y (by simp only [T.nodes]; omega) hi)
  simp only [T.hd, T.subs, Hd.cells] at HRep
  have ca := HBA.out.cell
  go_wp2_with fail
  refine (HRep.out mn (mn + mo) _ HTA.out).mono ?_
  rintro e x1 ⟨B1, c1, rfl, hin, hb⟩
  replace HBA := hide (HBA.out.next hb)
  replace HBV := hide (HBV.out.next hb)
  replace HBL := hide (HBL.out.trans (hb.mono HBL.out.size))
  replace HTA := hide (HTA.out.next hb)
  clear hb ca
  have hz := hide (Blk.new x1 27 #[.int .i64 0, .int .u64 0, .int .u64 0, .int .u64 0, .int .u64 0, .slice none 0 0, .int .i64 0, .int .i64 0, .int .i64 0, .bool false])
  go_wp2_with (refine wpList_store_row rfl _ _ _ rfl x1.heap.size 0 _ _ _ rfl rfl hz.out Tryd.sizeNode (by simp) (by simp [Value.oneCell']) ?_)
  intro x1s hrow2 hg2 hz2
  have hrow := hrow2.out
  rw [splice_all (by rfl)] at hrow
  have hb : Below x1.heap.size x1 x1s := below_grown ((Below.refl x1.heap.size x1).alloc (Nat.le_refl _) _) hg2 (Nat.le_refl _) (fun g hg => by injection hg with hg; omega)
  replace HBA := hide (HBA.out.next hb)
  replace HBV := hide (HBV.out.next hb)
  replace HBL := hide (HBL.out.trans (hb.mono HBL.out.size))
  replace HTA := hide (HTA.out.next hb)
  have HI1 := hide (hin.next hb)
  have HB1 := hide hrow
  clear hb hrow hrow2 hg2 hz2 hz hin
  generalize x1.heap.size = g1 at *
  go_upto_region 7 with fail
  go_cut [12] (fun z1 wx => Boxed wx (rb2 (T.mk ⟨ak, a0, a1, a2, a3, an, ai, ax, ab⟩ la) mn (mn + mo)) z1 ∧ Below x1s.heap.size x1s wx)
  case first =>
    refine wp_region_stores roundSlots roundSpecs (roundKinds (T.mk ⟨ak, a0, a1, a2, a3, an, ai, ax, ab⟩ la) mn mo) rfl rfl rfl (by kernel_rfl) (by kernel_rfl) (by kernel_rfl) (by kernel_rfl) (round_agree ?bA rfl rfl m1 m2 o1 o2 (by simp only [T.nodes]; omega)) (k := 0) rfl ?_
    case bA => exact ⟨_, A, c, rfl, HBA.out, HTA.out⟩
    intro vals wn AA hbn hold hval
    have hrel : Boxed wn (rb2 (T.mk ⟨ak, a0, a1, a2, a3, an, ai, ax, ab⟩ la) mn (mn + mo)) (vals 12) ∧ Below x1s.heap.size x1s wn := by
      obtain ⟨g1, _, f1, _, _, _, u1⟩ := hval 11 (some 12) rfl .bx rfl
      obtain ⟨h1, B1, c1, za1, zb1, i1⟩ := hval 12 none rfl _ rfl
      obtain rfl := u1 _ zb1.lt za1
      have m : ∀ {t : T} {B : Option Addr}, T.In wn (okO (boxS roundSpecs) AA wn) t B → T.In wn (· < wn.heap.size) t B := fun h => h.same (Same.refl _ _) okO.lt
      exact ⟨⟨_, B1, c1, f1, zb1, m i1⟩, hbn⟩
    clear hval hold hbn
    refine wpAny_done (by kernel_rfl) ?_
    replace hrel := hide hrel
    unfold roundSlots
    simp only [slotsOf, List.filterMap_cons, List.filterMap_nil, putAll, List.foldl_cons, List.foldl_nil, Act.put, List.setIfInBounds_toArray, List.set_cons_zero, List.set_cons_succ]
    go_wp2_with fail
    go_meet
    case rel => exact hrel.out
  case rest =>
  obtain ⟨⟨g2, B2, c2, rfl, hb2, hi2⟩, hb⟩ := hcut
  replace HBA := hide (HBA.out.next hb)
  replace HBV := hide (HBV.out.next hb)
  replace HBL := hide (HBL.out.trans (hb.mono HBL.out.size))
  replace HTA := hide (HTA.out.next hb)
  replace HB1 := hide (HB1.out.next hb)
  replace HI1 := hide (HI1.out.next hb)
  have HB2 := hide hb2
  have HI2 := hide hi2
  clear hb hb2 hi2
  have ca := HBA.out.cell
  go_wp2_with fail
  refine (HRep.out 0 (-1) _ HTA.out).mono ?_
  rintro e x3 ⟨B3, c3, rfl, hin, hb⟩
  replace HBA := hide (HBA.out.next hb)
  replace HBV := hide (HBV.out.next hb)
  replace HBL := hide (HBL.out.trans (hb.mono HBL.out.size))
  replace HTA := hide (HTA.out.next hb)
  replace HB1 := hide (HB1.out.next hb)
  replace HI1 := hide (HI1.out.next hb)
  replace HB2 := hide (HB2.out.next hb)
  replace HI2 := hide (HI2.out.next hb)
  clear hb ca
  have hz := hide (Blk.new x3 27 #[.int .i64 0, .int .u64 0, .int .u64 0, .int .u64 0, .int .u64 0, .slice none 0 0, .int .i64 0, .int .i64 0, .int .i64 0, .bool false])
  go_wp2_with (refine wpList_store_row rfl _ _ _ rfl x3.heap.size 0 _ _ _ rfl rfl hz.out Tryd.sizeNode (by simp) (by simp [Value.oneCell']) ?_)
  intro x3s hrow2 hg2 hz2
  have hrow := hrow2.out
  rw [splice_all (by rfl)] at hrow
  have hb : Below x3.heap.size x3 x3s := below_grown ((Below.refl x3.heap.size x3).alloc (Nat.le_refl _) _) hg2 (Nat.le_refl _) (fun g hg => by injection hg with hg; omega)
  replace HBA := hide (HBA.out.next hb)
  replace HBV := hide (HBV.out.next hb)
  replace HBL := hide (HBL.out.trans (hb.mono HBL.out.size))
  replace HTA := hide (HTA.out.next hb)
  replace HB1 := hide (HB1.out.next hb)
  replace HI1 := hide (HI1.out.next hb)
  replace HB2 := hide (HB2.out.next hb)
  replace HI2 := hide (HI2.out.next hb)
  have HI3 := hide (hin.next hb)
  have HB3 := hide hrow
  clear hb hrow hrow2 hg2 hz2 hz hin
  generalize x3.heap.size = g3 at *
  have HK := hide (RW.mk (ta := (T.mk ⟨ak, a0, a1, a2, a3, an, ai, ax, ab⟩ la)) (mn := mn) (mx := mn + mo) (A := A) (c := c) (B1 := B1) (B2 := B2) (B3 := B3) (c1 := c1) (c2 := c2) (c3 := c3) HBL.out HBA.out HBV.out HB1.out HB2.out HB3.out HTA.out HI1.out HI2.out HI3.out)
  clear HBL HBA HBV HB1 HB2 HB3 HTA HI1 HI2 HI3 HRep
  obtain ⟨fs1, fn1⟩ := rounds_fit (T.mk ⟨ak, a0, a1, a2, a3, an, ai, ax, ab⟩ la) HPF.out (by simpa [T.nodes] using hna) mn (mn + mo) ⟨by omega, by omega⟩ ⟨by omega, by omega⟩
  obtain ⟨fs2, fn2⟩ := roundseq_fit (T.mk ⟨ak, a0, a1, a2, a3, an, ai, ax, ab⟩ la) HPF.out (by simpa [T.nodes] using hna) (mn - 1) (mn + mo - 1) ⟨by omega, by omega⟩ ⟨by omega, by omega⟩
  obtain ⟨fs3, fn3⟩ := rounds_fit (T.mk ⟨ak, a0, a1, a2, a3, an, ai, ax, ab⟩ la) HPF.out (by simpa [T.nodes] using hna) 0 (-1) ⟨by omega, by omega⟩ ⟨by omega, by omega⟩
  have HFS := hide (And.intro fs1 (And.intro fs2 (And.intro fs3 (And.intro fn1 (And.intro fn2 fn3)))))
  have HC1 := hide (fun y hi he => check_any (trep (T.mk ⟨ak, a0, a1, a2, a3, an, ai, ax, ab⟩ la) mn (mn + mo)) B1 c1 y a (by omega) hi he)
  have HC2 := hide (fun y hi he => check_any (rb2 (T.mk ⟨ak, a0, a1, a2, a3, an, ai, ax, ab⟩ la) mn (mn + mo)) B2 c2 y a fn2 hi he)
  have HC3 := hide (fun y hi he => check_any (trep (T.mk ⟨ak, a0, a1, a2, a3, an, ai, ax, ab⟩ la) 0 (-1)) B3 c3 y a (by omega) hi he)
  clear fs1 fs2 fs3 fn1 fn2 fn3
  generalize hck1 : (trep (T.mk ⟨ak, a0, a1, a2, a3, an, ai, ax, ab⟩ la) mn (mn + mo)).check = ck1 at *
  generalize hck2 : (rb2 (T.mk ⟨ak, a0, a1, a2, a3, an, ai, ax, ab⟩ la) mn (mn + mo)).check = ck2 at *
  generalize hck3 : (trep (T.mk ⟨ak, a0, a1, a2, a3, an, ai, ax, ab⟩ la) 0 (-1)).check = ck3 at *
  have HK1 := hide hck1
  have HK2 := hide hck2
  have HK3 := hide hck3
  clear hck1 hck2 hck3
  simp only [trep, rb2, tseq, T.hd, T.subs, Hd.cells] at HC1 HC2 HC3
  have cz := HK.out.b1.cell
  simp only [trep, rb2, tseq, T.hd, T.subs, Hd.cells] at cz
  go_wp2_with fail
  refine (HC1.out _ HK.out.i1 ((HE.out _ HK.out.below).sent.mono (by decide))).mono ?_
  rintro e u1 ⟨rfl, hb⟩
  replace HK := hide (HK.out.next hb)
  clear hb cz HC1
  cases ck1 with
  | some g =>
    simp only [errOf, errV]
    go_wp2_with fail
    go_ret
    exact ⟨rfl, HK.out.below⟩
  | none =>
  simp only [errOf]
  have cz := HK.out.b2.cell
  simp only [trep, rb2, tseq, T.hd, T.subs, Hd.cells] at cz
  go_wp2_with fail
  refine (HC2.out _ HK.out.i2 ((HE.out _ HK.out.below).sent.mono (by decide))).mono ?_
  rintro e u2 ⟨rfl, hb⟩
  replace HK := hide (HK.out.next hb)
  clear hb cz HC2
  cases ck2 with
  | some g =>
    simp only [errOf, errV]
    go_wp2_with fail
    go_ret
    exact ⟨rfl, HK.out.below⟩
  | none =>
  simp only [errOf]
  have cz := HK.out.b3.cell
  simp only [trep, rb2, tseq, T.hd, T.subs, Hd.cells] at cz
  go_wp2_with fail
  refine (HC3.out _ HK.out.i3 ((HE.out _ HK.out.below).sent.mono (by decide))).mono ?_
  rintro e u3 ⟨rfl, hb⟩
  replace HK := hide (HK.out.next hb)
  clear hb cz HC3
  cases ck3 with
  | some g =>
    simp only [errOf, errV]
    go_wp2_with fail
    go_ret
    exact ⟨rfl, HK.out.below⟩
  | none =>
  simp only [errOf]
  have cv := HK.out.bv.cell
  go_wp2_with fail
  refine (new_any s cf ef u3 hs).mono ?_
  rintro e u4 ⟨sb, sm, x, rfl, hsc, htx, _, _, _, hb⟩
  replace HK := hide (HK.out.next hb)
  have HS := hide hsc
  have hxl : x.len = s.size := congrArg ByteArray.size htx
  clear hb cv hsc
  have HE1 := hide (fun y hi hs' he => ends_fine (x := x) (b := sb) (m := sm) (trep (T.mk ⟨ak, a0, a1, a2, a3, an, ai, ax, ab⟩ la) mn (mn + mo)) B1 c1 p a (by have := HFS.out.2.2.2.1; omega) HFS.out.1 ⟨p1, p2⟩ (by omega) (by omega) (by omega) HK1.out y hi hs' he)
  have HE2 := hide (fun y hi hs' he => ends_fine (x := x) (b := sb) (m := sm) (rb2 (T.mk ⟨ak, a0, a1, a2, a3, an, ai, ax, ab⟩ la) mn (mn + mo)) B2 c2 p a HFS.out.2.2.2.2.1 HFS.out.2.1 ⟨p1, p2⟩ (by omega) (by omega) (by omega) HK2.out y hi hs' he)
  have HE3 := hide (fun y hi hs' he => ends_fine (x := x) (b := sb) (m := sm) (trep (T.mk ⟨ak, a0, a1, a2, a3, an, ai, ax, ab⟩ la) 0 (-1)) B3 c3 p a (by have := HFS.out.2.2.2.2.2; omega) HFS.out.2.2.1 ⟨p1, p2⟩ (by omega) (by omega) (by omega) HK3.out y hi hs' he)
  have HEa := hide (fun (r : Int) (h1 : 0 ≤ r) (h2 : r ≤ s.size) y hi hs' he => ends_fine (x := x) (b := sb) (m := sm) (T.mk ⟨ak, a0, a1, a2, a3, an, ai, ax, ab⟩ la) A c r a (by simp only [T.nodes]; omega) HPF.out ⟨by omega, by omega⟩ (by omega) (by omega) (by omega) HKA.out y hi hs' he)
  have HRS := hide (rounds_same x (T.mk ⟨ak, a0, a1, a2, a3, an, ai, ax, ab⟩ la) mn (mn + mo) m1 (by omega) p.toNat)
  have HST := hide (And.intro (star_self x (T.mk ⟨ak, a0, a1, a2, a3, an, ai, ax, ab⟩ la) p.toNat) (And.intro (fun j k => @star_next x (T.mk ⟨ak, a0, a1, a2, a3, an, ai, ax, ab⟩ la) p.toNat j k) (fun j => T.R_fwd x (trep (T.mk ⟨ak, a0, a1, a2, a3, an, ai, ax, ab⟩ la) 0 (-1)) p.toNat j)))
  have hrb : (rb2 (T.mk ⟨ak, a0, a1, a2, a3, an, ai, ax, ab⟩ la) mn (mn + mo)).R x = (tseq [(T.mk ⟨ak, a0, a1, a2, a3, an, ai, ax, ab⟩ la), trep (T.mk ⟨ak, a0, a1, a2, a3, an, ai, ax, ab⟩ la) (mn - 1) (mn + mo - 1)]).R x := rfl
  rw [← hrb] at HRS
  clear hrb
  generalize (trep (T.mk ⟨ak, a0, a1, a2, a3, an, ai, ax, ab⟩ la) mn (mn + mo)).R x = R1 at *
  generalize (rb2 (T.mk ⟨ak, a0, a1, a2, a3, an, ai, ax, ab⟩ la) mn (mn + mo)).R x = R2 at *
  generalize (trep (T.mk ⟨ak, a0, a1, a2, a3, an, ai, ax, ab⟩ la) 0 (-1)).R x = R3 at *
  generalize ((T.mk ⟨ak, a0, a1, a2, a3, an, ai, ax, ab⟩ la)).R x = Ra at *
  simp only [trep, rb2, tseq, T.hd, T.subs, Hd.cells] at HE1 HE2 HE3 HEa
  clear HFS HK1 HK2 HK3 HKA HPF
  have cz := HK.out.b1.cell
  simp only [trep, rb2, tseq, T.hd, T.subs, Hd.cells] at cz
  go_wp2_with fail
  refine (HE1.out _ HK.out.i1 HS.out (HE.out _ HK.out.below)).mono ?_
  rintro e y1 ⟨v1, r1, rfl, ho, hends, hb⟩
  replace HK := hide (HK.out.next hb)
  replace HS := hide (HS.out.below hb)
  have HO1 := hide ho
  have HX1 := hide hends
  clear hb cz HE1 ho hends
  have cz := HK.out.b2.cell
  simp only [trep, rb2, tseq, T.hd, T.subs, Hd.cells] at cz
  go_wp2_with fail
  refine (HE2.out _ HK.out.i2 HS.out (HE.out _ HK.out.below)).mono ?_
  rintro e y2 ⟨v2, r2, rfl, ho, hends, hb⟩
  replace HK := hide (HK.out.next hb)
  replace HS := hide (HS.out.below hb)
  replace HO1 := hide (HO1.out.below hb (Nat.le_refl _))
  have HO2 := hide ho
  have HX2 := hide hends
  clear hb cz HE2 ho hends
  have cz := HK.out.b3.cell
  simp only [trep, rb2, tseq, T.hd, T.subs, Hd.cells] at cz
  go_wp2_with fail
  refine (HE3.out _ HK.out.i3 HS.out (HE.out _ HK.out.below)).mono ?_
  rintro e y3 ⟨v3, r3, rfl, ho, hends, hb⟩
  replace HK := hide (HK.out.next hb)
  replace HS := hide (HS.out.below hb)
  replace HO1 := hide (HO1.out.below hb (Nat.le_refl _))
  replace HO2 := hide (HO2.out.below hb (Nat.le_refl _))
  have HO3 := hide ho
  have HX3 := hide hends
  clear hb cz HE3 ho hends
  obtain rfl : r1 = r2 := HX1.out.eq HX2.out (fun j => HRS.out j)
  have HSI := hide (sameInts_any y3 HO1.out HO2.out)
  simp only [decide_true] at HSI
  obtain ⟨r', hr'⟩ := HX3.out.first (by omega) (by omega) HST.out.1 (fun j hj => (HST.out.2.2 j hj).1)
  rw [show ((p.toNat : Nat) : Int) = p by omega] at hr'
  obtain ⟨LA, Lc, rfl, hl1, hl2⟩ := HO3.out.form
  obtain ⟨gs, rfl, _, zs, c0⟩ := hl2 0 p (by rw [hr']; rfl)
  have hshort := HX3.out.short
  have hpos : 0 < r3.length := by rw [hr']; simp
  have ez : ¬ r3 = [] := fun e => by rw [e] at hpos; simp at hpos
  have ez3 : ((r3.length : Int) == 0) = false := beq_eq_false_iff_ne.2 (by omega)
  have HL := hide hl2
  have HM := hide (fun z => HX3.out.mem (by omega) z)
  have HN := hide (fun z (hz : z ∈ r3) => HX3.out.nat hz)
  clear HO1 HO2 HO3 HX1 HX2 HX3 HRS hl2 hr'
  go_wp2_with fail
  refine HSI.out.mono ?_
  rintro e y4 ⟨rfl, hb⟩
  replace HK := hide (HK.out.next hb)
  replace HS := hide (HS.out.below hb)
  have HB4 := hide hb
  have c0' := (hb.cell (p := ⟨gs, 0, none⟩) zs).trans c0
  clear hb c0 HSI
  go_wp2_with fail
  go_loopw [157] (fun kv wr => ∃ k : Nat, kv = .int .i64 k ∧ k ≤ r3.length ∧ SetMap wr y4.heap.size k (r3.take k) ∧ Below y4.heap.size y4 wr) (fun kv _ => r3.length - (intOf kv).toNat)
  case atStart => exact ⟨0, rfl, by omega, SetMap.made _, (Below.refl _ _).alloc (Nat.le_refl _) _⟩
  case round =>
    obtain ⟨k, rfl, hk, hset, hbel⟩ := hrel
    by_cases hlt : k < r3.length
    case pos =>
      have g1' : decide ((k : Int) < (r3.length : Int)) = true := decide_eq_true (by omega)
      obtain ⟨gl, hgl, _, zl, cl⟩ := HL.out k _ (List.getElem?_eq_getElem hlt)
      obtain rfl : gs = gl := by injection hgl with hgl; injection hgl
      have cl' := (hbel.cell (p := ⟨gs, k, none⟩) (Nat.lt_of_lt_of_le zl HB4.out.size)).trans ((HB4.out.cell (p := ⟨gs, k, none⟩) zl).trans cl)
      have e1 : r3.take (k + 1) = r3.take k ++ [r3[k]] := by rw [List.take_add_one, List.getElem?_eq_getElem hlt]; rfl
      obtain ⟨zj, hzj, hzj2⟩ := HN.out _ (List.getElem_mem hlt)
      generalize r3[k] = z at *
      subst hzj
      have HT := hide (And.intro e1 hbel)
      clear e1 hbel cl hgl c0'
      go_wp2_with (at_mapUpdate; refine wpList_set_put rfl _ _ _ rfl y4.heap.size k _ _ rfl rfl rfl hset (by omega) ⟨by omega, by omega⟩ ?_; intro wq hset2 hgr; simp only [Act.put, List.setIfInBounds_toArray, List.set_cons_succ, List.set_cons_zero])
      go_roundw
      case rel => exact ⟨k + 1, by go_num, hlt, by rw [HT.out.1]; exact hset2, HT.out.2.grown hgr HT.out.2.size (fun j hj => by cases hj; exact Nat.le_refl _)⟩
      case measure => simp [intOf]; omega
    case neg =>
    have g1' : decide ((k : Int) < (r3.length : Int)) = false := decide_eq_false (by omega)
    rw [List.take_of_length_le (by omega)] at hset
    replace HK := hide (HK.out.next hbel)
    replace HS := hide (HS.out.below hbel)
    have HSET := hide hset
    have hb4 := HB4.out.trans (hbel.mono HB4.out.size)
    clear HB4
    have HB4 := hide hb4
    clear hb4 hbel hset hk c0'
    go_wp2_with fail
    go_loopw [166] (fun kv wr2 => ∃ k2 : Nat, kv = .int .i64 k2 ∧ k2 ≤ r3.length ∧ SetMap wr2 y4.heap.size k r3 ∧ Below y3.heap.size y3 wr2 ∧ RW (T.mk ⟨ak, a0, a1, a2, a3, an, ai, ax, ab⟩ la) mn (mn + mo) A c #[.string s, .int .i64 cf, .int .i64 ef] w.heap.size (w.heap.size + 1) g1 g2 g3 B1 B2 B3 c1 c2 c3 w wr2 ∧ Scn wr2 sb sm x) (fun kv _ => r3.length - (intOf kv).toNat)
    case atStart => exact ⟨0, rfl, by omega, HSET.out, HB4.out, HK.out, HS.out⟩
    case round =>
      obtain ⟨k2, rfl, hk2, hset, hbel, hk, hsc⟩ := hrel
      clear HSET HB4 HK HS g1'
      have HK := hide hk
      have HS := hide hsc
      have HSET := hide hset
      have HB4 := hide hbel
      clear hk hsc hset hbel
      by_cases hlt : k2 < r3.length
      case neg =>
        have g2' : decide ((k2 : Int) < (r3.length : Int)) = false := decide_eq_false (by omega)
        go_wp2_with fail
        go_ret
        exact ⟨rfl, HK.out.below⟩
      have g2' : decide ((k2 : Int) < (r3.length : Int)) = true := decide_eq_true (by omega)
      obtain ⟨gl, hgl, _, zl, cl⟩ := HL.out k2 _ (List.getElem?_eq_getElem hlt)
      obtain rfl : gs = gl := by injection hgl with hgl; injection hgl
      have cl' := (HB4.out.cell (p := ⟨gs, k2, none⟩) zl).trans cl
      obtain ⟨zj, hzj, hzj2⟩ := HN.out _ (List.getElem_mem hlt)
      have hmem := List.getElem_mem hlt
      generalize r3[k2] = z at *
      subst hzj
      have hzR : R3 p.toNat zj := (HM.out zj).1 hmem
      have HZR := hide hzR
      clear hmem hgl cl hzR
      have ca := HK.out.ba.cell
      simp only [T.hd, T.subs, Hd.cells] at ca
      go_wp2_with fail
      refine (HEa.out (zj : Int) (by omega) (by omega) _ HK.out.ia HS.out (HE.out _ HK.out.below)).mono ?_
      rintro e u ⟨v4, r4, rfl, ho, hends, hb⟩
      replace HK := hide (HK.out.next hb)
      replace HS := hide (HS.out.below hb)
      replace HSET := hide (HSET.out.below hb)
      replace HB4 := hide (HB4.out.trans (hb.mono HB4.out.size))
      have hsh4 := hends.short
      have HM4 := hide (fun i => hends.mem (by omega) i)
      have HN4 := hide (fun y (hy : y ∈ r4) => hends.nat hy)
      obtain ⟨LB, Ld, rfl, hm1, hm2⟩ := ho.form
      have HL4 := hide hm2
      clear hb ca cl' ho hends hm2
      go_wp2_with fail
      go_loopw [181] (fun kv wr3 => ∃ k3 : Nat, kv = .int .i64 k3 ∧ k3 ≤ r4.length ∧ Below u.heap.size u wr3) (fun kv _ => r4.length - (intOf kv).toNat)
      case atStart => exact ⟨0, rfl, by omega, Below.refl _ _⟩
      case round =>
        obtain ⟨k3, rfl, hk3, hbel⟩ := hrel
        by_cases hlt3 : k3 < r4.length
        case neg =>
          have g3' : decide ((k3 : Int) < (r4.length : Int)) = false := decide_eq_false (by omega)
          replace HK := hide (HK.out.next hbel)
          replace HS := hide (HS.out.below hbel)
          replace HSET := hide (HSET.out.below hbel)
          replace HB4 := hide (HB4.out.trans (hbel.mono HB4.out.size))
          clear hbel
          go_wp2_with fail
          go_roundw
          case rel => exact ⟨k2 + 1, by go_num, hlt, HSET.out, HB4.out, HK.out, HS.out⟩
          case measure => simp [intOf]; omega
        have g3' : decide ((k3 : Int) < (r4.length : Int)) = true := decide_eq_true (by omega)
        obtain ⟨gm, rfl, _, zm, cm⟩ := HL4.out k3 _ (List.getElem?_eq_getElem hlt3)
        have cm' := (hbel.cell (p := ⟨gm, k3, none⟩) zm).trans cm
        obtain ⟨nj, hnj, hnj2⟩ := HN4.out _ (List.getElem_mem hlt3)
        have hmem4 := List.getElem_mem hlt3
        generalize r4[k3] = n at *
        subst hnj
        have hin3 : (nj : Int) ∈ r3 := by
          have h1 : Ra zj nj := by
            have := (HM4.out nj).1 hmem4
            rwa [show (zj : Int).toNat = zj by omega] at this
          exact (HM.out nj).2 (HST.out.2.1 zj nj HZR.out h1)
        have hset3 := HSET.out.below hbel
        have HT := hide (And.intro hin3 (And.intro hset3 hbel))
        clear hmem4 cm hset3 hbel hin3
        go_wp2_with (at_lookup; refine wpList_set_get rfl _ _ rfl y4.heap.size k _ _ rfl rfl HT.out.2.1 ⟨by omega, by omega⟩ HT.out.1 ?_)
        go_roundw
        case rel => exact ⟨k3 + 1, by go_num, hlt3, HT.out.2.2⟩
        case measure => simp [intOf]; omega
end Go.Proofs.YtkghlebfmggidaaDoor
