/- trawllaw11.ReachParts: it returns true, and what was there stays. (Printed by gen_parts.py.) -/
import Derived.Test.YtkghlebfmggidaaDoorReachLaw
import Derived.Test.YtkghlebfmggidaaDoorBoxes
import Derived.Test.YtkghlebfmggidaaDoorLong11
import Derived.Deep.DeepCutAuto
set_option linter.unusedSimpArgs false
set_option linter.unusedVariables false
set_option linter.unnecessarySimpa false
namespace Go.Proofs.YtkghlebfmggidaaDoor
open Go.RowKit

def partSlots : List (Option Nat) := [some 84, some 85, some 86, some 87, some 88, some 89, some 90, some 91, some 92, some 93, some 11, some 12, some 13, none, none, none]
def partSpecs : List Ss := [.o (.ld 5), .o (.ld 6), .o (.lst [0, 1]), .o (.seq 2), .o (.ld 5), .o (.ld 6), .o (.lst [4, 5]), .o (.alt 6), .o (.ld 5), .o (.group 8), .bx, .bx, .bx, .st 10 3, .st 11 7, .st 12 9]
def partKinds (a b : T) : List Ks := [.o (.kt a), .o (.kt b), .o (.kl [a, b]), .o (.kt (tseq [a, b])), .o (.kt a), .o (.kt b), .o (.kl [a, b]), .o (.kt (talt [a, b])), .o (.kt a), .o (.kt (tgroup a)), .bx, .bx, .bx, .st 10 (tseq [a, b]), .st 11 (talt [a, b]), .st 12 (tgroup a)]
theorem part_agree {a b : T} {a0 : Act} {w0 : World} (hA : Box a0 w0 5 a) (hB : Box a0 w0 6 b) (na : a.nodes ≤ 2500) (nb : b.nodes ≤ 2500) : AgreeSFrom (partKinds a b) a0 w0 0 partSpecs :=
  have hn : TL.nodes [a, b] ≤ 1000000 := by simp [TL.nodes]; omega
  ⟨⟨by nofun, ⟨a, rfl, hA⟩, _, rfl, by nofun⟩, ⟨by nofun, ⟨b, rfl, hB⟩, _, rfl, by nofun⟩, ⟨by nofun, ⟨[a, b], rfl, by simp, by simp, rfl, rfl, trivial⟩, _, rfl, by nofun⟩, ⟨by nofun, ⟨[a, b], rfl, rfl, hn⟩, _, rfl, by nofun⟩,
    ⟨by nofun, ⟨a, rfl, hA⟩, _, rfl, by nofun⟩, ⟨by nofun, ⟨b, rfl, hB⟩, _, rfl, by nofun⟩, ⟨by nofun, ⟨[a, b], rfl, by simp, by simp, rfl, rfl, trivial⟩, _, rfl, by nofun⟩, ⟨by nofun, ⟨[a, b], rfl, rfl, hn⟩, _, rfl, by nofun⟩,
    ⟨by nofun, ⟨a, rfl, hA⟩, _, rfl, by nofun⟩, ⟨by nofun, ⟨a, rfl, rfl, by omega⟩, _, rfl, by nofun⟩, rfl, rfl, rfl, ⟨_, rfl, rfl, rfl⟩, ⟨_, rfl, rfl, rfl⟩, ⟨_, rfl, rfl, rfl⟩, trivial⟩

/-- A tree in a box. -/
def Boxed (w : World) (t : T) (v : Value) : Prop := ∃ g B c, v = .pointer (some ⟨g, 0, none⟩) ∧ Blk w g 27 (t.hd.cells (.slice B t.subs.length c)).toArray ∧ T.In w (· < w.heap.size) t B
def PartRel (a b : T) (w : World) (v1 v2 v3 : Value) (wx : World) : Prop := Boxed wx (tseq [a, b]) v1 ∧ Boxed wx (talt [a, b]) v2 ∧ Boxed wx (tgroup a) v3 ∧ Below w.heap.size w wx

/-- What the walk keeps: the five trees and their boxes. -/
structure PW (ta tb : T) (A B : Option Addr) (c d : Nat) (cs : Array Value) (ga gb gv g1 g2 g3 : Nat) (B1 B2 B3 : Option Addr) (c1 c2 c3 : Nat) (w y : World) : Prop where
  below : Below w.heap.size w y
  ba : Blk y ga 27 (ta.hd.cells (.slice A ta.subs.length c)).toArray
  bb : Blk y gb 27 (tb.hd.cells (.slice B tb.subs.length d)).toArray
  bv : Blk y gv 29 cs
  b1 : Blk y g1 27 ((tseq [ta, tb]).hd.cells (.slice B1 (tseq [ta, tb]).subs.length c1)).toArray
  b2 : Blk y g2 27 ((talt [ta, tb]).hd.cells (.slice B2 (talt [ta, tb]).subs.length c2)).toArray
  b3 : Blk y g3 27 ((tgroup ta).hd.cells (.slice B3 (tgroup ta).subs.length c3)).toArray
  ia : T.In y (· < y.heap.size) ta A
  ib : T.In y (· < y.heap.size) tb B
  i1 : T.In y (· < y.heap.size) (tseq [ta, tb]) B1
  i2 : T.In y (· < y.heap.size) (talt [ta, tb]) B2
  i3 : T.In y (· < y.heap.size) (tgroup ta) B3
theorem PW.next {ta tb : T} {A B : Option Addr} {c d : Nat} {cs : Array Value} {ga gb gv g1 g2 g3 : Nat} {B1 B2 B3 : Option Addr} {c1 c2 c3 : Nat} {w y y' : World} (h : PW ta tb A B c d cs ga gb gv g1 g2 g3 B1 B2 B3 c1 c2 c3 w y) (hb : Below y.heap.size y y') :
    PW ta tb A B c d cs ga gb gv g1 g2 g3 B1 B2 B3 c1 c2 c3 w y' :=
  ⟨h.below.trans (hb.mono h.below.size), h.ba.next hb, h.bb.next hb, h.bv.next hb, h.b1.next hb, h.b2.next hb, h.b3.next hb, h.ia.next hb, h.ib.next hb, h.i1.next hb, h.i2.next hb, h.i3.next hb⟩

set_option maxRecDepth 100000 in
set_option maxHeartbeats 8000000 in
theorem parts_true (ta : T) (A : Option Addr) (c : Nat) (tb : T) (B : Option Addr) (d : Nat) (s : ByteArray) (cf ef p q : Int) (w : World) (a : Nat → Addr) (hwa : ta.wf) (hia : T.In w (· < w.heap.size) ta A) (hwb : tb.wf) (hib : T.In w (· < w.heap.size) tb B)
    (hs : s.size ≤ 140737488355328) (hcf : IsI64 cf) (hef : IsI64 ef) (hp : IsI64 p) (hq : IsI64 q) (hE : Env w a) :
    Calls Tryd.prog 3 #[.agg (ta.hd.cells (.slice A ta.subs.length c)).toArray, .agg (tb.hd.cells (.slice B tb.subs.length d)).toArray, .agg [.string s, .int .i64 cf, .int .i64 ef].toArray, .int .i64 p, .int .i64 q] w fun e w' => e = .returned (.bool true) ∧ Below w.heap.size w w' := by
  have hne := fun y ad => run_neq_iface_nil (P := Tryd.prog) (w := y) 33 (by kernel_rfl) 83 (.pointer (some ad))
  have hnn := fun y => run_neq_nil_nil_at (P := Tryd.prog) (w := y) 33 (by kernel_rfl)
  have HLa := hide (fun y hi => long_any ta A c s cf ef y hwa hi)
  have HLb := hide (fun y hi => long_any tb B d s cf ef y hwb hi)
  have HCa := hide (fun y hN hi he => check_any ta A c y a hN hi he)
  have HCb := hide (fun y hN hi he => check_any tb B d y a hN hi he)
  have HE := hide (fun x (hx : Below w.heap.size w x) => hE.below hx)
  have HPF := hide (And.intro hwa hwb)
  have HLv := hide (fun y (hy : Below w.heap.size w y) => lives11_true y a (hE.below hy))
  have HTA := hide hia
  have HTB := hide hib
  clear hia hib hE hwa hwb
  obtain ⟨⟨ak, a0, a1, a2, a3, an, ai, ax, ab⟩, la⟩ := ta
  obtain ⟨⟨bk, b0, b1, b2, b3, bn, bi, bx, bb⟩, lb⟩ := tb
  simp only [T.hd, T.subs, Hd.cells] at HLa HLb HCa HCb ⊢
  obtain ⟨p1, p2⟩ := hp
  obtain ⟨q1, q2⟩ := hq
  generalize hcka : ((T.mk ⟨ak, a0, a1, a2, a3, an, ai, ax, ab⟩ la)).check = cka at *
  generalize hckb : ((T.mk ⟨bk, b0, b1, b2, b3, bn, bi, bx, bb⟩ lb)).check = ckb at *
  have HKA := hide hcka
  have HKB := hide hckb
  clear hcka hckb
  go_enter Tryd.func3, Tryd.ntmps3
  go_wp2_with fail
  have hbel := (((Below.refl w.heap.size w).alloc (Nat.le_refl _) (.cells #[.int .i64 ak, .int .u64 a0, .int .u64 a1, .int .u64 a2, .int .u64 a3, .slice A la.length c, .int .i64 an, .int .i64 ai, .int .i64 ax, .bool ab] 27)).alloc (by simp) (.cells #[.int .i64 bk, .int .u64 b0, .int .u64 b1, .int .u64 b2, .int .u64 b3, .slice B lb.length d, .int .i64 bn, .int .i64 bi, .int .i64 bx, .bool bb] 27)).alloc (by simp; omega) (.cells #[.string s, .int .i64 cf, .int .i64 ef] 29)
  have hba := ((Blk.new w 27 #[.int .i64 ak, .int .u64 a0, .int .u64 a1, .int .u64 a2, .int .u64 a3, .slice A la.length c, .int .i64 an, .int .i64 ai, .int .i64 ax, .bool ab]).alloc (.cells #[.int .i64 bk, .int .u64 b0, .int .u64 b1, .int .u64 b2, .int .u64 b3, .slice B lb.length d, .int .i64 bn, .int .i64 bi, .int .i64 bx, .bool bb] 27)).alloc (.cells #[.string s, .int .i64 cf, .int .i64 ef] 29)
  have hbb := (Blk.new (w.alloc (.cells #[.int .i64 ak, .int .u64 a0, .int .u64 a1, .int .u64 a2, .int .u64 a3, .slice A la.length c, .int .i64 an, .int .i64 ai, .int .i64 ax, .bool ab] 27)) 27 #[.int .i64 bk, .int .u64 b0, .int .u64 b1, .int .u64 b2, .int .u64 b3, .slice B lb.length d, .int .i64 bn, .int .i64 bi, .int .i64 bx, .bool bb]).alloc (.cells #[.string s, .int .i64 cf, .int .i64 ef] 29)
  have hbv := Blk.new ((w.alloc (.cells #[.int .i64 ak, .int .u64 a0, .int .u64 a1, .int .u64 a2, .int .u64 a3, .slice A la.length c, .int .i64 an, .int .i64 ai, .int .i64 ax, .bool ab] 27)).alloc (.cells #[.int .i64 bk, .int .u64 b0, .int .u64 b1, .int .u64 b2, .int .u64 b3, .slice B lb.length d, .int .i64 bn, .int .i64 bi, .int .i64 bx, .bool bb] 27)) 29 #[.string s, .int .i64 cf, .int .i64 ef]
  simp only [World.size_alloc] at hbb hbv
  refine (HLv.out _ hbel).mono ?_
  rintro e v1 ⟨rfl, hb⟩
  have HBA := hide (hba.next hb)
  have HBB := hide (hbb.next hb)
  have HBV := hide (hbv.next hb)
  have HBL := hide (hbel.trans (hb.mono hbel.size))
  replace HTA := hide ((HTA.out.next hbel).next hb)
  replace HTB := hide ((HTB.out.next hbel).next hb)
  clear hb hbel hba hbb hbv HLv
  have ca := HBA.out.cell
  have cv := HBV.out.cell
  go_wp2_with fail
  refine (HLa.out _ HTA.out).mono ?_
  rintro e v2 ⟨lg, rfl, hna, hb⟩
  replace HBA := hide (HBA.out.next hb)
  replace HBB := hide (HBB.out.next hb)
  replace HBV := hide (HBV.out.next hb)
  replace HBL := hide (HBL.out.trans (hb.mono HBL.out.size))
  replace HTA := hide (HTA.out.next hb)
  replace HTB := hide (HTB.out.next hb)
  clear hb ca cv HLa
  cases lg with
  | true =>
    clear hna
    have cv := HBV.out.cell
    go_wp2_with fail
    go_ret
    exact ⟨rfl, HBL.out⟩
  | false =>
  have hna' := hna (by first | rfl | trivial)
  clear hna
  have cb := HBB.out.cell
  have cv := HBV.out.cell
  go_wp2_with fail
  refine (HLb.out _ HTB.out).mono ?_
  rintro e v3 ⟨lg, rfl, hnb, hb⟩
  replace HBA := hide (HBA.out.next hb)
  replace HBB := hide (HBB.out.next hb)
  replace HBV := hide (HBV.out.next hb)
  replace HBL := hide (HBL.out.trans (hb.mono HBL.out.size))
  replace HTA := hide (HTA.out.next hb)
  replace HTB := hide (HTB.out.next hb)
  clear hb cb cv HLb
  cases lg with
  | true =>
    clear hnb
    go_wp2_with fail
    go_ret
    exact ⟨rfl, HBL.out⟩
  | false =>
  have hnb' := hnb (by first | rfl | trivial)
  clear hnb
  have HNN := hide (And.intro hna' hnb')
  have ca := HBA.out.cell
  go_wp2_with fail
  refine (HCa.out _ (by omega) HTA.out ((HE.out _ HBL.out).sent.mono (by decide))).mono ?_
  rintro e v4 ⟨rfl, hb⟩
  replace HBA := hide (HBA.out.next hb)
  replace HBB := hide (HBB.out.next hb)
  replace HBV := hide (HBV.out.next hb)
  replace HBL := hide (HBL.out.trans (hb.mono HBL.out.size))
  replace HTA := hide (HTA.out.next hb)
  replace HTB := hide (HTB.out.next hb)
  clear hb ca HCa
  cases cka with
  | some g =>
    simp only [errOf, errV]
    go_wp2_with fail
    go_ret
    exact ⟨rfl, HBL.out⟩
  | none =>
  simp only [errOf]
  have cb := HBB.out.cell
  go_wp2_with fail
  refine (HCb.out _ (by omega) HTB.out ((HE.out _ HBL.out).sent.mono (by decide))).mono ?_
  rintro e v5 ⟨rfl, hb⟩
  replace HBA := hide (HBA.out.next hb)
  replace HBB := hide (HBB.out.next hb)
  replace HBV := hide (HBV.out.next hb)
  replace HBL := hide (HBL.out.trans (hb.mono HBL.out.size))
  replace HTA := hide (HTA.out.next hb)
  replace HTB := hide (HTB.out.next hb)
  clear hb cb HCb
  cases ckb with
  | some g =>
    simp only [errOf, errV]
    go_wp2_with fail
    go_ret
    exact ⟨rfl, HBL.out⟩
  | none =>
  simp only [errOf]
  have cv := HBV.out.cell
  by_cases h63 : (63 : Int) < s.size
  · have eh63 : decide ((63 : Int) < (s.size : Int)) = true := decide_eq_true h63
    go_wp2_with fail
    go_ret
    exact ⟨rfl, HBL.out⟩
  have eh63 : decide ((63 : Int) < (s.size : Int)) = false := decide_eq_false h63
  by_cases hp0 : p < 0
  · have ehp0 : decide (p < 0) = true := decide_eq_true hp0
    go_wp2_with fail
    go_ret
    exact ⟨rfl, HBL.out⟩
  have ehp0 : decide (p < 0) = false := decide_eq_false hp0
  by_cases hq0 : q < 0
  · have ehq0 : decide (q < 0) = true := decide_eq_true hq0
    go_wp2_with fail
    go_ret
    exact ⟨rfl, HBL.out⟩
  have ehq0 : decide (q < 0) = false := decide_eq_false hq0
  by_cases hps : (s.size : Int) < p
  · have ehps : decide ((s.size : Int) < p) = true := decide_eq_true hps
    go_wp2_with fail
    go_ret
    exact ⟨rfl, HBL.out⟩
  have ehps : decide ((s.size : Int) < p) = false := decide_eq_false hps
  by_cases hqs : (s.size : Int) < q
  · have ehqs : decide ((s.size : Int) < q) = true := decide_eq_true hqs
    go_wp2_with fail
    go_ret
    exact ⟨rfl, HBL.out⟩
  have ehqs : decide ((s.size : Int) < q) = false := decide_eq_false hqs
  have hna : 1 + TL.nodes la ≤ 2500 := by simpa [T.nodes] using hna'
  have hnb : 1 + TL.nodes lb ≤ 2500 := by simpa [T.nodes] using hnb'
  clear hna' hnb'
  go_upto_region 5 with fail
  clear cv eh63 ehp0 ehq0 ehps ehqs
  go_cut [11, 12, 13] (fun x1 x2 x3 wx => PartRel (T.mk ⟨ak, a0, a1, a2, a3, an, ai, ax, ab⟩ la) (T.mk ⟨bk, b0, b1, b2, b3, bn, bi, bx, bb⟩ lb) v5 x1 x2 x3 wx)
  case first =>
    refine wp_region_stores partSlots partSpecs (partKinds (T.mk ⟨ak, a0, a1, a2, a3, an, ai, ax, ab⟩ la) (T.mk ⟨bk, b0, b1, b2, b3, bn, bi, bx, bb⟩ lb)) rfl rfl rfl (by kernel_rfl) (by kernel_rfl) (by kernel_rfl) (by kernel_rfl) (part_agree ?bA ?bB (by simp only [T.nodes]; omega) (by simp only [T.nodes]; omega)) (k := 0) rfl ?_
    case bA => exact ⟨_, A, c, rfl, HBA.out, HTA.out⟩
    case bB => exact ⟨_, B, d, rfl, HBB.out, HTB.out⟩
    intro vals wn AA hbn hold hval
    have hrel : PartRel (T.mk ⟨ak, a0, a1, a2, a3, an, ai, ax, ab⟩ la) (T.mk ⟨bk, b0, b1, b2, b3, bn, bi, bx, bb⟩ lb) v5 (vals 11) (vals 12) (vals 13) wn := by
      obtain ⟨g1, _, f1, _, _, _, u1⟩ := hval 10 (some 11) rfl .bx rfl
      obtain ⟨g2, _, f2, _, _, _, u2⟩ := hval 11 (some 12) rfl .bx rfl
      obtain ⟨g3, _, f3, _, _, _, u3⟩ := hval 12 (some 13) rfl .bx rfl
      obtain ⟨h1, B1, c1, za1, zb1, i1⟩ := hval 13 none rfl _ rfl
      obtain ⟨h2, B2, c2, za2, zb2, i2⟩ := hval 14 none rfl _ rfl
      obtain ⟨h3, B3, c3, za3, zb3, i3⟩ := hval 15 none rfl _ rfl
      obtain rfl := u1 _ zb1.lt za1
      obtain rfl := u2 _ zb2.lt za2
      obtain rfl := u3 _ zb3.lt za3
      have m : ∀ {t : T} {B : Option Addr}, T.In wn (okO (boxS partSpecs) AA wn) t B → T.In wn (· < wn.heap.size) t B := fun h => h.same (Same.refl _ _) okO.lt
      exact ⟨⟨_, B1, c1, f1, zb1, m i1⟩, ⟨_, B2, c2, f2, zb2, m i2⟩, ⟨_, B3, c3, f3, zb3, m i3⟩, hbn⟩
    clear hval hold hbn
    refine wpAny_done (by kernel_rfl) ?_
    replace hrel := hide hrel
    unfold partSlots
    simp only [slotsOf, List.filterMap_cons, List.filterMap_nil, putAll, List.foldl_cons, List.foldl_nil, Act.put, List.setIfInBounds_toArray, List.set_cons_zero, List.set_cons_succ]
    go_wp2_with fail
    go_meet
    case rel => exact hrel.out
  case rest =>
    obtain ⟨⟨g1, B1, c1, rfl, hb1, hi1⟩, ⟨g2, B2, c2, rfl, hb2, hi2⟩, ⟨g3, B3, c3, rfl, hb3, hi3⟩, hbw⟩ := hcut
    have HK := hide (PW.mk (ta := (T.mk ⟨ak, a0, a1, a2, a3, an, ai, ax, ab⟩ la)) (tb := (T.mk ⟨bk, b0, b1, b2, b3, bn, bi, bx, bb⟩ lb)) (A := A) (B := B) (c := c) (d := d) (B1 := B1) (B2 := B2) (B3 := B3) (c1 := c1) (c2 := c2) (c3 := c3) (HBL.out.trans (hbw.mono HBL.out.size)) (HBA.out.next hbw) (HBB.out.next hbw) (HBV.out.next hbw) hb1 hb2 hb3 (HTA.out.next hbw) (HTB.out.next hbw) hi1 hi2 hi3)
    obtain ⟨fs1, fs2, fs3, fn1, fn2, fn3⟩ := parts_fit (T.mk ⟨ak, a0, a1, a2, a3, an, ai, ax, ab⟩ la) (T.mk ⟨bk, b0, b1, b2, b3, bn, bi, bx, bb⟩ lb) HPF.out.1 HPF.out.2 (by simpa [T.nodes] using hna) (by simpa [T.nodes] using hnb)
    have HFS := hide (And.intro fs1 (And.intro fs2 (And.intro fs3 (And.intro fn1 (And.intro fn2 fn3)))))
    have HCs := hide (fun y hi he => check_any (tseq [(T.mk ⟨ak, a0, a1, a2, a3, an, ai, ax, ab⟩ la), (T.mk ⟨bk, b0, b1, b2, b3, bn, bi, bx, bb⟩ lb)]) B1 c1 y a fn1 hi he)
    have HCg := hide (fun y hi he => check_any (tgroup (T.mk ⟨ak, a0, a1, a2, a3, an, ai, ax, ab⟩ la)) B3 c3 y a fn3 hi he)
    clear hb1 hb2 hb3 hi1 hi2 hi3 hbw HBL HBA HBB HBV HTA HTB fs1 fs2 fs3 fn1 fn2 fn3
    generalize hcks : (tseq [(T.mk ⟨ak, a0, a1, a2, a3, an, ai, ax, ab⟩ la), (T.mk ⟨bk, b0, b1, b2, b3, bn, bi, bx, bb⟩ lb)]).check = cks at *
    generalize hckg : (tgroup (T.mk ⟨ak, a0, a1, a2, a3, an, ai, ax, ab⟩ la)).check = ckg at *
    have HKS := hide hcks
    have HKG := hide hckg
    clear hcks hckg
    simp only [tseq, tgroup, T.hd, T.subs, Hd.cells] at HCs HCg
    have cs := HK.out.b1.cell
    simp only [tseq, T.hd, T.subs, Hd.cells] at cs
    go_wp2_with fail
    refine (HCs.out _ HK.out.i1 ((HE.out _ HK.out.below).sent.mono (by decide))).mono ?_
    rintro e u1 ⟨rfl, hb⟩
    replace HK := hide (HK.out.next hb)
    clear hb cs HCs
    cases cks with
    | some g =>
      simp only [errOf, errV]
      go_wp2_with fail
      go_ret
      exact ⟨rfl, HK.out.below⟩
    | none =>
    simp only [errOf]
    have cg := HK.out.b3.cell
    simp only [tgroup, T.hd, T.subs, Hd.cells] at cg
    go_wp2_with fail
    refine (HCg.out _ HK.out.i3 ((HE.out _ HK.out.below).sent.mono (by decide))).mono ?_
    rintro e u2 ⟨rfl, hb⟩
    replace HK := hide (HK.out.next hb)
    clear hb cg HCg
    cases ckg with
    | some g =>
      simp only [errOf, errV]
      go_wp2_with fail
      go_ret
      exact ⟨rfl, HK.out.below⟩
    | none =>
    simp only [errOf]
    have cv := HK.out.bv.cell
    go_wp2_with fail
    refine (new_any s cf ef u2 hs).mono ?_
    rintro e u3 ⟨sb, sm, x, rfl, hsc, htx, _, _, _, hb⟩
    replace HK := hide (HK.out.next hb)
    have HS := hide hsc
    have hxl : x.len = s.size := congrArg ByteArray.size htx
    clear hb cv hsc
    have HTs := hide (fun y hi hs' he => takes_fine (x := x) (b := sb) (m := sm) (tseq [(T.mk ⟨ak, a0, a1, a2, a3, an, ai, ax, ab⟩ la), (T.mk ⟨bk, b0, b1, b2, b3, bn, bi, bx, bb⟩ lb)]) B1 c1 p q a HFS.out.2.2.2.1 HFS.out.1 ⟨p1, p2⟩ ⟨q1, q2⟩ (by omega) (by omega) (by omega) (by omega) (by omega) HKS.out y hi hs' he)
    have HTl := hide (fun y hi hs' he => takes_fine (x := x) (b := sb) (m := sm) (talt [(T.mk ⟨ak, a0, a1, a2, a3, an, ai, ax, ab⟩ la), (T.mk ⟨bk, b0, b1, b2, b3, bn, bi, bx, bb⟩ lb)]) B2 c2 p q a HFS.out.2.2.2.2.1 HFS.out.2.1 ⟨p1, p2⟩ ⟨q1, q2⟩ (by omega) (by omega) (by omega) (by omega) (by omega) ((alt2_check _ _).trans HKS.out) y hi hs' he)
    have HTg := hide (fun y hi hs' he => takes_fine (x := x) (b := sb) (m := sm) (tgroup (T.mk ⟨ak, a0, a1, a2, a3, an, ai, ax, ab⟩ la)) B3 c3 p q a HFS.out.2.2.2.2.2 HFS.out.2.2.1 ⟨p1, p2⟩ ⟨q1, q2⟩ (by omega) (by omega) (by omega) (by omega) (by omega) HKG.out y hi hs' he)
    have HTa := hide (fun (r : Int) (h1 : 0 ≤ r) (h2 : r ≤ s.size) y hi hs' he => takes_fine (x := x) (b := sb) (m := sm) (T.mk ⟨ak, a0, a1, a2, a3, an, ai, ax, ab⟩ la) A c p r a (by simp only [T.nodes]; omega) HPF.out.1 ⟨p1, p2⟩ ⟨by omega, by omega⟩ (by omega) (by omega) (by omega) (by omega) (by omega) HKA.out y hi hs' he)
    have HTb := hide (fun (r : Int) (h1 : 0 ≤ r) (h2 : r ≤ s.size) y hi hs' he => takes_fine (x := x) (b := sb) (m := sm) (T.mk ⟨bk, b0, b1, b2, b3, bn, bi, bx, bb⟩ lb) B d r q a (by simp only [T.nodes]; omega) HPF.out.2 ⟨by omega, by omega⟩ ⟨q1, q2⟩ (by omega) (by omega) (by omega) (by omega) (by omega) HKB.out y hi hs' he)
    have HTb2 := hide (fun y hi hs' he => HTb.out p (by omega) (by omega) y hi hs' he)
    have HEa := hide (fun y hi hs' he => ends_fine (x := x) (b := sb) (m := sm) (T.mk ⟨ak, a0, a1, a2, a3, an, ai, ax, ab⟩ la) A c p a (by simp only [T.nodes]; omega) HPF.out.1 ⟨p1, p2⟩ (by omega) (by omega) (by omega) HKA.out y hi hs' he)
    have HRs := hide (rseq2_mid x (T.mk ⟨ak, a0, a1, a2, a3, an, ai, ax, ab⟩ la) (T.mk ⟨bk, b0, b1, b2, b3, bn, bi, bx, bb⟩ lb) p.toNat q.toNat)
    have HRl := hide (ralt2_R x (T.mk ⟨ak, a0, a1, a2, a3, an, ai, ax, ab⟩ la) (T.mk ⟨bk, b0, b1, b2, b3, bn, bi, bx, bb⟩ lb) p.toNat q.toNat)
    have HRg := hide (rgroup_R x (T.mk ⟨ak, a0, a1, a2, a3, an, ai, ax, ab⟩ la) p.toNat q.toNat)
    generalize (tseq [(T.mk ⟨ak, a0, a1, a2, a3, an, ai, ax, ab⟩ la), (T.mk ⟨bk, b0, b1, b2, b3, bn, bi, bx, bb⟩ lb)]).R x = Rs at *
    generalize (talt [(T.mk ⟨ak, a0, a1, a2, a3, an, ai, ax, ab⟩ la), (T.mk ⟨bk, b0, b1, b2, b3, bn, bi, bx, bb⟩ lb)]).R x = Rl at *
    generalize (tgroup (T.mk ⟨ak, a0, a1, a2, a3, an, ai, ax, ab⟩ la)).R x = Rg at *
    generalize ((T.mk ⟨ak, a0, a1, a2, a3, an, ai, ax, ab⟩ la)).R x = Ra at *
    generalize ((T.mk ⟨bk, b0, b1, b2, b3, bn, bi, bx, bb⟩ lb)).R x = Rb at *
    simp only [tseq, talt, tgroup, T.hd, T.subs, Hd.cells] at HTs HTl HTg HTa HTb HTb2 HEa
    clear HKS HKG HKA HKB HFS HPF
    have cz := HK.out.b1.cell
    simp only [tseq, T.hd, T.subs, Hd.cells] at cz
    go_wp2_with fail
    refine (HTs.out _ HK.out.i1 HS.out (HE.out _ HK.out.below)).mono ?_
    rintro e u4 ⟨rs, rfl, hrs, hb⟩
    replace HK := hide (HK.out.next hb)
    replace HS := hide (HS.out.below hb)
    have HRS := hide (hrs.trans HRs.out)
    clear hb cz hrs HTs HRs
    go_wp2_with fail
    go_loopw [17, 18] (fun wv kv wr => ∃ (bw : Bool) (n : Int), wv = .bool bw ∧ kv = .int .i64 n ∧ p ≤ n ∧ (n ≤ q + 1 ∨ n = p) ∧ (bw = true ↔ ∃ m : Nat, p.toNat ≤ m ∧ (m : Int) < n ∧ (m : Int) ≤ q ∧ Ra p.toNat m ∧ Rb m q.toNat) ∧ PW (T.mk ⟨ak, a0, a1, a2, a3, an, ai, ax, ab⟩ la) (T.mk ⟨bk, b0, b1, b2, b3, bn, bi, bx, bb⟩ lb) A B c d #[.string s, .int .i64 cf, .int .i64 ef] w.heap.size (w.heap.size + 1) (w.heap.size + 1 + 1) g1 g2 g3 B1 B2 B3 c1 c2 c3 w wr ∧ Scn wr sb sm x) (fun _ kv _ => (q + 1 - intOf kv).toNat)
    case atStart => exact ⟨false, p, rfl, rfl, by omega, .inr rfl, by simp only [Bool.false_eq_true, false_iff]; rintro ⟨m, h1, h2, _⟩; omega, HK.out, HS.out⟩
    case round =>
      obtain ⟨bw, n, rfl, rfl, hn1, hn2, hbw, hk, hsc⟩ := hrel
      clear HK HS
      have HK := hide hk
      have HS := hide hsc
      have HBW := hide hbw
      clear hk hsc hbw
      by_cases hnq : n ≤ q
      case neg =>
        have hle : decide (n ≤ q) = false := decide_eq_false hnq
        have hws : bw = rs := by
          rw [Bool.eq_iff_iff, HBW.out, HRS.out]
          constructor
          · rintro ⟨m, h1, h2, h3, h4⟩; exact ⟨m, h1, by omega, h4⟩
          · rintro ⟨m, h1, h2, h3⟩; exact ⟨m, h1, by omega, by omega, h3⟩
        subst hws
        clear HBW HRS hn1 hn2 HTb
        have cz := HK.out.ba.cell
        simp only [T.hd, T.subs, Hd.cells] at cz
        go_wp2_with fail
        refine (HTa.out q (by omega) (by omega) _ HK.out.ia HS.out (HE.out _ HK.out.below)).mono ?_
        rintro e y1 ⟨ra, rfl, hra, hb⟩
        replace HK := hide (HK.out.next hb)
        replace HS := hide (HS.out.below hb)
        have HA1 := hide hra
        clear hb cz hra hle
        have cz := HK.out.bb.cell
        simp only [T.hd, T.subs, Hd.cells] at cz
        go_wp2_with fail
        refine (HTb2.out _ HK.out.ib HS.out (HE.out _ HK.out.below)).mono ?_
        rintro e y2 ⟨rb, rfl, hrb, hb⟩
        replace HK := hide (HK.out.next hb)
        replace HS := hide (HS.out.below hb)
        have HA2 := hide hrb
        clear hb cz hrb
        have cz := HK.out.b2.cell
        simp only [talt, T.hd, T.subs, Hd.cells] at cz
        go_wp2_with fail
        refine (HTl.out _ HK.out.i2 HS.out (HE.out _ HK.out.below)).mono ?_
        rintro e y3 ⟨rl, rfl, hrl, hb⟩
        replace HK := hide (HK.out.next hb)
        replace HS := hide (HS.out.below hb)
        obtain rfl : rl = (ra || rb) := by rw [Bool.eq_iff_iff, hrl, HRl.out, Bool.or_eq_true, HA1.out, HA2.out]
        clear hb cz hrl
        have cz := HK.out.b3.cell
        simp only [tgroup, T.hd, T.subs, Hd.cells] at cz
        go_wp2_with fail
        refine (HTg.out _ HK.out.i3 HS.out (HE.out _ HK.out.below)).mono ?_
        rintro e y4 ⟨rg, rfl, hrg, hb⟩
        replace HK := hide (HK.out.next hb)
        replace HS := hide (HS.out.below hb)
        obtain rfl : rg = ra := by rw [Bool.eq_iff_iff, hrg, HRg.out, HA1.out]
        clear hb cz hrg
        have cz := HK.out.ba.cell
        simp only [T.hd, T.subs, Hd.cells] at cz
        go_wp2_with fail
        refine (HEa.out _ HK.out.ia HS.out (HE.out _ HK.out.below)).mono ?_
        rintro e y5 ⟨v, r, rfl, ho, hends, hb⟩
        have HF := hide (HK.out.below.trans (hb.mono HK.out.below.size))
        have hmem : (q ∈ r) ↔ rg = true := by
          have := hends.mem (by omega) q.toNat
          rw [show ((q.toNat : Nat) : Int) = q by omega] at this
          rw [this, HA1.out]
        obtain ⟨LA, Lc, rfl, hl1, hl2⟩ := ho.form
        have HME := hide hmem
        have HL := hide hl2
        have hrl := hends.short
        clear hb cz hends ho hmem hl2 HK HS HA1 HA2 HRl HRg HEa HTa HTb2 HTl HTg
        go_wp2_with fail
        go_loopw [33, 215] (fun hv kv wr => ∃ (bh : Bool) (k : Nat), hv = .bool bh ∧ kv = .int .i64 k ∧ k ≤ r.length ∧ (bh = true ↔ q ∈ r.take k) ∧ Below y5.heap.size y5 wr) (fun _ kv _ => r.length - (intOf kv).toNat)
        case atStart => exact ⟨false, 0, rfl, rfl, by omega, by simp, Below.refl _ _⟩
        case round =>
          obtain ⟨bh, k, rfl, rfl, hk, hbh, hbel⟩ := hrel
          by_cases hlt : k < r.length
          case neg =>
            have g1 : decide ((k : Int) < (r.length : Int)) = false := decide_eq_false (by omega)
            obtain rfl : bh = rg := by rw [Bool.eq_iff_iff, hbh, List.take_of_length_le (by omega), HME.out]
            have HF2 := hide (HF.out.trans (hbel.mono HF.out.size))
            clear hbel hbh HL HME HF
            cases bh <;> cases rb <;> cases bw <;> (go_wp2_with fail; go_ret; exact ⟨rfl, HF2.out⟩)
          have g1 : decide ((k : Int) < (r.length : Int)) = true := decide_eq_true (by omega)
          obtain ⟨gl, rfl, _, zl, cl⟩ := HL.out k _ (List.getElem?_eq_getElem hlt)
          have cl' := (hbel.cell (p := ⟨gl, k, none⟩) zl).trans cl
          have e1 : r.take (k + 1) = r.take k ++ [r[k]] := by rw [List.take_add_one, List.getElem?_eq_getElem hlt]; rfl
          generalize r[k] = z at *
          have HT := hide (And.intro hbh (And.intro e1 hbel))
          clear hbh e1 hbel cl
          cases bh with
          | true =>
            go_wp2_with fail
            go_roundw
            case rel => exact ⟨true, k + 1, rfl, by go_num, hlt, by rw [HT.out.2.1, List.mem_append, ← HT.out.1]; simp, HT.out.2.2⟩
            case measure => simp [intOf]; omega
          | false =>
            by_cases hz : z = q
            · have ez : decide (z = q) = true := decide_eq_true hz
              go_wp2_with fail
              go_roundw
              case rel => exact ⟨true, k + 1, rfl, by go_num, hlt, by rw [HT.out.2.1, List.mem_append]; simp [hz], HT.out.2.2⟩
              case measure => simp [intOf]; omega
            · have ez : decide (z = q) = false := decide_eq_false hz
              have hz' : ¬ q = z := fun e => hz e.symm
              go_wp2_with fail
              go_roundw
              case rel => exact ⟨z == q, k + 1, rfl, by go_num, hlt, by rw [HT.out.2.1, List.mem_append, ← HT.out.1]; simp [hz, hz'], HT.out.2.2⟩
              case measure => simp [intOf]; omega
      have hle : decide (n ≤ q) = true := decide_eq_true hnq
      clear HTl HTg HEa HRl HRg HRS
      have cz := HK.out.ba.cell
      simp only [T.hd, T.subs, Hd.cells] at cz
      go_wp2_with fail
      refine (HTa.out n (by omega) (by omega) _ HK.out.ia HS.out (HE.out _ HK.out.below)).mono ?_
      rintro e y1 ⟨ra, rfl, hra, hb⟩
      replace HK := hide (HK.out.next hb)
      replace HS := hide (HS.out.below hb)
      have HA1 := hide hra
      clear hb cz hra
      have cz := HK.out.bb.cell
      simp only [T.hd, T.subs, Hd.cells] at cz
      go_wp2_with fail
      refine (HTb.out n (by omega) (by omega) _ HK.out.ib HS.out (HE.out _ HK.out.below)).mono ?_
      rintro e y2 ⟨rb, rfl, hrb, hb⟩
      replace HK := hide (HK.out.next hb)
      replace HS := hide (HS.out.below hb)
      have HA2 := hide hrb
      clear hb cz hrb
      have hstep : ((bw || (ra && rb)) = true ↔ ∃ m : Nat, p.toNat ≤ m ∧ (m : Int) < n + 1 ∧ (m : Int) ≤ q ∧ Ra p.toNat m ∧ Rb m q.toNat) := by
        rw [Bool.or_eq_true, Bool.and_eq_true, HBW.out, HA1.out, HA2.out]
        constructor
        · rintro (⟨m, h1, h2, h3⟩ | ⟨h1, h2⟩)
          · exact ⟨m, h1, by omega, h3⟩
          · exact ⟨n.toNat, by omega, by omega, by omega, h1, h2⟩
        · rintro ⟨m, h1, h2, h3, h4, h5⟩
          by_cases hm : (m : Int) < n
          · exact .inl ⟨m, h1, hm, h3, h4, h5⟩
          · obtain rfl : m = n.toNat := by omega
            exact .inr ⟨h4, h5⟩
      have HST := hide hstep
      clear hstep HBW HA1 HA2
      cases bw <;> cases ra <;> cases rb <;>
        (go_wp2_with fail
         go_roundw
         case rel => exact ⟨_, n + 1, rfl, by go_num, by omega, by omega, HST.out, HK.out, HS.out⟩
         case measure => simp [intOf]; omega)
end Go.Proofs.YtkghlebfmggidaaDoor
