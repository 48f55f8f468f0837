/- trawllaw17.PositMeans: it returns true, and what was there stays. -/
import Derived.Test.YthkddbfgihgfaaaDoorLedLaw17
import Derived.Test.YthkddbfgihgfaaaDoorLives17
import Derived.Test.YthkddbfgihgfaaaDoorFew
import Derived.Test.YthkddbfgihgfaaaDoorRefAll
import Derived.Test.YthkddbfgihgfaaaDoorNum
set_option linter.unusedSimpArgs false
set_option linter.unusedVariables false
namespace Go.Proofs.YthkddbfgihgfaaaDoor
open Go.RowKit

theorem Tryd.sizePositsM : (Tryd.prog.info? 36).map (·.size) = some 5 := by kernel_rfl
/-- What the walk keeps: the tree's box, the view's box. -/
structure MW (w : World) (gt gv : Nat) (cs vs : Array Value) (y : World) : Prop where
  below : Below w.heap.size w y
  box : Blk y gt 27 cs
  view : Blk y gv 48 vs
theorem MW.next {w y y' : World} {gt gv : Nat} {cs vs : Array Value} (h : MW w gt gv cs vs y) (hb : Below y.heap.size y y') : MW w gt gv cs vs y' := ⟨h.below.trans (hb.mono h.below.size), h.box.nxt hb, h.view.nxt hb⟩
theorem MW.grew {w y y' : World} {gt gv b : Nat} {cs vs : Array Value} (h : MW w gt gv cs vs y) (hgt : gt < b) (hgv : gv < b) (hwt : w.heap.size ≤ b) (hg : y.grownBy y' (some b)) : MW w gt gv cs vs y' :=
  ⟨below_grew h.below hg (Nat.le_refl _) (fun q hq => by rw [← Option.some.inj hq]; exact hwt), h.box.grown hg (fun e => by have := Option.some.inj e; omega), h.view.grown hg (fun e => by have := Option.some.inj e; omega)⟩


theorem endAt_zero (p : Po) (x : Sc) (a : Nat) : endAt p x a st0 0 = p.null.toNat.testBit (x.mark a) := by
  unfold endAt endsB
  have h : (p.last.any fun e => frontB p x a st0 0 e.1.toNat && e.2.toNat.testBit (x.mark (a + 0))) = false := by
    rw [List.any_eq_false]
    intro e _
    simp [frontB]
  rw [h]
  simp [st0]
theorem endAt_succ (p : Po) (x : Sc) (a d : Nat) : endAt p x a st0 (d + 1) = p.last.any fun e => frontB p x a st0 (d + 1) e.1.toNat && e.2.toNat.testBit (x.mark (a + (d + 1))) := by
  unfold endAt endsB
  simp [st0]
theorem frontB_one (p : Po) (x : Sc) (a q : Nat) : frontB p x a st0 1 q = leads p (x.mark a) (byteB x a) p.first q := by
  show stepB p (x.mark (a + 0)) (byteB x (a + 0)) (st0 0) (frontB p x a st0 0) q = _
  unfold stepB
  have h : ((List.range p.sets.length).any fun k => frontB p x a st0 0 k && leads p (x.mark (a + 0)) (byteB x (a + 0)) (p.follow.getD k []) q) = false := by
    rw [List.any_eq_false]
    intro e _
    simp [frontB]
  rw [h]
  simp [st0]
theorem frontB_succ (p : Po) (x : Sc) (a d q : Nat) : frontB p x a st0 (d + 2) q = (List.range p.sets.length).any fun k => frontB p x a st0 (d + 1) k && leads p (x.mark (a + (d + 1))) (byteB x (a + (d + 1))) (p.follow.getD k []) q := by
  show stepB p (x.mark (a + (d + 1))) (byteB x (a + (d + 1))) (st0 (d + 1)) (frontB p x a st0 (d + 1)) q = _
  unfold stepB
  simp [st0]

/-- What stays while the positions are gone over. -/
structure PM (w : World) (P : Po) (pa : PoA) (x : Sc) (sb sm gp B0 : Nat) (y : World) : Prop where
  below : Below w.heap.size w y
  box : Blk y gp 36 (P.cells pa).toArray
  scn : Scn y sb sm x
  pos : PoIn (· < B0) y P pa
theorem PM.same {w y y' : World} {P : Po} {pa : PoA} {x : Sc} {sb sm gp B0 g : Nat} (h : PM w P pa x sb sm gp B0 y) (h1 : sb < B0) (h2 : sm < B0) (h3 : gp < B0) (h4 : B0 ≤ y.heap.size) (hg : B0 ≤ g) (hw : w.heap.size ≤ g) (hs : Same (fun b => b < y.heap.size ∧ b ≠ g) y y') (hb : Below g y y') : PM w P pa x sb sm gp B0 y' :=
  ⟨h.below.trans (hb.mono hw), h.box.same hs ⟨by omega, by omega⟩, h.scn.same hs ⟨by omega, by omega⟩ ⟨by omega, by omega⟩, h.pos.same (hs.mono fun b hb => ⟨by omega, by omega⟩) fun b hb => hb⟩
theorem PM.next {w y y' : World} {P : Po} {pa : PoA} {x : Sc} {sb sm gp B0 : Nat} (h : PM w P pa x sb sm gp B0 y) (h4 : B0 ≤ y.heap.size) (hb : Below y.heap.size y y') : PM w P pa x sb sm gp B0 y' :=
  ⟨h.below.trans (hb.mono h.below.size), h.box.nxt hb, h.scn.below hb, h.pos.same (same_of_below (hb.mono h4)) fun b hb => hb⟩

set_option maxRecDepth 100000 in
set_option maxHeartbeats 4000000 in
theorem meansLaw17_true (t : T) (A : Option Addr) (c : Nat) (s : ByteArray) (cf ef p q : Int) (w : World) (a : Nat → Addr) (hwf : t.wf) (hin : T.In w (· < w.heap.size) t A) (hs : s.size ≤ 140737488355328) (hcf : IsI64 cf) (hef : IsI64 ef) (hp : IsI64 p) (hq : IsI64 q) (hE : Env w a) :
    Calls Tryd.prog 4 #[.agg (t.hd.cells (.slice A t.subs.length c)).toArray, .agg [.string s, .int .i64 cf, .int .i64 ef].toArray, .int .i64 p, .int .i64 q] w fun e w' => e = .returned (.bool true) ∧ Below w.heap.size w w' := by
  have hne := fun y ad => run_neq_iface_nil (P := Tryd.prog) (w := y) 38 (by kernel_rfl) 187 (.pointer (some ad))
  have hei := fun y ad => run_eql_iface_nil (P := Tryd.prog) (w := y) 38 (by kernel_rfl) 187 (.pointer (some ad))
  have hnn := fun y => run_neq_nil_nil_at (P := Tryd.prog) (w := y) 38 (by kernel_rfl)
  have hen := fun y => run_eql_nil_nil_at (P := Tryd.prog) (w := y) 38 (by kernel_rfl)
  have HS := hide (fun y (hy : Below w.heap.size w y) g (hg : g ∈ [12, 13, 9]) => (hE.below hy).sent g (by
    unfold five
    simp only [List.mem_cons, List.not_mem_nil, or_false] at hg ⊢
    omega))
  have HEn := hide (fun y (hy : Below w.heap.size w y) => hE.below hy)
  have HIN := hide (fun x (hx : Below w.heap.size w x) => (hin.same (same_of_below hx) (fun y hy => Nat.lt_of_lt_of_le hy hx.size) : T.In x (· < x.heap.size) t A))
  have HL := hide (fun y (hy : Below w.heap.size w y) => lives17_true y a (HS.out y hy))
  have HFw := hide (fun y (hy : Below w.heap.size w y) => few_any t A c 2000 y hwf (by decide) (by decide) (HIN.out y hy))
  have hnod := hide (fun h => few_nodes (t := t) (m := 2000) (by decide) h)
  have HSz := hide (fun y (hy : Below w.heap.size w y) (h : t.nodes ≤ 1000000) => refSizeAll_any t A c y h (HIN.out y hy))
  have HO := hide (fun y (hy : Below w.heap.size w y) (h : t.nodes ≤ 1000000) => posOfAll_any t A c y a h (HIN.out y hy) (HS.out y hy))
  have HR := hide (fun (x : Sc) (b m : Nat) y (hy : Below w.heap.size w y) (h : t.nodes ≤ 1000000) (hsc : Scn y b m x) => takes_any (x := x) (b := b) (m := m) t A c p q y a h hwf (HIN.out y hy) hsc (HEn.out y hy) hp hq)
  have hfl := fun h : t.check = none => T.exp_flat t (t.flat_of (T.check_none h).1 hwf)
  have hxn := fun h : t.check = none => T.exp_nodes t (T.check_none h).1 (T.check_none h).2
  have hxs := fun h : t.check = none => (T.check_none h).2
  have HLo := hide (fun _ : True => t.exp.laid_ok)
  have HLw := hide (fun (h : t.check = none) => T.laid_wf (hfl h) (by have := hxn h; have := hxs h; omega))
  have HLd := hide (fun (h : t.check = none) => (show t.exp.laid.sets.length < 1000000 from by
    have h1 := t.exp.pos_len ⟨[], fun _ _ => 0⟩
    have h2 := hxn h
    have h3 := hxs h
    simp only [List.length_nil] at h1
    show t.exp.posOf.2.S.length < 1000000
    unfold T.posOf
    omega))
  have HCk := hide (fun p pa y hwf hi hy => posCheck_any p pa y a hwf hi (fun g hg => HS.out y hy g (by simp only [List.mem_cons, List.not_mem_nil, or_false] at hg ⊢; omega)))
  have HEndR := hide (fun (x : Sc) (hm : ∀ i, x.mark i < 4) (h : t.check = none) (a d : Nat) (hd : a + d ≤ x.len) => end_R (x := x) hm (T.check_none h).1 hd)
  have HCG := hide t.check_lt
  have HAK := hide (fun x => asked_none (t := t) (x := x) (ps := [p, q]))
  have HAS := hide (fun x => (show ∀ g, t.check = some g → asked t x [p, q] = some g from fun g hg => by unfold asked; rw [hg]))
  obtain ⟨p1, p2⟩ := hp
  unfold Made17 at HO
  unfold Took at HR
  clear hfl hxn hxs hin hwf hE HIN HS HEn
  obtain ⟨q1, q2⟩ := hq
  obtain ⟨P, hP⟩ : ∃ P, P = t.exp.laid := ⟨_, rfl⟩
  rw [← hP] at HO HLo HLw HLd HEndR
  obtain ⟨ck, hck⟩ : ∃ ck, ck = t.check := ⟨_, rfl⟩
  rw [← hck] at HO HLw HLd HEndR HCG HAK HAS
  generalize hfs : t.fullSize = sz at HSz
  generalize hnd : t.nodes = nd at HSz HO HR hnod
  generalize has : asked t = ask at HR HAK HAS
  clear hP hck hfs hnd has
  simp only [Hd.cells] at HFw HSz HO HR ⊢
  have hbel := ((Below.refl w.heap.size w).alloc (Nat.le_refl _) (.cells #[.int .i64 t.hd.kind, .int .u64 t.hd.s0, .int .u64 t.hd.s1, .int .u64 t.hd.s2, .int .u64 t.hd.s3, .slice A t.subs.length c, .int .i64 t.hd.num, .int .i64 t.hd.min, .int .i64 t.hd.max, .bool t.hd.bare] 27)).alloc (by simp) (.cells #[.string s, .int .i64 cf, .int .i64 ef] 48)
  have hbt := (Blk.new w 27 #[.int .i64 t.hd.kind, .int .u64 t.hd.s0, .int .u64 t.hd.s1, .int .u64 t.hd.s2, .int .u64 t.hd.s3, .slice A t.subs.length c, .int .i64 t.hd.num, .int .i64 t.hd.min, .int .i64 t.hd.max, .bool t.hd.bare]).alloc (.cells #[.string s, .int .i64 cf, .int .i64 ef] 48)
  have hbv := Blk.new (w.alloc (.cells #[.int .i64 t.hd.kind, .int .u64 t.hd.s0, .int .u64 t.hd.s1, .int .u64 t.hd.s2, .int .u64 t.hd.s3, .slice A t.subs.length c, .int .i64 t.hd.num, .int .i64 t.hd.min, .int .i64 t.hd.max, .bool t.hd.bare] 27)) 48 #[.string s, .int .i64 cf, .int .i64 ef]
  rw [World.size_alloc] at hbv
  have H0 := hide (MW.mk hbel hbt hbv)
  clear hbel hbt hbv
  go_enter Tryd.func4, Tryd.ntmps4
  go_wp2_with fail
  generalize ((w.alloc (.cells #[.int .i64 t.hd.kind, .int .u64 t.hd.s0, .int .u64 t.hd.s1, .int .u64 t.hd.s2, .int .u64 t.hd.s3, .slice A t.subs.length c, .int .i64 t.hd.num, .int .i64 t.hd.min, .int .i64 t.hd.max, .bool t.hd.bare] 27)).alloc (.cells #[.string s, .int .i64 cf, .int .i64 ef] 48)) = W0 at *
  refine (HL.out _ H0.out.below).mono ?_
  rintro e w1 ⟨rfl, hb⟩
  have H1 := hide (H0.out.next hb)
  clear hb HL H0
  have c1 := H1.out.box.cell
  have v1 := H1.out.view.cell
  go_wp2_with fail
  refine (HFw.out _ H1.out.below).mono ?_
  rintro e w2 ⟨rfl, hb⟩
  have H2 := hide (H1.out.next hb)
  clear hb HFw H1 c1 v1
  have c2 := H2.out.box.cell
  have v2 := H2.out.view.cell
  generalize hfew : decide (0 ≤ t.left 2000) = few at *
  cases few with
  | false =>
    clear hfew hnod
    go_wp2_with fail
    go_ret
    exact ⟨rfl, H2.out.below⟩
  | true =>
    have hN := hnod.out (by first | rfl | trivial)
    have hN2 : nd ≤ 1000000 := by omega
    clear hnod hfew hN
    go_wp2_with fail
    refine (HSz.out w2 H2.out.below hN2).mono ?_
    rintro e w3 ⟨rfl, hb⟩
    have H3 := hide (H2.out.next hb)
    clear hb HSz H2 c2 v2
    have c3 := H3.out.box.cell
    have v3 := H3.out.view.cell
    by_cases h4 : 300 < sz
    · have e4 : decide (300 < sz) = true := decide_eq_true h4
      go_wp2_with fail
      go_ret
      exact ⟨rfl, H3.out.below⟩
    have e4 : decide (300 < sz) = false := decide_eq_false h4
    by_cases h6 : 40 < s.size
    · have e6 : decide ((40 : Int) < (s.size : Int)) = true := decide_eq_true (by omega)
      go_wp2_with fail
      go_ret
      exact ⟨rfl, H3.out.below⟩
    have e6 : decide ((40 : Int) < (s.size : Int)) = false := decide_eq_false (by omega)
    go_wp2_with fail
    refine (new_any s cf ef w3 hs).mono ?_
    rintro e w4 ⟨b, m, x, rfl, hscn, hxt, _, _, _, hb⟩
    have hxl : x.len ≤ 40 := by
      have : x.len = s.size := by rw [← hxt]; rfl
      omega
    have H4 := hide (And.intro (H3.out.next hb) hscn)
    clear hb H3 c3 v3 hscn hxt
    have c4 := H4.out.1.box.cell
    go_wp2_with fail
    refine (HR.out x b m w4 H4.out.1.below hN2 H4.out.2).mono ?_
    rintro e w5 ⟨r, rfl, hr1, _, hb⟩
    have H5 := hide (And.intro (H4.out.1.next hb) (H4.out.2.below hb))
    clear hb HR H4 c4
    have c5 := H5.out.1.box.cell
    go_wp2_with fail
    refine (HO.out w5 H5.out.1.below hN2).mono ?_
    rintro e w6 hm
    cases ck with
    | some g =>
      have hm2 : e = .returned (.tuple #[.agg #[.slice none 0 0, .int .i64 0, .slice none 0 0, .slice none 0 0, .slice none 0 0], errV (a g)]) ∧ Below w5.heap.size w5 w6 := by
        rcases hm with ⟨g', h1, h2, h3⟩ | ⟨h, _⟩
        · obtain rfl := Option.some.inj h1
          exact ⟨h2, h3⟩
        · cases h
      obtain ⟨rfl, hb⟩ := hm2
      have H6 := hide (H5.out.1.next hb)
      have hask := HAS.out x g rfl
      clear hb hm HO H5 c5 hr1
      have hbp := Blk.new w6 36 #[.slice none 0 0, .int .i64 0, .slice none 0 0, .slice none 0 0, .slice none 0 0]
      have hal := (Below.refl w6.heap.size w6).alloc (Nat.le_refl _) (.cells #[.slice none 0 0, .int .i64 0, .slice none 0 0, .slice none 0 0, .slice none 0 0] 36)
      go_wp2_with (refine wpList_store_row rfl _ _ _ rfl w6.heap.size 0 _ _ _ rfl rfl hbp Tryd.sizePositsM (by simp) (by simp [Value.oneCell']) ?_)
      intro w7 _ hg7 _
      have hb7 := below_grew hal hg7 (Nat.le_refl _) (fun q hq => by rw [← Option.some.inj hq]; exact Nat.le_refl _)
      have H7 := hide (H6.out.next hb7)
      clear hg7 hal hbp H6 hb7
      simp only [errOf, errV]
      go_wp2_with fail
      go_ret
      exact ⟨rfl, H7.out.below⟩
    | none =>
      have hm2 : ∃ sv v1 v2 fv vs, e = .returned (.tuple #[.agg #[sv, .int .i64 P.null, v1, v2, fv], .nilIface]) ∧ OwnPo w5.heap.size P sv v1 v2 fv vs w6 ∧ Below w5.heap.size w5 w6 := by
        rcases hm with ⟨g', h1, h2, h3⟩ | ⟨_, h⟩
        · cases h1
        · exact h
      obtain ⟨sv, v1, v2, fv, vs, rfl, hown, hb⟩ := hm2
      obtain ⟨pa, hpa, hpi⟩ := hown.in_
      have hpi6 : PoIn (· < w6.heap.size) w6 P pa := hpi.same (Same.refl _ _) fun b hb => hb.2
      have H6 := hide (And.intro (H5.out.1.next hb) (And.intro (H5.out.2.below hb) hpi6))
      clear hb hm HO H5 c5 hown hpi hpi6
      simp only [Po.cells] at hpa
      injection hpa with hpa
      injection hpa with e1 hpa
      injection hpa with _ hpa
      injection hpa with e2 hpa
      injection hpa with e3 hpa
      injection hpa with e4 _
      subst e1 e2 e3 e4
      have HLd' := hide (HLd.out rfl)
      have HLw' := hide (HLw.out rfl)
      have HLo' := hide (HLo.out trivial)
      have HER := hide (HEndR.out x H6.out.2.1.small (by first | trivial | rfl))
      obtain ⟨nu, hnu⟩ : ∃ nu : Nat, P.null = nu := ⟨P.null.toNat, by have := HLo'.out.low; omega⟩
      have hnu16 : nu < 16 := by have := HLo'.out.high; omega
      have hPc : (P.cells pa).toArray = #[.slice pa.s P.sets.length pa.cs, .int .i64 (nu : Int), .slice pa.f P.first.length pa.cf, .slice pa.l P.last.length pa.cl, .slice pa.w P.follow.length pa.cw] := by simp only [Po.cells]; rw [hnu]
      rw [hnu]
      have HNU := hide (And.intro hnu hPc)
      have hn6 : P.sets.length ≤ 1000000 := by have := HLd'.out; omega
      clear HLd HLw HLo HCG HAS hnu hPc HEndR
      have hbp := Blk.new w6 36 #[.slice none 0 0, .int .i64 0, .slice none 0 0, .slice none 0 0, .slice none 0 0]
      have hal := (Below.refl w6.heap.size w6).alloc (Nat.le_refl _) (.cells #[.slice none 0 0, .int .i64 0, .slice none 0 0, .slice none 0 0, .slice none 0 0] 36)
      go_wp2_with (refine wpList_store_row rfl _ _ _ rfl w6.heap.size 0 _ _ _ rfl rfl hbp Tryd.sizePositsM (by simp) (by simp [Value.oneCell']) ?_)
      intro w7 hrow hg7 _
      have hrow7 := hrow.out
      rw [splice_full (by rfl), ← HNU.out.2] at hrow7
      have hb7 := below_grew hal hg7 (Nat.le_refl _) (fun q hq => by rw [← Option.some.inj hq]; exact Nat.le_refl _)
      have hw67 : w6.heap.size < w7.heap.size := hrow7.lt
      have hsb := H6.out.2.1.box.lt
      have hsm := H6.out.2.1.row.lt
      have H7 := hide (PM.mk (w := w) (P := P) (pa := pa) (x := x) (sb := b) (sm := m) (gp := w6.heap.size) (B0 := w7.heap.size) (H6.out.1.next hb7).below hrow7 (H6.out.2.1.below hb7) (H6.out.2.2.next hb7))
      have hwB : w.heap.size ≤ w7.heap.size := H7.out.below.size
      clear hg7 hal hbp H6 hb7 hrow7 hrow
      have hb7 : b < w7.heap.size := by omega
      have hm7 : m < w7.heap.size := by omega
      clear hsb hsm
      generalize w6.heap.size = gp at *
      generalize hB0 : w7.heap.size = B0 at *
      have hB7 : B0 ≤ w7.heap.size := by omega
      clear hB0
      cases hak : ask x [p, q] with
      | some g =>
        clear hr1 hak
        simp only [errOf, errV]
        go_wp2_with fail
        go_ret
        exact ⟨rfl, H7.out.below⟩
      | none =>
      have hA := (HAK.out x).1 hak
      have hp0 := hA.2.2 p (by simp)
      have hq0 := hA.2.2 q (by simp)
      have HR1 := hide (hr1 hak)
      clear hr1 hak hA HAK
      simp only [errOf]
      obtain ⟨i, rfl⟩ : ∃ i : Nat, p = i := ⟨p.toNat, by omega⟩
      obtain ⟨j, rfl⟩ : ∃ j : Nat, q = j := ⟨q.toNat, by omega⟩
      have hil : i ≤ x.len := by omega
      have hjl : j ≤ x.len := by omega
      clear hp0 hq0
      simp only [Int.toNat_natCast] at HR1
      by_cases hlt : j < i
      · have e7 : decide ((j : Int) < (i : Int)) = true := decide_eq_true (by omega)
        go_wp2_with fail
        go_ret
        exact ⟨rfl, H7.out.below⟩
      have e7 : decide ((j : Int) < (i : Int)) = false := decide_eq_false (by omega)
      have c7 := H7.out.box.cell
      rw [HNU.out.2] at c7
      have HC := hide (HCk.out P pa w7 HLw'.out (H7.out.pos.same (Same.refl _ _) fun b hb => by omega) H7.out.below)
      simp only [HNU.out.2] at HC
      clear HCk
      go_wp2_with fail
      refine HC.out.mono ?_
      rintro e w8 ⟨ge, rfl, hge, _, hb⟩
      obtain rfl := hge.2 HLo'.out
      have H8 := hide (H7.out.next hB7 hb)
      have hB8 : B0 ≤ w8.heap.size := Nat.le_trans hB7 hb.size
      clear hb H7 c7 HC hge hB7
      simp only [walkErr]
      by_cases hij : i = j
      · subst hij
        have e8 : decide ((i : Int) = (i : Int)) = true := by simp
        have c8 := H8.out.box.cell
        rw [HNU.out.2] at c8
        go_wp2_with fail
        refine (open17_any (x := x) (sb := b) (sm := m) nu i hnu16 hil w8 H8.out.scn).mono ?_
        rintro e w9 ⟨rfl, hb⟩
        have H9 := hide (H8.out.below.trans (hb.mono H8.out.below.size))
        have hrr : r = nu.testBit (x.mark i) := by
          rw [Bool.eq_iff_iff, HR1.out]
          have h1 := HER.out i 0 (by omega)
          rw [Nat.add_zero, endAt_zero, HNU.out.1, Int.toNat_natCast] at h1
          exact h1.symm
        rw [← hrr]
        clear hb H8 c8 hrr
        go_wp2_with fail
        go_ret
        exact ⟨by simp, H9.out⟩
      have e8 : decide ((i : Int) = (j : Int)) = false := decide_eq_false (by omega)
      have hij2 : i < j := by omega
      clear hij hlt e7
      have hmk := fun W => run_bo (ts := 55) Tryd.underlying55 P.sets.length (by omega) W
      have c8 := H8.out.box.cell
      rw [HNU.out.2] at c8
      go_upto_region 15 with fail
      have hal := (Below.refl w8.heap.size w8).alloc (Nat.le_refl _) (.cells (madeCells #[.bool false] P.sets.length) 4)
      have H9 := hide (And.intro (H8.out.next hB8 hal) (BoRow.new w8 P.sets.length))
      have hB9 : B0 ≤ (w8.alloc (.cells (madeCells #[.bool false] P.sets.length) 4)).heap.size := by simp; omega
      have HLd1 := hide (led17law_any P pa x b m i w8.heap.size P.sets.length B0 P.first pa.f pa.cf (fun _ => false) _ HLw'.out rfl HLo'.out.first (by omega) HLw'.out.nf (by omega) H9.out.1.pos H9.out.1.scn hb7 hm7 hB8 H9.out.1.pos.first H9.out.2)
      rw [HNU.out.2] at HLd1
      have hw89 : w8.heap.size < (w8.alloc (.cells (madeCells #[.bool false] P.sets.length) 4)).heap.size := by simp
      clear H8 c8 hal
      generalize (w8.alloc (.cells (madeCells #[.bool false] P.sets.length) 4)) = w9 at *
      generalize w8.heap.size = g0 at *
      have c9 := H9.out.1.box.cell
      rw [HNU.out.2] at c9
      go_wp2_with fail
      refine HLd1.out.mono ?_
      rintro e w10 ⟨rfl, hrow10, hs10, hb10⟩
      have hw10 : B0 ≤ w10.heap.size := Nat.le_trans hB9 hb10.size
      have H10 := hide (And.intro (H9.out.1.same hb7 hm7 (by omega) hB9 hB8 (by omega) hs10 hb10) (hrow10.congr (q := frontB P x i st0 1) (fun z _ => by rw [frontB_one]; rfl)))
      clear hrow10 hs10 hb10 H9 c9 HLd1 hB9 hw89
      go_wp2_with fail
      go_loopw [14, 15] (fun fv iv wr => ∃ e g : Nat, iv = .int .i64 (e : Int) ∧ i + 1 ≤ e ∧ e ≤ j ∧ fv = .slice (some ⟨g, 0, none⟩) P.sets.length P.sets.length ∧ B0 ≤ g ∧ BoRow wr g P.sets.length (frontB P x i st0 (e - i)) ∧ PM w P pa x b m gp B0 wr ∧ B0 ≤ wr.heap.size) (fun _ iv _ => j - (intOf iv).toNat)
      case atStart => exact ⟨i + 1, g0, by go_num, Nat.le_refl _, hij2, rfl, hB8, by rw [show i + 1 - i = 1 by omega]; exact H10.out.2, H10.out.1, hw10⟩
      case round =>
        clear H10 hw10 hB8
        obtain ⟨e, g, rfl, hie, hej, rfl, hg, hrow, hPM, hBW⟩ := hrel
        have HW := hide (And.intro hrow hPM)
        clear hrow hPM
        by_cases hlt : e < j
        · have g1 : decide ((e : Int) < (j : Int)) = true := decide_eq_true (by omega)
          have cP := HW.out.2.box.cell
          rw [HNU.out.2] at cP
          go_upto_region 20 with fail
          rename World => W1
          have hal := (Below.refl W1.heap.size W1).alloc (Nat.le_refl _) (.cells (madeCells #[.bool false] P.sets.length) 4)
          have H2 := hide (And.intro (HW.out.2.next hBW hal) (And.intro (HW.out.1.next hal) (BoRow.new W1 P.sets.length)))
          have hgW : g < W1.heap.size := HW.out.1.lt
          have hW12 : W1.heap.size < (W1.alloc (.cells (madeCells #[.bool false] P.sets.length) 4)).heap.size := by simp
          clear cP hal HW
          generalize (W1.alloc (.cells (madeCells #[.bool false] P.sets.length) 4)) = W2 at *
          generalize hg2 : W1.heap.size = g2 at *
          clear hg2
          go_wp2_with fail
          go_loopw [106] (fun kv wr => ∃ k : Nat, kv = .int .i64 (k : Int) ∧ k ≤ P.sets.length ∧ BoRow wr g2 P.sets.length (fun z => (List.range k).any fun k' => frontB P x i st0 (e - i) k' && leads P (x.mark e) (byteB x e) (P.follow.getD k' []) z) ∧ BoRow wr g P.sets.length (frontB P x i st0 (e - i)) ∧ PM w P pa x b m gp B0 wr ∧ g2 < wr.heap.size) (fun kv _ => P.sets.length - (intOf kv).toNat)
          case atStart => exact ⟨0, rfl, by omega, H2.out.2.2.congr (fun z _ => by simp), H2.out.2.1, H2.out.1, hW12⟩
          case round =>
            clear H2 hW12
            obtain ⟨k, rfl, hk, hr2, hr1, hpm, hs2⟩ := hrel
            have HV := hide (And.intro hr2 (And.intro hr1 hpm))
            clear hr2 hr1 hpm
            by_cases hlk : k < P.sets.length
            · have g2' : decide ((k : Int) < (P.sets.length : Int)) = true := decide_eq_true (by omega)
              have cF := HV.out.2.1.cell k hlk
              obtain ⟨on, hon⟩ : ∃ on, on = frontB P x i st0 (e - i) k := ⟨_, rfl⟩
              rw [← hon] at cF
              have HON := hide hon
              clear hon
              cases on with
              | false =>
                go_wp2_with fail
                go_roundw
                case rel =>
                  refine ⟨k + 1, by go_num, hlk, HV.out.1.congr (fun z _ => ?_), HV.out.2.1, HV.out.2.2, hs2⟩
                  rw [List.range_succ, List.any_append]
                  simp [← HON.out]
                case measure => simp [intOf]; omega
              | true =>
                rename World => W3
                have hfl : k < P.follow.length := by rw [HLo'.out.len]; exact hlk
                have hfs := List.getElem?_eq_getElem hfl
                have hfd : P.follow.getD k [] = P.follow[k] := by simp [List.getD_eq_getElem?_getD, hfs]
                have hfm := List.getElem_mem hfl
                have HFW := hide (HLw'.out.follow _ hfm)
                have HFO := hide (HLo'.out.follow k _ hfs)
                have hf9 : P.follow.length ≤ 9223372036854775807 := HLw'.out.nw
                obtain ⟨bf, of, Bf, cf', hAf, hbf, cfol, hefo⟩ := HV.out.2.2.pos.follow.cell hfs
                generalize P.follow[k] = rk at *
                have HFD := hide (And.intro hfd (And.intro hAf (And.intro hefo cfol)))
                have hB3 : B0 ≤ W3.heap.size := by omega
                clear hfd hfs hfm hAf hefo cfol
                go_upto_region 24 with fail
                clear cF
                refine wp_region_mix (fun z => Below W3.heap.size W3 z) [9] (by kernel_rfl) (fun hcl => ?_)
                have hS : Below W3.heap.size W3 W3.drew := (Below.refl _ _).drew
                refine wpAnyT_take (i := 0) hcl rfl (by kernel_rfl) (v := ?_) (fun _ _ _ h => h) hS (Or.inl ⟨rfl, fun w' hS => ?_⟩) (fun hcl => ?_)
                rotate_left
                · skip
                  have cP := (HV.out.2.2.box.nxt hS).cell
                  rw [HNU.out.2] at cP
                  go_simp
                  with_reducible rfl
                simp only [List.getElem_toArray, List.getElem_cons_zero, List.getElem_cons_succ, Act.put, List.setIfInBounds_toArray, List.set_cons_zero, List.set_cons_succ]
                refine wpAnyT_free (i := 1) hcl rfl (by kernel_rfl) (v := ?_) (fun _ _ _ h => h) hS (Or.inl ⟨rfl, fun w' _ => ?_⟩) (fun hcl => ?_)
                rotate_left
                · go_simp
                  with_reducible rfl
                simp only [List.getElem_toArray, List.getElem_cons_zero, List.getElem_cons_succ, Act.put, List.setIfInBounds_toArray, List.set_cons_zero, List.set_cons_succ]
                refine wpAnyT_free (i := 2) hcl rfl (by kernel_rfl) (v := ?_) (fun _ _ _ h => h) hS (Or.inl ⟨rfl, fun w' _ => ?_⟩) (fun hcl => ?_)
                rotate_left
                · go_simp
                  with_reducible rfl
                simp only [List.getElem_toArray, List.getElem_cons_zero, List.getElem_cons_succ, Act.put, List.setIfInBounds_toArray, List.set_cons_zero, List.set_cons_succ]
                refine wpAnyT_free (i := 3) hcl rfl (by kernel_rfl) (v := ?_) (fun _ _ _ h => h) hS (Or.inl ⟨rfl, fun w' _ => ?_⟩) (fun hcl => ?_)
                rotate_left
                · go_simp
                  with_reducible rfl
                simp only [List.getElem_toArray, List.getElem_cons_zero, List.getElem_cons_succ, Act.put, List.setIfInBounds_toArray, List.set_cons_zero, List.set_cons_succ]
                refine wpAnyT_take (i := 4) hcl rfl (by kernel_rfl) (v := ?_) (fun _ _ _ h => h) hS (Or.inl ⟨rfl, fun w' hS => ?_⟩) (fun hcl => ?_)
                rotate_left
                · skip
                  have cP := (HV.out.2.2.box.nxt hS).cell
                  rw [HNU.out.2, HFD.out.2.1] at cP
                  go_simp
                  with_reducible rfl
                simp only [List.getElem_toArray, List.getElem_cons_zero, List.getElem_cons_succ, Act.put, List.setIfInBounds_toArray, List.set_cons_zero, List.set_cons_succ]
                refine wpAnyT_free (i := 5) hcl rfl (by kernel_rfl) (v := ?_) (fun _ _ _ h => h) hS (Or.inl ⟨rfl, fun w' _ => ?_⟩) (fun hcl => ?_)
                rotate_left
                · go_simp
                  with_reducible rfl
                simp only [List.getElem_toArray, List.getElem_cons_zero, List.getElem_cons_succ, Act.put, List.setIfInBounds_toArray, List.set_cons_zero, List.set_cons_succ]
                refine wpAnyT_free (i := 6) hcl rfl (by kernel_rfl) (v := ?_) (fun _ _ _ h => h) hS (Or.inl ⟨rfl, fun w' _ => ?_⟩) (fun hcl => ?_)
                rotate_left
                · go_simp
                  with_reducible rfl
                simp only [List.getElem_toArray, List.getElem_cons_zero, List.getElem_cons_succ, Act.put, List.setIfInBounds_toArray, List.set_cons_zero, List.set_cons_succ]
                refine wpAnyT_take (i := 7) hcl rfl (by kernel_rfl) (v := ?_) (fun _ _ _ h => h) hS (Or.inl ⟨rfl, fun w' hS => ?_⟩) (fun hcl => ?_)
                rotate_left
                · skip
                  have cq := (hS.cell (p := ⟨bf, of + k, none⟩) (by show bf < W3.heap.size; omega)).trans HFD.out.2.2.2
                  go_simp
                  with_reducible rfl
                simp only [List.getElem_toArray, List.getElem_cons_zero, List.getElem_cons_succ, Act.put, List.setIfInBounds_toArray, List.set_cons_zero, List.set_cons_succ]
                refine wpAnyT_free (i := 8) hcl rfl (by kernel_rfl) (v := ?_) (fun _ _ _ h => h) hS (Or.inl ⟨rfl, fun w' _ => ?_⟩) (fun hcl => ?_)
                rotate_left
                · go_simp
                  with_reducible rfl
                simp only [List.getElem_toArray, List.getElem_cons_zero, List.getElem_cons_succ, Act.put, List.setIfInBounds_toArray, List.set_cons_zero, List.set_cons_succ]
                refine wpAnyT_last (i := 9) hcl rfl (by kernel_rfl) (by kernel_rfl) (fun hcl => ?_)
                simp only [List.getElem_toArray, List.getElem_cons_zero, List.getElem_cons_succ, Act.put, List.setIfInBounds_toArray, List.set_cons_zero, List.set_cons_succ]
                have hPM3 := HV.out.2.2.next hB3 hS
                have hL3 := led17law_any P pa x b m e g2 P.sets.length B0 rk Bf cf' _ _ HLw'.out rfl HFO.out (by omega) HFW.out.1 (by omega) hPM3.pos hPM3.scn hb7 hm7 (by omega) (HFD.out.2.2.1.same (same_of_below (hS.mono hB3)) fun b hb => hb) (HV.out.1.next hS)
                rw [HNU.out.2] at hL3
                have HL3 := hide hL3
                have HR3 := hide (And.intro hPM3 (HV.out.2.1.next hS))
                have hsz3 : g2 < (W3.drew).heap.size := hs2
                clear hL3 hPM3 hS HV
                generalize W3.drew = W4 at *
                have HFS := hide (HFD.out.1)
                clear HFD
                go_wp2_with fail
                refine HL3.out.mono ?_
                rintro e' w11 ⟨rfl, hrow11, hs11, hb11⟩
                have H11 := hide (And.intro hrow11 (And.intro (HR3.out.2.same hs11 ⟨HR3.out.2.lt, by omega⟩) (HR3.out.1.same hb7 hm7 (by omega) (by omega) (by omega) (by omega) hs11 hb11)))
                have hs11' : g2 < w11.heap.size := Nat.lt_of_lt_of_le hsz3 hb11.size
                clear hrow11 hs11 hb11 HR3 HL3 hsz3
                go_wp2_with fail
                refine wpAnyT_done (by kernel_rfl) ?_ _
                go_wp2_with fail
                go_roundw
                case rel =>
                  refine ⟨k + 1, by go_num, hlk, H11.out.1.congr (fun z _ => ?_), H11.out.2.1, H11.out.2.2, hs11'⟩
                  rw [List.range_succ, List.any_append]
                  simp only [List.any_cons, List.any_nil, Bool.or_false, ← HON.out, Bool.true_and, HFS.out]
                case measure => simp [intOf]; omega
            · have g2' : decide ((k : Int) < (P.sets.length : Int)) = false := decide_eq_false (by omega)
              obtain rfl : k = P.sets.length := by omega
              go_wp2_with fail
              go_roundw
              case rel =>
                refine ⟨e + 1, g2, by go_num, by omega, hlt, rfl, by omega, HV.out.1.congr (fun z _ => ?_), HV.out.2.2, by omega⟩
                obtain ⟨d, rfl⟩ : ∃ d, e = i + (d + 1) := ⟨e - i - 1, by omega⟩
                rw [show i + (d + 1) + 1 - i = d + 2 by omega, frontB_succ, show i + (d + 1) - i = d + 1 by omega]
              case measure => simp [intOf]; omega
        · have g1 : decide ((e : Int) < (j : Int)) = false := decide_eq_false (by omega)
          obtain rfl : e = j := by omega
          have cP := HW.out.2.box.cell
          rw [HNU.out.2] at cP
          have hl9 : P.last.length ≤ 9223372036854775807 := HLw'.out.nl
          go_wp2_with fail
          rename World => W1
          go_loopw [19, 127] (fun cv kv wr => ∃ k : Nat, kv = .int .i64 (k : Int) ∧ k ≤ P.last.length ∧ cv = .bool ((P.last.take k).any fun ed => frontB P x i st0 (e - i) ed.1.toNat && ed.2.toNat.testBit (x.mark e)) ∧ BoRow wr g P.sets.length (frontB P x i st0 (e - i)) ∧ PM w P pa x b m gp B0 wr ∧ B0 ≤ wr.heap.size) (fun _ kv _ => P.last.length - (intOf kv).toNat)
          case atStart => exact ⟨0, rfl, by omega, by simp, HW.out.1, HW.out.2, hBW⟩
          case round =>
            clear HW cP hBW
            obtain ⟨k, rfl, hk, rfl, hr1, hpm, hbw⟩ := hrel
            have HV := hide (And.intro hr1 hpm)
            clear hr1 hpm
            obtain ⟨cur, hcur⟩ : ∃ c, c = (P.last.take k).any fun ed => frontB P x i st0 (e - i) ed.1.toNat && ed.2.toNat.testBit (x.mark e) := ⟨_, rfl⟩
            rw [← hcur]
            have HCU := hide hcur
            clear hcur
            by_cases hlk : k < P.last.length
            · have g2' : decide ((k : Int) < (P.last.length : Int)) = true := decide_eq_true (by omega)
              have hs := List.getElem?_eq_getElem hlk
              have htk : P.last.take (k + 1) = P.last.take k ++ [P.last[k]] := by rw [List.take_add_one, hs]; rfl
              generalize P.last[k] = ed at *
              obtain ⟨e1, e2⟩ := ed
              obtain ⟨he0, hen, hv1, hv2, _⟩ := EdOk.at_ HLo'.out.last hs
              simp only at he0 hen hv1 hv2
              obtain ⟨q, rfl⟩ : ∃ q : Nat, e1 = q := ⟨e1.toNat, by omega⟩
              obtain ⟨v, rfl⟩ : ∃ v : Nat, e2 = v := ⟨e2.toNat, by omega⟩
              have hqn : q < P.sets.length := by omega
              have hv16 : v < 16 := by omega
              obtain ⟨be, oe, hAe, hbe, ce1, ce2⟩ := HV.out.2.pos.last.cell hs
              have HTK := hide (And.intro htk hAe)
              rw [hAe]
              clear hs htk hAe
              simp only at ce1 ce2
              have cB := HV.out.1.cell q hqn
              obtain ⟨on, hon⟩ : ∃ on, on = frontB P x i st0 (e - i) q := ⟨_, rfl⟩
              rw [← hon] at cB
              have HON := hide hon
              clear hon
              have hz := hide (Blk.new wr 58 #[.int .i64 0, .int .i64 0])
              go_wp2_with (refine wpList_store_row rfl _ _ _ rfl wr.heap.size 0 _ _ _ rfl rfl hz.out Tryd.sizeEdge (by simp) (by simp [Value.oneCell']) ?_)
              intro w2 hrow2 hg2 hz2
              have hrow := hrow2.out
              rw [splice_full (by rfl)] at hrow
              have hbE : Below wr.heap.size wr w2 := below_grew ((Below.refl wr.heap.size wr).alloc (Nat.le_refl _) _) hg2 (Nat.le_refl _) (fun g hg => by injection hg with hg; omega)
              have H2 := hide (And.intro (HV.out.1.next hbE) (And.intro (HV.out.2.next hbw hbE) hrow))
              have hbw2 : B0 ≤ w2.heap.size := Nat.le_trans hbw hbE.size
              clear hrow hrow2 hg2 hz2 hbE hz ce1 ce2 cB HV
              generalize wr.heap.size = ge at *
              have ce := H2.out.2.2.cell
              have cB := H2.out.1.cell q hqn
              rw [← HON.out] at cB
              have hnew : ∀ (t : Bool), v.testBit (x.mark e) = t → ((P.last.take (k + 1)).any fun ed => frontB P x i st0 (e - i) ed.1.toNat && ed.2.toNat.testBit (x.mark e)) = (cur || (on && t)) := fun t ht => by
                rw [HTK.out.1, List.any_append, ← HCU.out]
                simp [← HON.out, ht]
              have HNW := hide hnew
              clear hnew
              cases cur with
              | true =>
                go_wp2_with fail
                go_roundw
                case rel => exact ⟨k + 1, by go_num, hlk, by rw [HNW.out _ rfl]; rfl, H2.out.1, H2.out.2.1, hbw2⟩
                case measure => simp [intOf]; omega
              | false =>
                cases on with
                | false =>
                  go_wp2_with fail
                  go_roundw
                  case rel => exact ⟨k + 1, by go_num, hlk, by rw [HNW.out _ rfl]; rfl, H2.out.1, H2.out.2.1, hbw2⟩
                  case measure => simp [intOf]; omega
                | true =>
                  go_wp2_with fail
                  refine (open17_any v e hv16 (by omega) w2 H2.out.2.1.scn).mono ?_
                  rintro e' w3 ⟨rfl, hb3⟩
                  have H3 := hide (And.intro (H2.out.1.next hb3) (H2.out.2.1.next hbw2 hb3))
                  have hbw3 : B0 ≤ w3.heap.size := Nat.le_trans hbw2 hb3.size
                  clear hb3 H2 ce cB
                  generalize hopn : v.testBit (x.mark e) = opn at *
                  have HO2 := hide hopn
                  clear hopn
                  go_wp2_with fail
                  go_roundw
                  case rel => exact ⟨k + 1, by go_num, hlk, by rw [HNW.out _ rfl]; simp, H3.out.1, H3.out.2, hbw3⟩
                  case measure => simp [intOf]; omega
            · have g2' : decide ((k : Int) < (P.last.length : Int)) = false := decide_eq_false (by omega)
              obtain rfl : k = P.last.length := by omega
              have hrr : r = cur := by
                rw [Bool.eq_iff_iff, HR1.out, HCU.out, List.take_length]
                have h1 := HER.out i (e - i) (by omega)
                obtain ⟨d, rfl⟩ : ∃ d, e = i + (d + 1) := ⟨e - i - 1, by omega⟩
                rw [show i + (d + 1) - i = d + 1 by omega, endAt_succ] at h1
                rw [show i + (d + 1) - i = d + 1 by omega]
                exact h1.symm
              rw [← hrr]
              clear hrr HCU
              go_wp2_with fail
              go_ret
              exact ⟨by simp, HV.out.2.below⟩
end Go.Proofs.YthkddbfgihgfaaaDoor
