/- trawllaw18.WalkEnds: it returns true, and what was there stays. (Printed by gen_endslaw18.py.) -/
import Derived.Test.YtlomjepemnlliaaDoorLives18
import Derived.Test.YtlomjepemnlliaaDoorLong18
import Derived.Test.YtlomjepemnlliaaDoorWalk18
import Derived.Test.YtlomjepemnlliaaDoorRef18
import Derived.Test.YtlomjepemnlliaaDoorNum
set_option linter.unusedSimpArgs false
set_option linter.unusedVariables false
set_option linter.unnecessarySimpa false
namespace Go.Proofs.YtlomjepemnlliaaDoor
open Go.RowKit

theorem OwnInts.row18 {base : Nat} {w : World} {v : Value} {l : List Int} (h : OwnInts base w v l) : ∃ A c, v = .slice A l.length c ∧ l.length ≤ 9223372036854775807 ∧ (0 < l.length → ∃ g cur, A = some ⟨g, 0, none⟩ ∧ base ≤ g ∧ g < w.heap.size ∧ Blk w g 3 cur ∧ l.length ≤ cur.size) := by
  rcases h.2 with ⟨e, h0⟩ | ⟨g, cap, cur, e, hb, hg, hn, hc, hz, _⟩
  · exact ⟨none, 0, by rw [e, h0], by omega, fun h => by omega⟩
  · exact ⟨some ⟨g, 0, none⟩, cap, e, by simp only [maxLen] at hc; omega, fun _ => ⟨g, cur, rfl, hb, (World.ownsRow.lt h g (by rw [e]; rfl)).2, hg, by omega⟩⟩
theorem OwnInts.blk18 {base : Nat} {w : World} {A : Option Addr} {c n : Nat} {l : List Int} (h : OwnInts base w (.slice A n c) l) (hl : 0 < l.length) : ∃ g cur, A = some ⟨g, 0, none⟩ ∧ base ≤ g ∧ Blk w g 3 cur ∧ l.length ≤ cur.size := by
  rcases h.2 with ⟨e, h0⟩ | ⟨g, cap, cur, e, hb, hg, hn, hc, hz, _⟩
  · omega
  · injection e with e1 e2 e3
    exact ⟨g, cur, e1, hb, hg, by omega⟩
theorem OwnInts.shut18 {base : Nat} {w w' : World} {A : Option Addr} {v : Value} {l : List Int} (h : OwnInts base w v l) (hs : Same (fun b => b < w.heap.size ∧ ∀ g, A = some ⟨g, 0, none⟩ → b ≠ g) w w') (hB : ∀ g, A = some ⟨g, 0, none⟩ → g < base) : OwnInts base w' v l :=
  h.same hs fun g hg => ⟨(World.ownsRow.lt h g hg).2, fun g' e e' => by have := hB g' e; have := (World.ownsRow.lt h g hg).1; omega⟩

theorem num18_any (w : World) (a : Nat → Addr) (r : Option Nat) (hr : ∀ g, r = some g → g < 21) (he : Errs w a) :
    Calls Tryd.prog 17 #[walkErr a r] w fun e w' => e = .returned (.int .i64 (walkNum r)) ∧ Below w.heap.size w w' := by
  cases r with
  | none => exact (num_nil w).mono fun e w' ⟨h1, h2⟩ => ⟨h1, h2 ▸ Below.refl _ _⟩
  | some g => exact num_err w a g (hr g rfl) he
theorem Asked18.lt {p : Po} {x : Sc} {q : Int} {r : Option Nat} (h : Asked18 p x q r) : ∀ g, r = some g → g < 21 := fun g e => by
  subst e
  rcases h with ⟨h, _⟩ | ⟨h, _⟩ | ⟨h, _⟩
  · rw [Option.some.inj h]; decide
  · rw [Option.some.inj h]; decide
  · cases h
theorem Errs.two {w : World} {a : Nat → Addr} (h : Errs w a) : Sent [12, 14] w a := fun g hg => h.var g (by
  simp only [List.mem_cons, List.not_mem_nil, or_false] at hg
  omega)

/-- What the walk keeps: the positions, their box, the view's box. -/
structure PW (p : Po) (pa : PoA) (cs : Array Value) (gp gv : Nat) (w y : World) : Prop where
  below : Below w.heap.size w y
  bp : Blk y gp 26 (p.cells pa).toArray
  bv : Blk y gv 28 cs
  ip : PoIn (· < y.heap.size) y p pa
theorem PW.next {p : Po} {pa : PoA} {cs : Array Value} {gp gv : Nat} {w y y' : World} (h : PW p pa cs gp gv w y) (hb : Below y.heap.size y y') : PW p pa cs gp gv w y' :=
  ⟨h.below.trans (hb.mono h.below.size), h.bp.nxt hb, h.bv.nxt hb, h.ip.next hb⟩

theorem scn_grown {w w' : World} {b m g : Nat} {x : Sc} {cs : Array Value} (h : Scn w b m x) (hb : Blk w g 34 cs) (hg : w.grownBy w' (some g)) : Scn w' b m x :=
  h.same (same_grown hg) ⟨h.box.lt, fun e => h.box.ne_type hb (by decide) (Option.some.inj e)⟩ ⟨h.row.lt, fun e => h.row.ne_type hb (by decide) (Option.some.inj e)⟩

theorem Tryd.sizeRefScene18 : (Tryd.prog.info? 34).map (·.size) = some 4 := by kernel_rfl

set_option maxRecDepth 100000 in
set_option maxHeartbeats 8000000 in
theorem endsLaw18_true (p : Po) (pa : PoA) (s : ByteArray) (cf ef q : Int) (w : World) (a : Nat → Addr) (hwf : p.wf) (hsm : p.Small) (hin : PoIn (· < w.heap.size) w p pa)
    (hs : s.size ≤ 140737488355328) (hcf : IsI64 cf) (hef : IsI64 ef) (hq : IsI64 q) (hG : Errs w a) :
    Calls Tryd.prog 3 #[.agg (p.cells pa).toArray, .agg [.string s, .int .i64 cf, .int .i64 ef].toArray, .int .i64 q] w fun e w' => e = .returned (.bool true) ∧ Below w.heap.size w w' := by
  have HG := hide (fun x (hx : Below w.heap.size w x) => hG.below hx)
  have HLv := hide (fun y (hy : Below w.heap.size w y) => lives18_true y a (hG.below hy).two)
  have HLo := hide (fun y hi => long18_any p pa s cf ef y hs hsm hi)
  have HEn := hide (fun x sb sm y h6 h9 hi hsc he => walkEnds_any p pa x sb sm q a y hwf hi hsc he hq h6 h9)
  have HLn := hide (fun x sb sm y h6 h9 hi hsc he => longest_any p pa x sb sm q a y hwf hi hsc he hq h6 h9)
  have HAs := hide (fun x y hx hi => refAsked18_any p pa x cf ef q y hwf hi hq hx)
  have HRe := hide (fun x i y hr hi h9 h6 hok hin => refEnds18_any p pa x cf ef i y hr hi h9 h6 hwf hok hin)
  obtain ⟨q1, q2⟩ := hq
  have hbel := ((Below.refl w.heap.size w).alloc (Nat.le_refl _) (.cells (p.cells pa).toArray 26)).alloc (by simp) (.cells #[.string s, .int .i64 cf, .int .i64 ef] 28)
  have hba := (Blk.new w 26 (p.cells pa).toArray).alloc (.cells #[.string s, .int .i64 cf, .int .i64 ef] 28)
  have hbv := Blk.new (w.alloc (.cells (p.cells pa).toArray 26)) 28 #[.string s, .int .i64 cf, .int .i64 ef]
  rw [World.size_alloc] at hbv
  have HK := hide (PW.mk hbel hba hbv (hin.next hbel))
  clear hbel hba hbv hin hG hwf hsm
  simp only [Po.cells] at HK HLo HEn HLn HAs HRe ⊢
  go_enter Tryd.func3, Tryd.ntmps3
  go_wp2_with fail
  generalize ((w.alloc (.cells #[.slice pa.s p.sets.length pa.cs, .int .i64 p.null, .slice pa.f p.first.length pa.cf, .slice pa.l p.last.length pa.cl, .slice pa.w p.follow.length pa.cw] 26)).alloc (.cells #[.string s, .int .i64 cf, .int .i64 ef] 28)) = y0 at *
  refine (HLv.out _ HK.out.below).mono ?_
  rintro e y1 ⟨rfl, hb⟩
  replace HK := hide (HK.out.next hb)
  clear hb HLv
  have ca := HK.out.bp.cell
  have cv := HK.out.bv.cell
  simp only [Po.cells] at ca
  go_wp2_with fail
  refine (HLo.out _ HK.out.ip).mono ?_
  rintro e y2 ⟨lg, rfl, hna, hb⟩
  replace HK := hide (HK.out.next hb)
  clear hb ca cv HLo
  cases lg with
  | true =>
    clear hna
    go_wp2_with fail
    go_ret
    exact ⟨rfl, HK.out.below⟩
  | false =>
  obtain ⟨hn1, hn2⟩ := hna (by first | rfl | trivial)
  clear hna
  have h6 : p.Ok → p.sets.length < 1000000 := fun h => by have := h.len; omega
  have H6 := hide h6
  clear h6
  go_upto_region 5 with fail
  go_cut [7, 8] (fun xv rv wx => ∃ b m x g, xv = .pointer (some ⟨b, 0, none⟩) ∧ rv = .pointer (some ⟨g, 0, none⟩) ∧ Scn wx b m x ∧ x.text = s ∧ RefSc x cf ef ∧ Blk wx g 34 #[.string s, .int .i64 cf, .int .i64 ef, .bool false] ∧ Below y2.heap.size y2 wx)
  case first =>
    refine wp_region_mix (fun z => Below y2.heap.size y2 z) [16] (by kernel_rfl) (fun hcl => ?_)
    have hS : Below y2.heap.size y2 y2.drew := (Below.refl _ _).drew
    refine wpAnyT_free (i := 0) hcl rfl (by kernel_rfl) (v := ?_) (fun _ _ _ h => h) hS (Or.inl ⟨rfl, fun w' _ => ?_⟩) (fun hcl => ?_)
    rotate_left
    · go_simp
      with_reducible rfl
    simp only [List.getElem_toArray, List.getElem_cons_zero, List.getElem_cons_succ, Act.put, List.setIfInBounds_toArray, List.set_cons_zero, List.set_cons_succ]
    refine wpAnyT_take (i := 1) hcl rfl (by kernel_rfl) (v := ?_) (fun _ _ _ h => h) hS (Or.inl ⟨rfl, fun w' hS => ?_⟩) (fun hcl => ?_)
    rotate_left
    · skip
      have cv := (HK.out.bv.nxt hS).cell
      go_simp
      with_reducible rfl
    simp only [List.getElem_toArray, List.getElem_cons_zero, List.getElem_cons_succ, Act.put, List.setIfInBounds_toArray, List.set_cons_zero, List.set_cons_succ]
    refine wpAnyT_free (i := 2) hcl rfl (by kernel_rfl) (v := ?_) (fun _ _ _ h => h) hS (Or.inl ⟨rfl, fun w' _ => ?_⟩) (fun hcl => ?_)
    rotate_left
    · go_simp
      with_reducible rfl
    simp only [List.getElem_toArray, List.getElem_cons_zero, List.getElem_cons_succ, Act.put, List.setIfInBounds_toArray, List.set_cons_zero, List.set_cons_succ]
    refine wpAnyT_take (i := 3) hcl rfl (by kernel_rfl) (v := ?_) (fun _ _ _ h => h) hS (Or.inl ⟨rfl, fun w' hS => ?_⟩) (fun hcl => ?_)
    rotate_left
    · skip
      have cv := (HK.out.bv.nxt hS).cell
      go_simp
      with_reducible rfl
    simp only [List.getElem_toArray, List.getElem_cons_zero, List.getElem_cons_succ, Act.put, List.setIfInBounds_toArray, List.set_cons_zero, List.set_cons_succ]
    refine wpAnyT_free (i := 4) hcl rfl (by kernel_rfl) (v := ?_) (fun _ _ _ h => h) hS (Or.inl ⟨rfl, fun w' _ => ?_⟩) (fun hcl => ?_)
    rotate_left
    · go_simp
      with_reducible rfl
    simp only [List.getElem_toArray, List.getElem_cons_zero, List.getElem_cons_succ, Act.put, List.setIfInBounds_toArray, List.set_cons_zero, List.set_cons_succ]
    refine wpAnyT_take (i := 5) hcl rfl (by kernel_rfl) (v := ?_) (fun _ _ _ h => h) hS (Or.inl ⟨rfl, fun w' hS => ?_⟩) (fun hcl => ?_)
    rotate_left
    · skip
      have cv := (HK.out.bv.nxt hS).cell
      go_simp
      with_reducible rfl
    simp only [List.getElem_toArray, List.getElem_cons_zero, List.getElem_cons_succ, Act.put, List.setIfInBounds_toArray, List.set_cons_zero, List.set_cons_succ]
    refine wpAnyT_free (i := 7) hcl rfl (by kernel_rfl) (v := ?_) (fun _ _ _ h => h) hS (Or.inl ⟨rfl, fun w' _ => ?_⟩) (fun hcl => ?_)
    rotate_left
    · go_simp
      with_reducible rfl
    simp only [List.getElem_toArray, List.getElem_cons_zero, List.getElem_cons_succ, Act.put, List.setIfInBounds_toArray, List.set_cons_zero, List.set_cons_succ]
    refine wpAnyT_take (i := 8) hcl rfl (by kernel_rfl) (v := ?_) (fun _ _ _ h => h) hS (Or.inl ⟨rfl, fun w' hS => ?_⟩) (fun hcl => ?_)
    rotate_left
    · skip
      have cv := (HK.out.bv.nxt hS).cell
      go_simp
      with_reducible rfl
    simp only [List.getElem_toArray, List.getElem_cons_zero, List.getElem_cons_succ, Act.put, List.setIfInBounds_toArray, List.set_cons_zero, List.set_cons_succ]
    refine wpAnyT_free (i := 9) hcl rfl (by kernel_rfl) (v := ?_) (fun _ _ _ h => h) hS (Or.inl ⟨rfl, fun w' _ => ?_⟩) (fun hcl => ?_)
    rotate_left
    · go_simp
      with_reducible rfl
    simp only [List.getElem_toArray, List.getElem_cons_zero, List.getElem_cons_succ, Act.put, List.setIfInBounds_toArray, List.set_cons_zero, List.set_cons_succ]
    refine wpAnyT_take (i := 10) hcl rfl (by kernel_rfl) (v := ?_) (fun _ _ _ h => h) hS (Or.inl ⟨rfl, fun w' hS => ?_⟩) (fun hcl => ?_)
    rotate_left
    · skip
      have cv := (HK.out.bv.nxt hS).cell
      go_simp
      with_reducible rfl
    simp only [List.getElem_toArray, List.getElem_cons_zero, List.getElem_cons_succ, Act.put, List.setIfInBounds_toArray, List.set_cons_zero, List.set_cons_succ]
    refine wpAnyT_free (i := 11) hcl rfl (by kernel_rfl) (v := ?_) (fun _ _ _ h => h) hS (Or.inl ⟨rfl, fun w' _ => ?_⟩) (fun hcl => ?_)
    rotate_left
    · go_simp
      with_reducible rfl
    simp only [List.getElem_toArray, List.getElem_cons_zero, List.getElem_cons_succ, Act.put, List.setIfInBounds_toArray, List.set_cons_zero, List.set_cons_succ]
    refine wpAnyT_take (i := 12) hcl rfl (by kernel_rfl) (v := ?_) (fun _ _ _ h => h) hS (Or.inl ⟨rfl, fun w' hS => ?_⟩) (fun hcl => ?_)
    rotate_left
    · skip
      have cv := (HK.out.bv.nxt hS).cell
      go_simp
      with_reducible rfl
    simp only [List.getElem_toArray, List.getElem_cons_zero, List.getElem_cons_succ, Act.put, List.setIfInBounds_toArray, List.set_cons_zero, List.set_cons_succ]
    refine wpAnyT_free (i := 13) hcl rfl (by kernel_rfl) (v := ?_) (fun _ _ _ h => h) hS (Or.inl ⟨rfl, fun w' _ => ?_⟩) (fun hcl => ?_)
    rotate_left
    · go_simp
      with_reducible rfl
    simp only [List.getElem_toArray, List.getElem_cons_zero, List.getElem_cons_succ, Act.put, List.setIfInBounds_toArray, List.set_cons_zero, List.set_cons_succ]
    have HS0 := hide hS
    clear hS
    refine wpAnyT_pick2 (i := 6) (j := 14) hcl rfl rfl (by kernel_rfl) (fun hcl => ?_) (fun hcl => ?_)
    · simp only [List.getElem_toArray, List.getElem_cons_zero, List.getElem_cons_succ, Act.put, List.setIfInBounds_toArray, List.set_cons_zero, List.set_cons_succ]
      go_wp2_with fail
      refine (new_any s cf ef _ hs).mono ?_
      rintro e z0 ⟨sb, sm, x, rfl, hsc, htx, hmk, _, _, hb⟩
      have HS1 := hide (HS0.out.trans (hb.mono HS0.out.size))
      have HX := hide (And.intro hsc (And.intro htx (show RefSc x cf ef from ⟨fun i hi => by rw [hmk i (by rw [← htx]; exact hi), htx], by rw [htx]; exact hs⟩)))
      clear hsc htx hmk hb
      go_wp2_with fail
      refine ⟨HS1.out, ?_⟩
      refine wpAnyT_step (i := 14) hcl rfl (by kernel_rfl) (fun hcl => ?_)
      simp only [List.getElem_toArray, List.getElem_cons_zero, List.getElem_cons_succ, Act.put, List.setIfInBounds_toArray, List.set_cons_zero, List.set_cons_succ]
      go_wp2_with fail
      have HS2 := hide (HS1.out.alloc HS1.out.size (.cells #[.string ⟨#[]⟩, .int .i64 0, .int .i64 0, .bool false] 34))
      refine ⟨HS2.out, ?_⟩
      have HB := hide (Blk.new z0 34 #[.string ⟨#[]⟩, .int .i64 0, .int .i64 0, .bool false])
      have HG5 := hide (HS1.out.size)
      replace HX := hide (And.intro (HX.out.1.below ((Below.refl _ z0).alloc (Nat.le_refl _) (.cells #[.string ⟨#[]⟩, .int .i64 0, .int .i64 0, .bool false] 34))) HX.out.2)
      generalize (z0.alloc (.cells #[.string ⟨#[]⟩, .int .i64 0, .int .i64 0, .bool false] 34)) = za at *
      have hS := HS2.out
      refine wpAnyT_free (i := 15) hcl rfl (by kernel_rfl) (v := ?_) (fun _ _ _ h => h) hS (Or.inl ⟨rfl, fun w' _ => ?_⟩) (fun hcl => ?_)
      rotate_left
      · go_simp
        with_reducible rfl
      simp only [List.getElem_toArray, List.getElem_cons_zero, List.getElem_cons_succ, Act.put, List.setIfInBounds_toArray, List.set_cons_zero, List.set_cons_succ]
      clear hS
      refine wpAnyT_last (i := 16) hcl rfl (by kernel_rfl) (by kernel_rfl) (fun hcl => ?_)
      simp only [List.getElem_toArray, List.getElem_cons_zero, List.getElem_cons_succ, Act.put, List.setIfInBounds_toArray, List.set_cons_zero, List.set_cons_succ]
      go_wp2_with (refine wpList_store_row rfl _ _ _ rfl _ 0 _ _ _ rfl rfl HB.out Tryd.sizeRefScene18 (by simp) (by simp [Value.oneCell']) ?_)
      intro z9 hrow2 hg9 hz9
      have hrow := hrow2.out
      rw [splice_full (by rfl)] at hrow
      have h3 := below_grew HS2.out hg9 (Nat.le_refl _) (fun q hq => by rw [← Option.some.inj hq]; exact HG5.out)
      have h1 := scn_grown HX.out.1 HB.out hg9
      have HF := hide (And.intro h1 (And.intro HX.out.2.1 (And.intro HX.out.2.2 (And.intro hrow h3))))
      clear hrow hrow2 hg9 hz9 h1 h3 HB HX HG5
      go_wp2_with fail
      refine wpAnyT_done (by kernel_rfl) ?_ _
      go_wp2_with fail
      go_meet
      case rel => exact ⟨_, _, _, _, rfl, rfl, HF.out⟩
    · simp only [List.getElem_toArray, List.getElem_cons_zero, List.getElem_cons_succ, Act.put, List.setIfInBounds_toArray, List.set_cons_zero, List.set_cons_succ]
      go_wp2_with fail
      have HS1 := hide ((Below.refl y2.heap.size y2).alloc (Nat.le_refl _) (.cells #[.string ⟨#[]⟩, .int .i64 0, .int .i64 0, .bool false] 34)).drew
      refine ⟨HS1.out, ?_⟩
      have HB := hide (show Blk (y2.alloc (.cells #[.string ⟨#[]⟩, .int .i64 0, .int .i64 0, .bool false] 34)).drew y2.heap.size 34 #[.string ⟨#[]⟩, .int .i64 0, .int .i64 0, .bool false] from Blk.new y2 _ _)
      have HG5 := hide (Nat.le_refl y2.heap.size)
      generalize (y2.alloc (.cells #[.string ⟨#[]⟩, .int .i64 0, .int .i64 0, .bool false] 34)).drew = za at *
      refine wpAnyT_step (i := 6) hcl rfl (by kernel_rfl) (fun hcl => ?_)
      simp only [List.getElem_toArray, List.getElem_cons_zero, List.getElem_cons_succ, Act.put, List.setIfInBounds_toArray, List.set_cons_zero, List.set_cons_succ]
      go_wp2_with fail
      refine (new_any s cf ef _ hs).mono ?_
      rintro e z1 ⟨sb, sm, x, rfl, hsc, htx, hmk, _, _, hb⟩
      have HS2 := hide (HS1.out.trans (hb.mono HS1.out.size))
      have HX := hide (And.intro hsc (And.intro htx (show RefSc x cf ef from ⟨fun i hi => by rw [hmk i (by rw [← htx]; exact hi), htx], by rw [htx]; exact hs⟩)))
      replace HB := hide (HB.out.nxt hb)
      clear hsc htx hmk hb
      go_wp2_with fail
      refine ⟨HS2.out, ?_⟩
      have hS := HS2.out
      refine wpAnyT_free (i := 15) hcl rfl (by kernel_rfl) (v := ?_) (fun _ _ _ h => h) hS (Or.inl ⟨rfl, fun w' _ => ?_⟩) (fun hcl => ?_)
      rotate_left
      · go_simp
        with_reducible rfl
      simp only [List.getElem_toArray, List.getElem_cons_zero, List.getElem_cons_succ, Act.put, List.setIfInBounds_toArray, List.set_cons_zero, List.set_cons_succ]
      clear hS
      refine wpAnyT_last (i := 16) hcl rfl (by kernel_rfl) (by kernel_rfl) (fun hcl => ?_)
      simp only [List.getElem_toArray, List.getElem_cons_zero, List.getElem_cons_succ, Act.put, List.setIfInBounds_toArray, List.set_cons_zero, List.set_cons_succ]
      go_wp2_with (refine wpList_store_row rfl _ _ _ rfl _ 0 _ _ _ rfl rfl HB.out Tryd.sizeRefScene18 (by simp) (by simp [Value.oneCell']) ?_)
      intro z9 hrow2 hg9 hz9
      have hrow := hrow2.out
      rw [splice_full (by rfl)] at hrow
      have h3 := below_grew HS2.out hg9 (Nat.le_refl _) (fun q hq => by rw [← Option.some.inj hq]; exact HG5.out)
      have h1 := scn_grown HX.out.1 HB.out hg9
      have HF := hide (And.intro h1 (And.intro HX.out.2.1 (And.intro HX.out.2.2 (And.intro hrow h3))))
      clear hrow hrow2 hg9 hz9 h1 h3 HB HX HG5
      go_wp2_with fail
      refine wpAnyT_done (by kernel_rfl) ?_ _
      go_wp2_with fail
      go_meet
      case rel => exact ⟨_, _, _, _, rfl, rfl, HF.out⟩
  case rest =>
  obtain ⟨sb, sm, x, gs, hv7, hv8, hsc, htx, hrs, hbs, hb⟩ := hcut
  subst hv7
  subst hv8
  replace HK := hide (HK.out.next hb)
  have hx6 : x.len < 900000 := by unfold Sc.len; rw [htx]; omega
  have hxs : x.text.size ≤ 2000 := by rw [htx]; exact hn2
  have HS := hide hsc
  have HX := hide (And.intro htx hrs)
  have HB := hide hbs
  have HX6 := hide (And.intro hx6 hxs)
  clear hb hsc htx hrs hbs hx6 hxs
  have ca := HK.out.bp.cell
  simp only [Po.cells] at ca
  go_wp2_with fail
  refine (HEn.out x sb sm _ H6.out HX6.out.1 HK.out.ip HS.out (HG.out _ HK.out.below).two).mono ?_
  rintro e y3 ⟨g1, v1, r1, rfl, hask1, ho1, hr1, hrn1, hb⟩
  have HO1 := hide ho1
  have HL1 := hide (fun g (h : v1.ownBlock = some g) => (World.ownsRow.lt ho1 g h).2)
  have HQ1 := hide (And.intro hask1 (And.intro hr1 hrn1))
  have HWL := hide (Nat.le_trans HK.out.below.size (Nat.le_refl _))
  replace HK := hide (HK.out.next hb)
  replace HS := hide (HS.out.below hb)
  replace HB := hide (HB.out.nxt hb)
  clear hb ca ho1 hask1 hr1 hrn1
  have ca := HK.out.bp.cell
  simp only [Po.cells] at ca
  go_wp2_with fail
  refine (HEn.out x sb sm _ H6.out HX6.out.1 HK.out.ip HS.out (HG.out _ HK.out.below).two).mono ?_
  rintro e y4 ⟨g2, v2, r2, rfl, hask2, ho2, hr2, hrn2, hb⟩
  have HO2 := hide ho2
  have HQ2 := hide (And.intro hask2 (And.intro hr2 hrn2))
  have hsz2 : y3.heap.size ≤ y4.heap.size := hb.size
  replace HO1 := hide (HO1.out.below hb (Nat.le_refl _))
  replace HK := hide (HK.out.next hb)
  replace HS := hide (HS.out.below hb)
  replace HB := hide (HB.out.nxt hb)
  clear hb ca ho2 hask2 hr2 hrn2 HEn
  have ca := HK.out.bp.cell
  simp only [Po.cells] at ca
  go_wp2_with fail
  refine (HLn.out x sb sm _ H6.out HX6.out.1 HK.out.ip HS.out (HG.out _ HK.out.below).two).mono ?_
  rintro e y5 ⟨g3, n3, ok3, rfl, hask3, hz3, hzn3, hb⟩
  have HQ3 := hide (And.intro hask3 (And.intro hz3 hzn3))
  have hsz3 : y4.heap.size ≤ y5.heap.size := hb.size
  replace HO1 := hide (HO1.out.below hb (Nat.le_refl _))
  replace HO2 := hide (HO2.out.below hb (Nat.le_refl _))
  replace HK := hide (HK.out.next hb)
  replace HB := hide (HB.out.nxt hb)
  clear hb ca hask3 hz3 hzn3 HLn HS
  have ca := HK.out.bp.cell
  simp only [Po.cells] at ca
  have cs := HB.out.cell
  rw [← HX.out.1] at cs
  go_wp2_with fail
  refine (HAs.out x _ (by have := HX6.out.2; omega) HK.out.ip).mono ?_
  rintro e y6 ⟨g4, hask4, rfl, hb⟩
  have hsz4 : y5.heap.size ≤ y6.heap.size := hb.size
  replace HO1 := hide (HO1.out.below hb (Nat.le_refl _))
  replace HO2 := hide (HO2.out.below hb (Nat.le_refl _))
  replace HK := hide (HK.out.next hb)
  replace HB := hide (HB.out.nxt hb)
  obtain rfl : g1 = g4 := HQ1.out.1.eq hask4
  obtain rfl : g1 = g2 := HQ1.out.1.eq HQ2.out.1
  obtain rfl : g1 = g3 := HQ1.out.1.eq HQ3.out.1
  have HLT := hide hask4.lt
  clear hb ca cs hask4 HAs
  go_wp2_with fail
  refine (num18_any _ a g1 HLT.out (HG.out _ HK.out.below)).mono ?_
  rintro e y7 ⟨rfl, hb⟩
  have hsz5 : y6.heap.size ≤ y7.heap.size := hb.size
  replace HO1 := hide (HO1.out.below hb (Nat.le_refl _))
  replace HO2 := hide (HO2.out.below hb (Nat.le_refl _))
  replace HK := hide (HK.out.next hb)
  replace HB := hide (HB.out.nxt hb)
  clear hb
  have gne : (walkNum g1 != walkNum g1) = false := bne_self_eq_false _
  go_wp2_with fail
  refine (num18_any _ a g1 HLT.out (HG.out _ HK.out.below)).mono ?_
  rintro e y8 ⟨rfl, hb⟩
  have hsz6 : y7.heap.size ≤ y8.heap.size := hb.size
  replace HO1 := hide (HO1.out.below hb (Nat.le_refl _))
  replace HO2 := hide (HO2.out.below hb (Nat.le_refl _))
  replace HK := hide (HK.out.next hb)
  replace HB := hide (HB.out.nxt hb)
  clear hb gne
  have gne : (walkNum g1 != walkNum g1) = false := bne_self_eq_false _
  obtain ⟨LA, Lc, rfl, hl1, hl2⟩ := HO1.out.row18
  clear hl2
  cases g1 with
  | some g =>
    have hne0 : ((g : Int) + 1 != 0) = true := bne_iff_ne.2 (by omega)
    obtain rfl : r1 = [] := HQ1.out.2.2 (fun h => by cases h)
    obtain ⟨rfl, rfl⟩ := HQ3.out.2.2 (fun h => by cases h)
    simp only [walkNum] at gne ⊢
    go_wp2_with fail
    go_ret
    exact ⟨rfl, HK.out.below⟩
  | none =>
  clear gne
  simp only [walkNum]
  have hok : p.Ok ∧ 0 ≤ q ∧ q ≤ x.len := by
    rcases HQ1.out.1 with ⟨h, _⟩ | ⟨h, _⟩ | ⟨_, h⟩
    · cases h
    · cases h
    · exact h
  obtain ⟨hok, hq3, hq4⟩ := hok
  obtain ⟨i, rfl⟩ : ∃ i : Nat, q = i := ⟨q.toNat, by omega⟩
  have HI := hide (And.intro hok (show i ≤ x.text.size by have : x.text.size = x.len := rfl; omega))
  clear hok hq3 hq4
  have er1 : r1 = endList p x i := by have := HQ1.out.2.1 rfl; rwa [Int.toNat_natCast] at this
  have er2 : r2 = endList p x i := by have := HQ2.out.2.1 rfl; rwa [Int.toNat_natCast] at this
  have hz3 := HQ3.out.2.1 rfl
  rw [Int.toNat_natCast] at hz3
  subst er1
  subst er2
  have HR := hide (HRe.out x i y8 HX.out.2 HI.out.2 (by have := HX6.out.2; omega) (H6.out HI.out.1) HI.out.1 HK.out.ip)
  have HZ := hide hz3
  clear hz3 HQ1 HQ2 HQ3 HRe
  generalize endList p x i = R at *
  have ca := HK.out.bp.cell
  simp only [Po.cells] at ca
  have cs := HB.out.cell
  rw [← HX.out.1] at cs
  go_wp2_with fail
  refine HR.out.mono ?_
  rintro e y9 ⟨v3, rfl, ho3, hb⟩
  have HLA := hide (And.intro (fun g (e : LA = some ⟨g, 0, none⟩) => HL1.out g (by rw [e]; rfl)) (fun g (e : LA = some ⟨g, 0, none⟩) => Nat.lt_of_lt_of_le (HL1.out g (by rw [e]; rfl)) (by omega : y3.heap.size ≤ y8.heap.size)))
  replace HO1 := hide (HO1.out.below hb (Nat.le_refl _))
  replace HO2 := hide (HO2.out.below hb (Nat.le_refl _))
  replace HK := hide (HK.out.next hb)
  have HO3 := hide ho3
  clear ho3 hb ca cs HB HR
  go_wp2_with fail
  refine (sameInts_any _ HO1.out HO3.out).mono ?_
  rw [decide_eq_true (rfl : R = R)]
  rintro e y10 ⟨rfl, hb⟩
  replace HO1 := hide (HO1.out.below hb (Nat.le_refl _))
  replace HO2 := hide (HO2.out.below hb (Nat.le_refl _))
  replace HO3 := hide (HO3.out.below hb (Nat.le_refl _))
  replace HK := hide (HK.out.next hb)
  clear hb
  obtain ⟨A3, c3, rfl, h3l, h3c⟩ := HO3.out.form
  clear h3c
  go_wp2_with fail
  go_loopw [97] (fun kv wr => ∃ k : Nat, kv = .int .i64 k ∧ k ≤ R.length ∧ Below w.heap.size w wr ∧ Same (fun b => b < y10.heap.size ∧ ∀ g, LA = some ⟨g, 0, none⟩ → b ≠ g) y10 wr ∧ (0 < R.length → ∃ g cur, LA = some ⟨g, 0, none⟩ ∧ w.heap.size ≤ g ∧ Blk wr g 3 cur ∧ R.length ≤ cur.size)) (fun kv _ => R.length - (intOf kv).toNat)
  case atStart =>
    refine ⟨0, rfl, by omega, HK.out.below, Same.refl _ _, fun h => ?_⟩
    obtain ⟨g, cur, e, h1, h2, h3⟩ := HO1.out.blk18 h
    exact ⟨g, cur, e, by have := HWL.out; omega, h2, h3⟩
  case round =>
    obtain ⟨k, rfl, hk, hbel, hsame, hblk⟩ := hrel
    by_cases hlt : k < R.length
    case neg =>
      have g1 : decide ((k : Int) < (R.length : Int)) = false := decide_eq_false (by omega)
      have HH := hide (And.intro hsame hbel)
      clear hsame hbel hblk
      have HO2s := hide (HO2.out.shut18 HH.out.1 HLA.out.1)
      have HO3s := hide (HO3.out.shut18 HH.out.1 HLA.out.2)
      go_wp2_with fail
      refine (sameInts_any _ HO2s.out HO3s.out).mono ?_
      rw [decide_eq_true (rfl : R = R)]
      rintro e y11 ⟨rfl, hb⟩
      have HF := hide (HH.out.2.trans (hb.mono HH.out.2.size))
      have HO3t := hide (HO3s.out.below hb (Nat.le_refl _))
      clear hb HO2s HO3s HO1 HO2 HO3
      obtain ⟨A', c', he, _, hc3⟩ := HO3t.out.form
      injection he with he1 he2 he3
      subst he1
      subst he3
      clear he2
      rcases HZ.out with ⟨h1, rfl, rfl⟩ | ⟨h1, rfl⟩
      · obtain rfl : R = [] := by
          have := List.getElem?_eq_none_iff.1 h1
          exact List.eq_nil_of_length_eq_zero (by omega)
        clear h1 hc3 hk hlt g1
        go_wp2_with fail
        go_ret
        exact ⟨rfl, HF.out⟩
      · have hR0 : R.length - 1 < R.length := (List.getElem?_eq_some_iff.1 h1).1
        obtain ⟨g, rfl, hwg, hgy, hcell⟩ := hc3 _ _ h1
        have g2 : decide (0 < R.length) = true := decide_eq_true (by omega)
        have hR1 : 0 < R.length := by omega
        have ht1 : ((R.length : Int) - 1).toNat = R.length - 1 := by omega
        have hcell2 : y11.cell? ⟨g, ((R.length : Int) - 1).toNat, none⟩ = some (.int .i64 n3) := by rw [ht1]; exact hcell
        have HR1 := hide (And.intro h1 ht1)
        clear h1 hc3 ht1
        go_wp2_with fail
        go_ret
        refine ⟨?_, HF.out⟩
        simp
    have g1 : decide ((k : Int) < (R.length : Int)) = true := decide_eq_true (by omega)
    obtain ⟨g, cur, rfl, hwg, hbk, hcz⟩ := hblk (by omega)
    have hkc : k < cur.size := by omega
    have cc := hbk.cell k
    have cfr := hbk.frozen
    have HH := hide (And.intro hsame (And.intro hbel (And.intro hbk (And.intro hwg hcz))))
    clear hsame hbel hblk hwg hcz hbk
    rw [Array.getElem?_eq_getElem hkc] at cc
    go_wp2_with fail
    go_roundw
    case rel =>
      exact ⟨k + 1, by go_num, hlt, HH.out.2.1.setCell HH.out.2.2.2.1 _, HH.out.1.set (fun h => h.2 g rfl rfl) _, fun _ => ⟨g, _, rfl, HH.out.2.2.2.1, heap_setCell_same wr g k cur _ _ HH.out.2.2.1, by simp [HH.out.2.2.2.2]⟩⟩
    case measure => simp [intOf]; omega
end Go.Proofs.YtlomjepemnlliaaDoor
