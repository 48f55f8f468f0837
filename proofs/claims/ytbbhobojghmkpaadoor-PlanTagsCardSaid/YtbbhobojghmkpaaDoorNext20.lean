/- Firsts20: need.Firsts: the bytes with which a piece may begin. (Printed by gen_firsts20.py.)
Next20: need.Next: the least place from which a piece may begin. (Printed by gen_next20.py.) -/
import Derived.Test.YtbbhobojghmkpaaDoorReq20
import Derived.Test.YtbbhobojghmkpaaDoorPosMade
import Derived.Test.YtbbhobojghmkpaaDoorLaidLaw
set_option linter.unusedSimpArgs false
set_option linter.unusedVariables false
set_option linter.unnecessarySimpa false

/-! ## Firsts20 -/
namespace Go.Proofs.YtbbhobojghmkpaaDoor
open Go.RowKit

theorem Tryd.sizePos20 : (Tryd.prog.info? 75).map (·.size) = some 5 := by kernel_rfl
theorem Tryd.sizeEdge20 : (Tryd.prog.info? 79).map (·.size) = some 2 := by kernel_rfl
def seHd (s : Se) : Hd := ⟨0, s.1, s.2.1, s.2.2.1, s.2.2.2, 0, 0, 0, false⟩
def seSet (s : Se) : Nat → Bool := (seHd s).has
theorem se_cells {s : Se} (hw : Se.wf s) : Se.cells s = setC (seSet s) := by
  have h : (seHd s).wf := ⟨by unfold seHd IsI64; simp, hw.1, hw.2.1, hw.2.2.1, hw.2.2.2, by unfold seHd IsI64; simp, by unfold seHd IsI64; simp, by unfold seHd IsI64; simp⟩
  obtain ⟨h0, h1, h2, h3⟩ := wd_has (seHd s) h
  unfold seSet setC Se.cells
  rw [h0, h1, h2, h3]
  rfl
/-- The union of the sets to which edges lead. -/
def firstsF (sets : List Se) : List Ed → (Nat → Bool) → (Nat → Bool)
  | [], S => S
  | e :: r, S => firstsF sets r (fun x => S x || seSet (sets.getD e.1.toNat (0, 0, 0, 0)) x)
def T.firsts (t : T) : Nat → Bool := match t.check with
  | none => firstsF t.exp.laid.sets t.exp.laid.first (fun _ => false)
  | some _ => fun _ => false
def T.mayNull (t : T) : Bool := match t.check with
  | none => !decide (t.exp.laid.null = 0)
  | some _ => false
theorem join20 (S T : Nat → Bool) (g : Nat) (w : World) (hb : Blk w g 24 #[.int .u64 ((wd S 0 : Nat) : Int), .int .u64 ((wd S 1 : Nat) : Int), .int .u64 ((wd S 2 : Nat) : Int), .int .u64 ((wd S 3 : Nat) : Int), .int .u64 ((wd T 0 : Nat) : Int), .int .u64 ((wd T 1 : Nat) : Int), .int .u64 ((wd T 2 : Nat) : Int), .int .u64 ((wd T 3 : Nat) : Int)]) : Calls Tryd.prog 53 #[.slice (some ⟨g, 0, none⟩) 2 2] w (SetIs (fun x => S x || T x) w) := by
  have h := join_any [S, T] (some ⟨g, 0, none⟩) 2 w (by simp) (.inr ⟨g, 0, rfl, hb.lt, fun i x hi j u hu => by
    rw [Addr.add_lit, Nat.zero_add, hb.cell]
    have hi2 : i < 2 := by have := (List.getElem?_eq_some_iff.1 hi).1; simpa using this
    have hj : j < 4 := by have := (List.getElem?_eq_some_iff.1 hu).1; simpa [Se.cells] using this
    have : i = 0 ∨ i = 1 := by omega
    rcases this with e | e <;> subst e <;> (obtain rfl := Option.some.inj hi) <;> (have : j = 0 ∨ j = 1 ∨ j = 2 ∨ j = 3 := by omega) <;> rcases this with e | e | e | e <;> subst e <;> exact hu⟩)
  have e : (fun x => [S, T].any fun T => T x) = fun x => S x || T x := by funext x; simp
  rw [e] at h
  exact h
/-- What a tree's positions are good for. -/
theorem T.laid_fine {t : T} (hwf : t.wf) (h : t.check = none) : t.exp.laid.wf ∧ t.exp.laid.Ok ∧ t.exp.laid.sets.length < 1000000 := by
  have h1 := (T.check_none h).1
  have h2 := T.exp_flat t (t.flat_of h1 hwf)
  have h3 := T.exp_nodes t h1 (T.check_none h).2
  have h4 := (T.check_none h).2
  refine ⟨T.laid_wf h2 (by omega), t.exp.laid_ok, ?_⟩
  have h5 := t.exp.pos_len ⟨[], fun _ _ => 0⟩
  simp only [List.length_nil] at h5
  show t.exp.posOf.2.S.length < 1000000
  unfold T.posOf
  omega
theorem set_none : (setC fun _ => false).toArray = #[.int .u64 0, .int .u64 0, .int .u64 0, .int .u64 0] := by unfold setC; rw [wd_none, wd_none, wd_none, wd_none]; rfl
set_option maxRecDepth 100000 in
set_option maxHeartbeats 1500000 in
theorem firsts_any (t : T) (A : Option Addr) (c : Nat) (w : World) (a : Nat → Addr) (hN : t.nodes ≤ 1000000) (hwf : t.wf) (hE : Sent [0, 1, 2] w a) (hin : T.In w (· < w.heap.size) t A) :
    Calls Tryd.prog 21 #[.agg (t.hd.cells (.slice A t.subs.length c)).toArray] w fun e w' => e = .returned (.tuple #[setV t.firsts, .bool t.mayNull]) ∧ Below w.heap.size w w' := by
  have HO := hide (fun (y : World) (hy : Below w.heap.size w y) => posOfAll_any t A c y a hN (hin.next hy) (hE.below hy))
  have hfine := @T.laid_fine t hwf
  obtain ⟨F, hF⟩ : ∃ F, F = t.firsts := ⟨_, rfl⟩
  obtain ⟨nb, hnb⟩ : ∃ n, n = t.mayNull := ⟨_, rfl⟩
  rw [← hF, ← hnb]
  unfold T.firsts at hF
  unfold T.mayNull at hnb
  unfold Made17 at HO
  generalize t.exp.laid = P at *
  generalize t.check = ck at *
  clear hin hE hwf
  obtain ⟨h, l⟩ := t
  obtain ⟨kind, s0, s1, s2, s3, num, mn, mx, bare⟩ := h
  simp only [T.hd, T.subs, Hd.cells] at HO ⊢
  have hbel := ((Below.refl w.heap.size w).alloc (Nat.le_refl _) (.cells #[.int .i64 kind, .int .u64 s0, .int .u64 s1, .int .u64 s2, .int .u64 s3, .slice A l.length c, .int .i64 num, .int .i64 mn, .int .i64 mx, .bool bare] 27)).alloc (by simp) (.cells #[.int .u64 0, .int .u64 0, .int .u64 0, .int .u64 0] 24)
  have hb0 := (Blk.new w 27 #[.int .i64 kind, .int .u64 s0, .int .u64 s1, .int .u64 s2, .int .u64 s3, .slice A l.length c, .int .i64 num, .int .i64 mn, .int .i64 mx, .bool bare]).alloc (.cells #[.int .u64 0, .int .u64 0, .int .u64 0, .int .u64 0] 24)
  have hb1 := Blk.new (w.alloc (.cells #[.int .i64 kind, .int .u64 s0, .int .u64 s1, .int .u64 s2, .int .u64 s3, .slice A l.length c, .int .i64 num, .int .i64 mn, .int .i64 mx, .bool bare] 27)) 24 #[.int .u64 0, .int .u64 0, .int .u64 0, .int .u64 0]
  rw [World.size_alloc] at hb1
  have H0 := hide (And.intro hb0 (And.intro hb1 hbel))
  have c0 := hb0.cell
  clear hb0 hb1 hbel
  go_enter Tryd.func21, Tryd.ntmps21
  go_upto_region 1 with fail
  generalize ((w.alloc (.cells #[.int .i64 kind, .int .u64 s0, .int .u64 s1, .int .u64 s2, .int .u64 s3, .slice A l.length c, .int .i64 num, .int .i64 mn, .int .i64 mx, .bool bare] 27)).alloc (.cells #[.int .u64 0, .int .u64 0, .int .u64 0, .int .u64 0] 24)) = W at *
  go_wp2_with fail
  refine (HO.out W H0.out.2.2).mono ?_
  intro e w1 hres
  cases ck with
  | some gk =>
    have hres2 : e = .returned (.tuple #[.agg #[.slice none 0 0, .int .i64 0, .slice none 0 0, .slice none 0 0, .slice none 0 0], errV (a gk)]) ∧ Below W.heap.size W w1 := by
      rcases hres with ⟨g2, h1, h2, h3⟩ | ⟨h1, _⟩
      · obtain rfl := Option.some.inj h1
        exact ⟨h2, h3⟩
      · cases h1
    obtain ⟨rfl, hb1⟩ := hres2
    have hnn := fun W => run_eql_iface_nil (P := Tryd.prog) (w := W) 49 (by kernel_rfl) 169 (.pointer (some (a gk)))
    unfold errV
    have H1 := hide (And.intro (H0.out.2.1.nxt hb1) (H0.out.2.2.trans (hb1.mono H0.out.2.2.size)))
    have hbp := Blk.new w1 75 #[.slice none 0 0, .int .i64 0, .slice none 0 0, .slice none 0 0, .slice none 0 0]
    have hal := (Below.refl w1.heap.size w1).alloc (Nat.le_refl _) (.cells #[.slice none 0 0, .int .i64 0, .slice none 0 0, .slice none 0 0, .slice none 0 0] 75)
    have hz1 := hb1.size
    clear hb1 HO H0 c0 hres
    go_wp2_with (refine wpList_store_row rfl _ _ _ rfl w1.heap.size 0 _ _ _ rfl rfl hbp Tryd.sizePos20 (by simp) (by simp [Value.oneCell']) ?_)
    intro w2 hrow2 hg9 hz9
    have hbE : Below w1.heap.size w1 w2 := below_grew hal hg9 (Nat.le_refl _) (fun q hq => by rw [← Option.some.inj hq]; exact Nat.le_refl _)
    have H2 := hide (And.intro (H1.out.1.nxt hbE) (H1.out.2.trans (hbE.mono H1.out.2.size)))
    clear hrow2 hg9 hz9 hbE hbp hal H1
    have hz2 := H2.out.2.size
    go_wp2_with (refine wpList_store_row rfl _ _ _ rfl (w.heap.size + 1) 0 _ _ _ rfl rfl H2.out.1 Tryd.sizeSetO (by simp) (by simp [Value.oneCell']) ?_)
    intro w9 hrow2 hg9 hz9
    have hrow := hrow2.out
    rw [splice_full (by rfl)] at hrow
    have HF9 := hide (And.intro hrow (below_grew H2.out.2 hg9 (Nat.le_refl _) (fun q hq => by rw [← Option.some.inj hq]; omega)))
    clear hrow hrow2 hg9 hz9 H2
    go_wp2_with fail
    have c9 : ∀ i : Nat, _ = _ := HF9.out.1.cell
    refine bodyPost_ret (v := .tuple #[setV (fun _ => false), .bool false]) (by rw [setV_none]; simp [results, Tryd.results21, go_sem, c9]) rfl ?_
    exact ⟨by rw [hF, hnb], HF9.out.2⟩
  | none =>
    have hres2 : ∃ sv0 v1 v2 fv vs, e = .returned (.tuple #[.agg #[sv0, .int .i64 P.null, v1, v2, fv], .nilIface]) ∧ OwnPo W.heap.size P sv0 v1 v2 fv vs w1 ∧ Below W.heap.size W w1 := by
      rcases hres with ⟨g2, h1, h2, h3⟩ | ⟨h1, h2⟩
      · cases h1
      · exact h2
    obtain ⟨sv0, v1, v2, fv, vs, rfl, hown, hb1⟩ := hres2
    obtain ⟨⟨pas, paf, pal, paw, pcs, pcf, pcl, pcw⟩, hpa, hpi⟩ := hown.in_
    have hpi1 : PoIn (· < w1.heap.size) w1 P ⟨pas, paf, pal, paw, pcs, pcf, pcl, pcw⟩ := hpi.same (Same.refl _ _) fun b hb => hb.2
    simp only [Po.cells] at hpa
    injection hpa with hpa
    injection hpa with e1 hpa
    injection hpa with _ hpa
    injection hpa with e2 hpa
    injection hpa with e3 hpa
    injection hpa with e4 _
    subst e1 e2 e3 e4
    have HFI := hide (hfine rfl)
    have H1 := hide (And.intro (H0.out.2.1.nxt hb1) (And.intro (H0.out.2.2.trans (hb1.mono H0.out.2.2.size)) hpi1))
    have hbp := Blk.new w1 75 #[.slice none 0 0, .int .i64 0, .slice none 0 0, .slice none 0 0, .slice none 0 0]
    have hal := (Below.refl w1.heap.size w1).alloc (Nat.le_refl _) (.cells #[.slice none 0 0, .int .i64 0, .slice none 0 0, .slice none 0 0, .slice none 0 0] 75)
    have hz1 := hb1.size
    have hz0 := H0.out.2.1.lt
    clear hb1 HO H0 c0 hres hown hpi hpi1 hfine
    go_wp2_with (refine wpList_store_row rfl _ _ _ rfl w1.heap.size 0 _ _ _ rfl rfl hbp Tryd.sizePos20 (by simp) (by simp [Value.oneCell']) ?_)
    intro w2 hrow2 hg9 hz9
    have hrow := hrow2.out
    rw [splice_full (by rfl)] at hrow
    have hbE : Below w1.heap.size w1 w2 := below_grew hal hg9 (Nat.le_refl _) (fun q hq => by rw [← Option.some.inj hq]; exact Nat.le_refl _)
    have H2 := hide (And.intro (H1.out.1.nxt hbE) (And.intro (H1.out.2.1.trans (hbE.mono H1.out.2.1.size)) (And.intro (H1.out.2.2.next hbE) (show Blk w2 w1.heap.size 75 #[.slice pas P.sets.length pcs, .int .i64 P.null, .slice paf P.first.length pcf, .slice pal P.last.length pcl, .slice paw P.follow.length pcw] from hrow))))
    have hgp := hrow.lt
    have hg12 : w.heap.size + 1 < w1.heap.size := by omega
    clear hrow2 hrow hg9 hz9 hbE hbp hal H1 hz1 hz0
    generalize w1.heap.size = gp at *
    go_upto_region 5 with fail
    have hbs := Blk.new w2 24 #[.int .u64 0, .int .u64 0, .int .u64 0, .int .u64 0]
    have hbn := (Below.refl w2.heap.size w2).alloc (Nat.le_refl _) (.cells #[.int .u64 0, .int .u64 0, .int .u64 0, .int .u64 0] 24)
    generalize (w2.alloc (.cells #[.int .u64 0, .int .u64 0, .int .u64 0, .int .u64 0] 24)) = w3 at *
    rw [← set_none] at hbs
    have H3 := hide (And.intro hbs hbn)
    have c3 := (H2.out.2.2.2.nxt hbn).cell
    clear hbs hbn
    go_wp2_with fail
    go_loopw [20] (fun kv wr => ∃ (k : Nat) (S : Nat → Bool), kv = .int .i64 (k : Int) ∧ k ≤ P.first.length ∧ firstsF P.sets (P.first.drop k) S = F ∧ Blk wr w2.heap.size 24 (setC S).toArray ∧ Below w2.heap.size w2 wr) (fun kv _ => P.first.length - (intOf kv).toNat)
    case atStart => exact ⟨0, fun _ => false, rfl, Nat.zero_le _, hF.symm, H3.out.1, H3.out.2⟩
    case round =>
      clear c3 H3
      obtain ⟨k, S, rfl, hk, hinv, hbs, hbel⟩ := hrel
      have HH := hide (And.intro hbs hbel)
      have HV := hide hinv
      have hzs := hbs.lt
      clear hinv
      by_cases hlt : k < P.first.length
      case neg =>
        have g1 : decide ((k : Int) < (P.first.length : Int)) = false := decide_eq_false (by omega)
        have HE := hide (show F = S by rw [← HV.out, List.drop_eq_nil_of_le (by omega)]; rfl)
        have hq : (P.null == 0) = decide (P.null = 0) := by by_cases h : P.null = 0 <;> simp [h]
        clear hbs hbel
        go_upto_region 10 with fail
        refine wp_region_mix (fun z => Blk z w2.heap.size 24 (setC S).toArray ∧ Blk z gp 75 #[.slice pas P.sets.length pcs, .int .i64 P.null, .slice paf P.first.length pcf, .slice pal P.last.length pcl, .slice paw P.follow.length pcw]) [] (by kernel_rfl) (fun hcl => ?_)
        have hSb : Below wr.heap.size wr wr.drew := (Below.refl _ _).drew
        have hS : Blk wr.drew w2.heap.size 24 (setC S).toArray ∧ Blk wr.drew gp 75 #[.slice pas P.sets.length pcs, .int .i64 P.null, .slice paf P.first.length pcf, .slice pal P.last.length pcl, .slice paw P.follow.length pcw] := ⟨HH.out.1.nxt hSb, (H2.out.2.2.2.nxt HH.out.2).nxt hSb⟩
        have hB2 : Blk wr.drew (w.heap.size + 1) 24 #[.int .u64 0, .int .u64 0, .int .u64 0, .int .u64 0] := (H2.out.1.nxt HH.out.2).nxt hSb
        have hBw : Below w.heap.size w wr.drew := (H2.out.2.1.trans (HH.out.2.mono H2.out.2.1.size)).trans (hSb.mono (by have := H2.out.2.1.size; have := HH.out.2.size; omega))
        refine wpAnyT_take (i := 0) hcl rfl (by kernel_rfl) (v := ?_) (fun _ _ _ h => h) hS (Or.inl ⟨rfl, fun w' hS => ?_⟩) (fun hcl => ?_)
        rotate_left
        · skip
          have cb : ∀ i : Nat, _ = _ := hS.1.cell
          simp only [setC] at cb
          go_simp
          with_reducible rfl
        simp only [List.getElem_toArray, List.getElem_cons_zero, List.getElem_cons_succ, Act.put, List.setIfInBounds_toArray, List.set_cons_zero, List.set_cons_succ]
        refine wpAnyT_free (i := 1) hcl rfl (by kernel_rfl) (v := ?_) (fun _ _ _ h => h) hS (Or.inl ⟨rfl, fun w' _ => ?_⟩) (fun hcl => ?_)
        rotate_left
        · go_simp
          with_reducible rfl
        simp only [List.getElem_toArray, List.getElem_cons_zero, List.getElem_cons_succ, Act.put, List.setIfInBounds_toArray, List.set_cons_zero, List.set_cons_succ]
        refine wpAnyT_take (i := 2) hcl rfl (by kernel_rfl) (v := ?_) (fun _ _ _ h => h) hS (Or.inl ⟨rfl, fun w' hS => ?_⟩) (fun hcl => ?_)
        rotate_left
        · skip
          have cb := hS.2.cell
          go_simp
          with_reducible rfl
        simp only [List.getElem_toArray, List.getElem_cons_zero, List.getElem_cons_succ, Act.put, List.setIfInBounds_toArray, List.set_cons_zero, List.set_cons_succ]
        refine wpAnyT_free (i := 3) hcl rfl (by kernel_rfl) (v := ?_) (fun _ _ _ h => h) hS (Or.inl ⟨rfl, fun w' _ => ?_⟩) (fun hcl => ?_)
        rotate_left
        · go_simp
          with_reducible rfl
        simp only [List.getElem_toArray, List.getElem_cons_zero, List.getElem_cons_succ, Act.put, List.setIfInBounds_toArray, List.set_cons_zero, List.set_cons_succ]
        refine wpAnyT_step (i := 4) hcl rfl (by kernel_rfl) (fun hcl => ?_)
        simp only [List.getElem_toArray, List.getElem_cons_zero, List.getElem_cons_succ, Act.put, List.setIfInBounds_toArray, List.set_cons_zero, List.set_cons_succ]
        refine wpList_store_row rfl _ _ _ rfl (w.heap.size + 1) 0 _ _ _ rfl rfl hB2 Tryd.sizeSetO (by simp) (by simp [Value.oneCell']) ?_
        intro w9 hrow2 hg9 hz9
        refine wpList_nil ?_
        have hrow := hrow2.out
        rw [splice_full (by rfl)] at hrow
        have hb9 := below_grew hBw hg9 (Nat.le_refl _) (fun q hq => by rw [← Option.some.inj hq]; omega)
        have hS2 := hS
        clear hS
        have hS : Blk w9 w2.heap.size 24 (setC S).toArray ∧ Blk w9 gp 75 #[.slice pas P.sets.length pcs, .int .i64 P.null, .slice paf P.first.length pcf, .slice pal P.last.length pcl, .slice paw P.follow.length pcw] := ⟨hS2.1.grown hg9 (fun e => by have := Option.some.inj e; omega), hS2.2.grown hg9 (fun e => by have := Option.some.inj e; omega)⟩
        refine ⟨hS, ?_⟩
        have HF9 := hide (And.intro (show Blk w9 (w.heap.size + 1) 24 (setC S).toArray from hrow) hb9)
        clear hrow hrow2 hg9 hz9 hb9 hS2 hB2 hBw
        refine wpAnyT_free (i := 5) hcl rfl (by kernel_rfl) (v := ?_) (fun _ _ _ h => h) hS (Or.inl ⟨rfl, fun w' _ => ?_⟩) (fun hcl => ?_)
        rotate_left
        · go_simp
          with_reducible rfl
        simp only [List.getElem_toArray, List.getElem_cons_zero, List.getElem_cons_succ, Act.put, List.setIfInBounds_toArray, List.set_cons_zero, List.set_cons_succ]
        clear hS
        refine wpAnyT_done (by kernel_rfl) ?_ _
        go_wp2_with fail
        have c9 : ∀ i : Nat, _ = _ := HF9.out.1.cell
        simp only [setC] at c9
        refine bodyPost_ret (v := .tuple #[setV S, .bool (P.null != 0)]) (by unfold setV setC; simp [results, Tryd.results21, go_sem, c9]) rfl ?_
        exact ⟨by rw [HE.out, hnb]; simp [bne, hq], HF9.out.2⟩
      case pos =>
        have g1 : decide ((k : Int) < (P.first.length : Int)) = true := decide_eq_true (by omega)
        have hs := List.getElem?_eq_getElem hlt
        have hdrop : P.first.drop k = P.first[k] :: P.first.drop (k + 1) := List.drop_eq_getElem_cons hlt
        have heq := HV.out
        rw [hdrop, firstsF] at heq
        obtain ⟨bf, of, ef, hbf, hcf⟩ := LIn.at_ H2.out.2.2.1.first hs
        have hok := HFI.out.2.1.first.at_ hs
        generalize P.first[k] = ed at *
        have HQ := hide heq
        clear hs hdrop heq HV
        obtain ⟨tz, wy⟩ := ed
        have hto0 := hok.1
        have hto1 := hok.2.1
        obtain ⟨tn, rfl⟩ : ∃ n : Nat, tz = (n : Int) := ⟨tz.toNat, by simp only at hto0; omega⟩
        simp only at hto1
        have htn : tn < P.sets.length := by omega
        have hs2 := List.getElem?_eq_getElem htn
        obtain ⟨bs, os, es, hbs2, hcs⟩ := LIn.at_ H2.out.2.2.1.sets hs2
        have hse := se_cells (HFI.out.1.sets _ (List.getElem_mem htn))
        have hgd : P.sets.getD tn (0, 0, 0, 0) = P.sets[tn] := by rw [List.getD_eq_getElem?_getD, hs2]; rfl
        simp only [Int.toNat_natCast, hgd] at HQ
        generalize P.sets[tn] = se at *
        rw [hse] at hcs
        generalize seSet se = T1 at *
        simp only at ef es
        subst ef es
        have hcf2 := fun (y : World) (hy : Below w2.heap.size w2 y) => hcf.same (same_of_below hy) hbf
        have hcs2 := fun (y : World) (hy : Below w2.heap.size w2 y) => hcs.same (same_of_below hy) hbs2
        have HCS := hide hcs2
        have e0 := hcf2 wr hbel 0 _ rfl
        have e1 := hcf2 wr hbel 1 _ rfl
        rw [Addr.add_lit] at e0 e1
        simp only [Nat.add_zero] at e0
        have cp := (H2.out.2.2.2.nxt hbel).cell
        have hzb := Blk.new wr 79 #[.int .i64 0, .int .i64 0]
        have hal := (Below.refl wr.heap.size wr).alloc (Nat.le_refl _) (.cells #[.int .i64 0, .int .i64 0] 79)
        clear hs2 hcf hcs hcf2 hcs2 hse hgd hok hto0 hbs hbel
        go_wp2_with (first | refine wpList_store_row rfl _ _ _ rfl wr.heap.size 0 _ _ _ rfl rfl hzb Tryd.sizeEdge20 (by simp) (by simp [Value.oneCell']) ?_)
        intro w8 hrow2 hg9 hz9
        have hrow := hrow2.out
        rw [splice_full (by rfl)] at hrow
        have hbE : Below wr.heap.size wr w8 := below_grew hal hg9 (Nat.le_refl _) (fun q hq => by rw [← Option.some.inj hq]; exact Nat.le_refl _)
        have H8 := hide (And.intro (HH.out.1.nxt hbE) (And.intro (HH.out.2.trans (hbE.mono HH.out.2.size)) (show Blk w8 wr.heap.size 79 #[.int .i64 (tn : Int), .int .i64 wy] from hrow)))
        clear hrow2 hrow hg9 hz9 hbE hal hzb HH cp e0 e1
        have hzr := H8.out.2.2.lt
        have hgs := H8.out.1.lt
        generalize wr.heap.size = ge at *
        go_upto_region 8 with fail
        have hix : (0 : Int) ≤ (tn : Int) ∧ (tn : Int) < (P.sets.length : Int) := by omega
        refine wp_region_mix (fun z => Below w8.heap.size w8 z) [9] (by kernel_rfl) (fun hcl => ?_)
        have hS : Below w8.heap.size w8 w8.drew := (Below.refl _ _).drew
        generalize w8.drew = wD at *
        refine wpAnyT_take (i := 0) hcl rfl (by kernel_rfl) (v := ?_) (fun _ _ _ h => h) hS (Or.inl ⟨rfl, fun w' hS => ?_⟩) (fun hcl => ?_)
        rotate_left
        · skip
          have cb : ∀ i : Nat, _ = _ := (H8.out.1.nxt hS).cell
          simp only [setC] at cb
          go_simp
          with_reducible rfl
        simp only [List.getElem_toArray, List.getElem_cons_zero, List.getElem_cons_succ, Act.put, List.setIfInBounds_toArray, List.set_cons_zero, List.set_cons_succ]
        refine wpAnyT_free (i := 1) hcl rfl (by kernel_rfl) (v := ?_) (fun _ _ _ h => h) hS (Or.inl ⟨rfl, fun w' _ => ?_⟩) (fun hcl => ?_)
        rotate_left
        · go_simp
          with_reducible rfl
        simp only [List.getElem_toArray, List.getElem_cons_zero, List.getElem_cons_succ, Act.put, List.setIfInBounds_toArray, List.set_cons_zero, List.set_cons_succ]
        refine wpAnyT_take (i := 2) hcl rfl (by kernel_rfl) (v := ?_) (fun _ _ _ h => h) hS (Or.inl ⟨rfl, fun w' hS => ?_⟩) (fun hcl => ?_)
        rotate_left
        · skip
          have cb := ((H2.out.2.2.2.nxt H8.out.2.1).nxt hS).cell
          go_simp
          with_reducible rfl
        simp only [List.getElem_toArray, List.getElem_cons_zero, List.getElem_cons_succ, Act.put, List.setIfInBounds_toArray, List.set_cons_zero, List.set_cons_succ]
        refine wpAnyT_free (i := 3) hcl rfl (by kernel_rfl) (v := ?_) (fun _ _ _ h => h) hS (Or.inl ⟨rfl, fun w' _ => ?_⟩) (fun hcl => ?_)
        rotate_left
        · go_simp
          with_reducible rfl
        simp only [List.getElem_toArray, List.getElem_cons_zero, List.getElem_cons_succ, Act.put, List.setIfInBounds_toArray, List.set_cons_zero, List.set_cons_succ]
        refine wpAnyT_take (i := 4) hcl rfl (by kernel_rfl) (v := ?_) (fun _ _ _ h => h) hS (Or.inl ⟨rfl, fun w' hS => ?_⟩) (fun hcl => ?_)
        rotate_left
        · skip
          have cb := (H8.out.2.2.nxt hS).cell
          go_simp
          with_reducible rfl
        simp only [List.getElem_toArray, List.getElem_cons_zero, List.getElem_cons_succ, Act.put, List.setIfInBounds_toArray, List.set_cons_zero, List.set_cons_succ]
        refine wpAnyT_free (i := 5) hcl rfl (by kernel_rfl) (v := ?_) (fun _ _ _ h => h) hS (Or.inl ⟨rfl, fun w' _ => ?_⟩) (fun hcl => ?_)
        rotate_left
        · go_simp
          with_reducible rfl
        simp only [List.getElem_toArray, List.getElem_cons_zero, List.getElem_cons_succ, Act.put, List.setIfInBounds_toArray, List.set_cons_zero, List.set_cons_succ]
        refine wpAnyT_take (i := 6) hcl rfl (by kernel_rfl) (v := ?_) (fun _ _ _ h => h) hS (Or.inl ⟨rfl, fun w' hS => ?_⟩) (fun hcl => ?_)
        rotate_left
        · skip
          have hy := H8.out.2.1.trans (hS.mono H8.out.2.1.size)
          have q0 := HCS.out w' hy 0 _ rfl
          have q1 := HCS.out w' hy 1 _ rfl
          have q2 := HCS.out w' hy 2 _ rfl
          have q3 := HCS.out w' hy 3 _ rfl
          rw [Addr.add_lit] at q0 q1 q2 q3
          simp only [Nat.add_zero] at q0
          go_simp
          with_reducible rfl
        simp only [List.getElem_toArray, List.getElem_cons_zero, List.getElem_cons_succ, Act.put, List.setIfInBounds_toArray, List.set_cons_zero, List.set_cons_succ]
        refine wpAnyT_step (i := 7) hcl rfl (by kernel_rfl) (fun hcl => ?_)
        simp only [List.getElem_toArray, List.getElem_cons_zero, List.getElem_cons_succ, Act.put, List.setIfInBounds_toArray, List.set_cons_zero, List.set_cons_succ]
        go_wp2_with fail
        have hb8 := Blk.new wD 24 #[.int .u64 ((wd S 0 : Nat) : Int), .int .u64 ((wd S 1 : Nat) : Int), .int .u64 ((wd S 2 : Nat) : Int), .int .u64 ((wd S 3 : Nat) : Int), .int .u64 ((wd T1 0 : Nat) : Int), .int .u64 ((wd T1 1 : Nat) : Int), .int .u64 ((wd T1 2 : Nat) : Int), .int .u64 ((wd T1 3 : Nat) : Int)]
        have hbn := (Below.refl wD.heap.size wD).alloc (Nat.le_refl _) (.cells #[.int .u64 ((wd S 0 : Nat) : Int), .int .u64 ((wd S 1 : Nat) : Int), .int .u64 ((wd S 2 : Nat) : Int), .int .u64 ((wd S 3 : Nat) : Int), .int .u64 ((wd T1 0 : Nat) : Int), .int .u64 ((wd T1 1 : Nat) : Int), .int .u64 ((wd T1 2 : Nat) : Int), .int .u64 ((wd T1 3 : Nat) : Int)] 24)
        generalize (wD.alloc (.cells #[.int .u64 ((wd S 0 : Nat) : Int), .int .u64 ((wd S 1 : Nat) : Int), .int .u64 ((wd S 2 : Nat) : Int), .int .u64 ((wd S 3 : Nat) : Int), .int .u64 ((wd T1 0 : Nat) : Int), .int .u64 ((wd T1 1 : Nat) : Int), .int .u64 ((wd T1 2 : Nat) : Int), .int .u64 ((wd T1 3 : Nat) : Int)] 24)) = wE at *
        have hS2 := hS.trans (hbn.mono hS.size)
        clear hS
        have hS := hS2
        refine ⟨hS, ?_⟩
        have hj := join20 S T1 wD.heap.size wE hb8
        obtain ⟨S9, hS9⟩ : ∃ X, X = (fun x => S x || T1 x) := ⟨_, rfl⟩
        rw [← hS9] at hj
        have HS9 := hide hS9
        clear hS9 hS2 hbn hb8
        refine wpAnyT_step (i := 8) hcl rfl (by kernel_rfl) (fun hcl => ?_)
        simp only [List.getElem_toArray, List.getElem_cons_zero, List.getElem_cons_succ, Act.put, List.setIfInBounds_toArray, List.set_cons_zero, List.set_cons_succ]
        go_wp2_with fail
        refine hj.mono ?_
        rintro e wF ⟨rfl, hb3⟩
        clear hj
        have hS2 := hS.trans (hb3.mono hS.size)
        clear hS
        have hS := hS2
        unfold setV setC
        go_wp2_with fail
        refine ⟨hS, ?_⟩
        have HSF := hide hS
        clear hS2 hb3 hS
        refine wpAnyT_last (i := 9) hcl rfl (by kernel_rfl) (by kernel_rfl) (fun hcl => ?_)
        simp only [List.getElem_toArray, List.getElem_cons_zero, List.getElem_cons_succ, Act.put, List.setIfInBounds_toArray, List.set_cons_zero, List.set_cons_succ]
        refine wpList_store_row rfl _ _ _ rfl w2.heap.size 0 _ _ _ rfl rfl (H8.out.1.nxt HSF.out) Tryd.sizeSetO (by simp; exact Nat.le_of_eq rfl) (by simp [Value.oneCell', setC]) ?_
        intro w9 hrow2 hg9 hz9
        refine wpList_nil ?_
        have hrow := hrow2.out
        rw [splice_full (by rfl)] at hrow
        have H9 := hide (And.intro (show Blk w9 w2.heap.size 24 (setC S9).toArray from hrow) (below_grew (H8.out.2.1.trans (HSF.out.mono H8.out.2.1.size)) hg9 (Nat.le_refl _) (fun q hq => by rw [← Option.some.inj hq]; exact Nat.le_refl _)))
        clear hrow hrow2 hg9 hz9
        have hnf : P.first.length ≤ 9223372036854775807 := HFI.out.1.nf
        refine wpAnyT_done (by kernel_rfl) ?_ _
        go_wp2_with fail
        go_roundw
        case rel => exact ⟨k + 1, S9, by go_num, hlt, by rw [HS9.out]; exact HQ.out, H9.out.1, H9.out.2⟩
        case measure => simp [intOf]; omega
end Go.Proofs.YtbbhobojghmkpaaDoor

/-! ## Next20 -/
namespace Go.Proofs.YtbbhobojghmkpaaDoor
open Go.RowKit

end Go.Proofs.YtbbhobojghmkpaaDoor
